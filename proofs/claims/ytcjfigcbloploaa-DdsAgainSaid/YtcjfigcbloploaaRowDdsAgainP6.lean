/- A part of the proof, put together of my texts: Pure18c, Pure17i, Pure18d, Pure18e, Pure18j, Pure18f, Pure18g, Pure18k, Pure18m, Pure18n, Pure18o, Pure18p, Pure18q, Pure18r. -/
import Derived.Test.YtcjfigcbloploaaRowDdsAgainP5
set_option linter.unusedVariables false
set_option linter.unusedSimpArgs false
namespace Go.AE.Gn
open Go Go.AE
def rest18 (F : Nat) (b : List Int) (sd la tx : Int) (f w h lay fac lev : Int) (at_ : Nat) (e : Int) : Option (Int × (Int × (Int × (Int × (Int × (Int × (List (List Int) × (Int × Unit)))))))) :=
  cond (e != 0) (some (0, (0, (0, (0, (0, (0, ([], (e, ())))))))))
    ((ref18_Blocks F f w h lay fac lev b (at_ : Int) (sd, (la, (tx, ()))) 4).bind fun r => some (r.1, (r.2.1, (r.2.2.1, (r.2.2.2.1, (r.2.2.2.2.1, (r.2.2.2.2.2.1, (r.2.2.2.2.2.2.1, (r.2.2.2.2.2.2.2.1, ())))))))))
structure Hd18 (b : List Int) (f w h lay fac lev : Int) (at_ : Nat) : Prop where
  w2 : 0 ≤ w ∧ w < 4294967296
  h2 : 0 ≤ h ∧ h < 4294967296
  y2 : 0 ≤ lay ∧ lay < 4294967296
  v2 : 0 ≤ lev ∧ lev < 4294967296
  c2 : fac = 1 ∨ fac = 6
  at2 : at_ ≤ b.length
  f6 : f ≤ 6
theorem condT {α : Type} (a b : α) : cond true a b = a := Eq.trans (b := a) rfl rfl
theorem condF {α : Type} (a b : α) : cond false a b = b := Eq.trans (b := b) rfl rfl
theorem bneI {a b : Int} (h : a ≠ b) : (a != b) = true := by simp [bne, h]
theorem head18 {F : Nat} (hF : 600 ≤ F) {b : List Int} (hb : Bytes b) (hl : b.length ≤ 1099511627776) (sd la tx : Int) :
    ∃ (f w h lay fac lev : Int) (at_ : Nat) (e : Int), dds_header F b = some (f, (w, (h, (lay, (fac, (lev, ((at_ : Int), (e, ())))))))) ∧ ref18_Read F b (sd, (la, (tx, ()))) = rest18 F b sd la tx f w h lay fac lev at_ e ∧ (e = 0 → Hd18 b f w h lay fac lev at_) := by
  have err : ∀ e : Int, e ≠ 0 → rest18 F b sd la tx 0 0 0 0 0 0 0 e = some (0, (0, (0, (0, (0, (0, ([], (e, ())))))))) := by
    intro e he
    unfold rest18
    rw [bneI he, condT]
  have bad : ∀ e : Int, e ≠ 0 → ∀ {x : Option (Int × (Int × (Int × (Int × (Int × (Int × (Int × (Int × Unit))))))))} {y : Option (Int × (Int × (Int × (Int × (Int × (Int × (List (List Int) × (Int × Unit))))))))},
      x = some (0, (0, (0, (0, (0, (0, (0, (e, ())))))))) → y = some (0, (0, (0, (0, (0, (0, ([], (e, ())))))))) →
      ∃ (f w h lay fac lev : Int) (at_ : Nat) (e : Int), x = some (f, (w, (h, (lay, (fac, (lev, ((at_ : Int), (e, ())))))))) ∧ y = rest18 F b sd la tx f w h lay fac lev at_ e ∧ (e = 0 → Hd18 b f w h lay fac lev at_) := by
    intro e he x y hx hy
    exact ⟨0, 0, 0, 0, 0, 0, 0, e, hx, by rw [err e he, hy], fun h => absurd h he⟩
  have good : ∀ (f w h lay fac lev : Int) (at_ : Nat), Hd18 b f w h lay fac lev at_ → ∀ {x : Option (Int × (Int × (Int × (Int × (Int × (Int × (Int × (Int × Unit))))))))} {y : Option (Int × (Int × (Int × (Int × (Int × (Int × (List (List Int) × (Int × Unit))))))))},
      x = some (f, (w, (h, (lay, (fac, (lev, ((at_ : Int), (0, ())))))))) → y = ((ref18_Blocks F f w h lay fac lev b (at_ : Int) (sd, (la, (tx, ()))) 4).bind fun r => some (r.1, (r.2.1, (r.2.2.1, (r.2.2.2.1, (r.2.2.2.2.1, (r.2.2.2.2.2.1, (r.2.2.2.2.2.2.1, (r.2.2.2.2.2.2.2.1, ()))))))))) →
      ∃ (f w h lay fac lev : Int) (at_ : Nat) (e : Int), x = some (f, (w, (h, (lay, (fac, (lev, ((at_ : Int), (e, ())))))))) ∧ y = rest18 F b sd la tx f w h lay fac lev at_ e ∧ (e = 0 → Hd18 b f w h lay fac lev at_) :=
    fun f w h lay fac lev at_ H {x y} hx hy => ⟨f, w, h, lay, fac, lev, at_, 0, hx, by unfold rest18; rw [bne_self_eq_false, condF, hy], fun _ => H⟩
  unfold dds_header ref18_Read
  dsimp only
  by_cases q1 : b.length < 4
  · rw [decide_eq_true (show ((b.length : Nat) : Int) < 4 by omega)]
    simp only [condT]
    exact bad 2 (by decide) rfl rfl
  rw [decide_eq_false (show ¬ ((b.length : Nat) : Int) < 4 by omega), decide_eq_true (show 4 ≤ b.length by omega)]
  simp only [condF, condT]
  rcases (Bool.eq_false_or_eq_true ((List.take 4 b == bytesL (ByteArray.mk (List.toArray [68, 68, 83, 32]))))).symm with q2 | q2
  · rw [q2]
    simp only [Bool.not_true, Bool.not_false, condT, condF]
    exact bad 3 (by decide) rfl rfl
  rw [q2]
  simp only [Bool.not_true, condF]
  by_cases q3 : b.length < 128
  · rw [decide_eq_true (show ((b.length : Nat) : Int) < 128 by omega)]
    simp only [condT]
    exact bad 2 (by decide) rfl rfl
  rw [decide_eq_false (show ¬ ((b.length : Nat) : Int) < 128 by omega), decide_eq_true (show 88 ≤ b.length by omega)]
  simp only [condF, condT]
  obtain ⟨X, hX⟩ : ∃ X : Nat → Nat, ∀ p, g4 b p false = X p := ⟨fun p => g4 b p false, fun _ => rfl⟩
  have L : ∀ p, X p < 4294967296 := fun p => by rw [← hX]; exact g4_lt hb p false
  have h10 : 10 ≤ F := by omega
  have d0 := c1_is h10 hb hl (i := 0) (p := 4) rfl (by omega)
  have d18 := c1_is h10 hb hl (i := 18) (p := 76) rfl (by omega)
  have d19 := c1_is h10 hb hl (i := 19) (p := 80) rfl (by omega)
  have d3 := c1_is h10 hb hl (i := 3) (p := 16) rfl (by omega)
  have d2 := c1_is h10 hb hl (i := 2) (p := 12) rfl (by omega)
  have d27 := c1_is h10 hb hl (i := 27) (p := 112) rfl (by omega)
  have d6 := c1_is h10 hb hl (i := 6) (p := 28) rfl (by omega)
  have d1 := c1_is h10 hb hl (i := 1) (p := 8) rfl (by omega)
  have e4 := get18_is h10 hb hl (p := 4) (by omega)
  have e76 := get18_is h10 hb hl (p := 76) (by omega)
  have e80 := get18_is h10 hb hl (p := 80) (by omega)
  have e16 := get18_is h10 hb hl (p := 16) (by omega)
  have e12 := get18_is h10 hb hl (p := 12) (by omega)
  have e112 := get18_is h10 hb hl (p := 112) (by omega)
  have e28 := get18_is h10 hb hl (p := 28) (by omega)
  have e8 := get18_is h10 hb hl (p := 8) (by omega)
  have a20 : dds_at F 20 = some (84, ()) := by
    unfold dds_at
    rw [w64 (x := 20 + 1) (by omega) (by omega), w64 (x := 4 * (20 + 1)) (by omega) (by omega)]
    rfl
  simp only [Int.natCast_zero, Int.cast_ofNat_Int, Int.natCast_one] at d0 d18 d19 d3 d2 d27 d6 d1 e4 e76 e80 e16 e12 e112 e28 e8
  simp only [gI, hX] at d0 d18 d19 d3 d2 d27 d6 d1 e4 e76 e80 e16 e12 e112 e28 e8
  have t4 := bit_eq (L 80) (k := 2) (m := 4) (by omega) rfl
  have u4 := rbit0 (m := 4) (L 80)
  have tv := bit_ne (L 112) (k := 21) (m := 2097152) (by omega) rfl
  have uv := rbit1 (m := 2097152) (L 112)
  have tc := bit_ne (L 112) (k := 9) (m := 512) (by omega) rfl
  have uc := rbit1 (m := 512) (L 112)
  have tm := bit_ne (L 8) (k := 17) (m := 131072) (by omega) rfl
  have um := rbit1 (m := 131072) (L 8)
  have t6 := bits6 (L 112)
  have u6 := rbits6 (L 112)
  simp only [Int.cast_ofNat_Int] at t4 u4 tv uv tc uc tm um
  simp only [d0, e4, obd, d18, e76, d19, e80, d3, e16, d2, e12, e112, a20]
  rcases Bool.eq_false_or_eq_true ((((X 4 : Nat) : Int) != 124)) with q4 | q4
  · rw [q4]
    simp only [Bool.not_true, Bool.not_false, condT, condF]
    exact bad 4 (by decide) rfl rfl
  rw [q4]
  simp only [condF]
  rcases Bool.eq_false_or_eq_true ((((X 76 : Nat) : Int) != 32)) with q5 | q5
  · rw [q5]
    simp only [Bool.not_true, Bool.not_false, condT, condF]
    exact bad 4 (by decide) rfl rfl
  rw [q5]
  simp only [condF, t4, u4]
  rcases (Bool.eq_false_or_eq_true (decide (X 80 / 4 % 2 = 1))).symm with q6 | q6
  · rw [q6]
    simp only [Bool.not_true, Bool.not_false, condT, condF]
    exact bad 5 (by decide) rfl rfl
  rw [q6]
  simp only [Bool.not_true, condF]
  have w88 : IntKind.wrap .i64 ((84 : Int) + 4) = 88 := w64 (by omega) (by omega)
  have g88 : (decide ((0 : Int) ≤ 84) && (decide ((0 : Int) ≤ 88) && (decide (Int.toNat 84 ≤ Int.toNat 88) && decide (Int.toNat 88 ≤ b.length)))) = true := by
    rw [show Int.toNat 88 = 88 from rfl, decide_eq_true (show 88 ≤ b.length by omega)]
    rfl
  have p4 : psub (Int.toNat 88) (Int.toNat 84) = 4 := rfl
  have t84 : Int.toNat 84 = 84 := rfl
  simp only [w88, g88, condT]
  simp only [p4]
  simp only [t84]
  have G := fun p => (show 0 ≤ ((X p : Nat) : Int) ∧ ((X p : Nat) : Int) < 4294967296 from by have := L p; omega)
  rcases Bool.eq_false_or_eq_true ((List.take 4 (List.drop 84 b) == bytesL (ByteArray.mk (List.toArray [68, 88, 49, 48])))) with q7 | q7
  · rw [q7]
    simp only [condT]
    by_cases q8 : b.length < 148
    · rw [decide_eq_true (show ((b.length : Nat) : Int) < 148 by omega)]
      simp only [condT]
      exact bad 2 (by decide) rfl rfl
    rw [decide_eq_false (show ¬ ((b.length : Nat) : Int) < 148 by omega)]
    simp only [condF]
    have d31 := c1_is h10 hb hl (i := 31) (p := 128) rfl (by omega)
    have d32 := c1_is h10 hb hl (i := 32) (p := 132) rfl (by omega)
    have d33 := c1_is h10 hb hl (i := 33) (p := 136) rfl (by omega)
    have d34 := c1_is h10 hb hl (i := 34) (p := 140) rfl (by omega)
    have e128 := get18_is h10 hb hl (p := 128) (by omega)
    have e132 := get18_is h10 hb hl (p := 132) (by omega)
    have e136 := get18_is h10 hb hl (p := 136) (by omega)
    have e140 := get18_is h10 hb hl (p := 140) (by omega)
    simp only [Int.cast_ofNat_Int] at d31 d32 d33 d34 e128 e132 e136 e140
    simp only [gI, hX] at d31 d32 d33 d34 e128 e132 e136 e140
    have tf := bit_ne (L 136) (k := 2) (m := 4) (by omega) rfl
    have uf := rbit1 (m := 4) (L 136)
    simp only [Int.cast_ofNat_Int] at tf uf
    obtain ⟨⟨f, e, ⟨⟩⟩, ef⟩ := (rFormat_is (((X 128 : Nat) : Int)) 1).2
    unfold dds_dx10_header_c1 format_Format
    simp only [d31, e128, obd, rFmt_is hF, ef]
    by_cases q9 : e = 0
    rotate_left
    · simp only [bneI q9, condT, obd]
      exact bad e q9 rfl rfl
    subst q9
    have f6 := formatF_le ef
    simp only [bne_self_eq_false, condF, d32, e132, obd]
    rcases Bool.eq_false_or_eq_true ((((X 132 : Nat) : Int) != 3)) with q10 | q10
    · rw [q10]
      simp only [condT, obd]
      exact bad 4 (by decide) rfl rfl
    rw [q10]
    simp only [condF, d34, d33, e140, e136, obd, tf, uf]
    cases q11 : decide (X 136 / 4 % 2 = 1)
    all_goals
      simp only [condF, condT, obd, bne_self_eq_false, d27, tv, uv]
      rcases Bool.eq_false_or_eq_true (decide (X 112 / 2097152 % 2 = 1)) with q12 | q12
      · rw [q12]
        simp only [Bool.not_true, Bool.not_false, condT, condF]
        exact bad 4 (by decide) rfl rfl
      rw [q12]
      simp only [condF, d6, d1, e8, e28, obd, tm, um]
      rcases (Bool.eq_false_or_eq_true (decide (X 8 / 131072 % 2 = 1))).symm with q13 | q13
      · rw [q13]
        simp only [Bool.not_true, Bool.not_false, condT, condF]
        exact good _ _ _ _ _ _ 148 ⟨G _, G _, G _, by omega, by omega, by omega, f6⟩ rfl rfl
      rw [q13]
      simp only [condT]
      rcases (Bool.eq_false_or_eq_true ((((X 28 : Nat) : Int) != 0))).symm with q14 | q14
      · rw [q14]
        simp only [Bool.not_true, Bool.not_false, condT, condF]
        exact good _ _ _ _ _ _ 148 ⟨G _, G _, G _, by omega, by omega, by omega, f6⟩ rfl rfl
      · rw [q14]
        simp only [Bool.not_true, Bool.not_false, condT, condF]
        exact good _ _ _ _ _ _ 148 ⟨G _, G _, G _, G _, by omega, by omega, f6⟩ rfl rfl
  · rw [q7]
    simp only [condF]
    obtain ⟨⟨f, e, ⟨⟩⟩, ef⟩ := (rLetters_is F (List.take 4 (List.drop 84 b))).2
    unfold dds_older format_Letters
    simp only [d27, obd, (rLetters_is F _).1, ef]
    by_cases q9 : e = 0
    rotate_left
    · simp only [bneI q9, condT, obd]
      exact bad e q9 rfl rfl
    subst q9
    have f6 := lettersF_le ef
    simp only [bne_self_eq_false, condF, tc, uc, t6, u6]
    rcases Bool.eq_false_or_eq_true (decide (X 112 / 512 % 2 = 1)) with q10 | q10
    · rw [q10]
      simp only [condT]
      rcases (Bool.eq_false_or_eq_true (decide (X 112 / 1024 % 64 = 63))).symm with q11 | q11
      · rw [q11]
        simp only [Bool.not_true, Bool.not_false, condT, condF]
        exact bad 4 (by decide) rfl rfl
      rw [q11]
      simp only [condF, condT, Bool.not_true, obd, bne_self_eq_false, d27, tv, uv]
      rcases Bool.eq_false_or_eq_true (decide (X 112 / 2097152 % 2 = 1)) with q12 | q12
      · rw [q12]
        simp only [Bool.not_true, Bool.not_false, condT, condF]
        exact bad 4 (by decide) rfl rfl
      rw [q12]
      simp only [condF, d6, d1, e8, e28, obd, tm, um]
      rcases (Bool.eq_false_or_eq_true (decide (X 8 / 131072 % 2 = 1))).symm with q13 | q13
      · rw [q13]
        simp only [Bool.not_true, Bool.not_false, condT, condF]
        exact good _ _ _ _ _ _ 128 ⟨G _, G _, by omega, by omega, by omega, by omega, f6⟩ rfl rfl
      rw [q13]
      simp only [condT]
      rcases (Bool.eq_false_or_eq_true ((((X 28 : Nat) : Int) != 0))).symm with q14 | q14
      · rw [q14]
        simp only [Bool.not_true, Bool.not_false, condT, condF]
        exact good _ _ _ _ _ _ 128 ⟨G _, G _, by omega, by omega, by omega, by omega, f6⟩ rfl rfl
      · rw [q14]
        simp only [Bool.not_true, Bool.not_false, condT, condF]
        exact good _ _ _ _ _ _ 128 ⟨G _, G _, by omega, G _, by omega, by omega, f6⟩ rfl rfl
    · rw [q10]
      simp only [condF, obd, bne_self_eq_false, d27, tv, uv]
      rcases Bool.eq_false_or_eq_true (decide (X 112 / 2097152 % 2 = 1)) with q12 | q12
      · rw [q12]
        simp only [Bool.not_true, Bool.not_false, condT, condF]
        exact bad 4 (by decide) rfl rfl
      rw [q12]
      simp only [condF, d6, d1, e8, e28, obd, tm, um]
      rcases (Bool.eq_false_or_eq_true (decide (X 8 / 131072 % 2 = 1))).symm with q13 | q13
      · rw [q13]
        simp only [Bool.not_true, Bool.not_false, condT, condF]
        exact good _ _ _ _ _ _ 128 ⟨G _, G _, by omega, by omega, by omega, by omega, f6⟩ rfl rfl
      rw [q13]
      simp only [condT]
      rcases (Bool.eq_false_or_eq_true ((((X 28 : Nat) : Int) != 0))).symm with q14 | q14
      · rw [q14]
        simp only [Bool.not_true, Bool.not_false, condT, condF]
        exact good _ _ _ _ _ _ 128 ⟨G _, G _, by omega, by omega, by omega, by omega, f6⟩ rfl rfl
      · rw [q14]
        simp only [Bool.not_true, Bool.not_false, condT, condF]
        exact good _ _ _ _ _ _ 128 ⟨G _, G _, by omega, G _, by omega, by omega, f6⟩ rfl rfl
end Go.AE.Gn
set_option linter.unusedVariables false
set_option linter.unusedSimpArgs false
namespace Go.AE.Gn
open Go Go.AE
theorem wNat {n : Nat} (h : n ≤ 9223372036854775807) : IntKind.wrap .i64 (n : Int) = (n : Int) := w64 (by omega) (by omega)
def tl (n : Nat) : Nat := (n - 1) / 4 + 1
theorem tl_pos (n : Nat) : 1 ≤ tl n := by unfold tl; omega
theorem Tiles_is (F : Nat) {w h : Nat} (w1 : 1 ≤ w) (h1 : 1 ≤ h) (wb : w < 4611686018427387904) (hb : h < 4611686018427387904) : image_Tiles F (w : Int) (h : Int) = some (((tl w : Nat) : Int), (((tl h : Nat) : Int), ())) := by
  have one : ∀ n : Nat, 1 ≤ n → n < 4611686018427387904 → IntKind.wrap .i64 ((IntKind.wrap .i64 (Int.tdiv (IntKind.wrap .i64 ((n : Int) - (1 : Int))) (4 : Int))) + (1 : Int)) = ((tl n : Nat) : Int) := by
    intro n h1 h2
    have e : (n : Int) - 1 = ((n - 1 : Nat) : Int) := by omega
    have d : Int.tdiv ((n - 1 : Nat) : Int) 4 = (((n - 1) / 4 : Nat) : Int) := rfl
    have e2 : (((n - 1) / 4 : Nat) : Int) + 1 = ((tl n : Nat) : Int) := by unfold tl; omega
    rw [e, wNat (by omega), d, wNat (by omega), e2, wNat (by unfold tl; omega)]
  unfold image_Tiles
  rw [decide_eq_false (show ¬ (w : Int) < 1 by omega), cond_false, decide_eq_false (show ¬ (h : Int) < 1 by omega), cond_false, one w w1 wb, one h h1 hb]
theorem go17_val {F : Nat} {f : Int} {w h : Nat} : ∀ {m s : Nat} {acc a : List Int}, go17 F f w h (List.range' s m) acc = .inl a → a = acc ++ (List.range' s m).map fun j => (B17 F f ((sd w j : Nat) : Int) ((sd h j : Nat) : Int)).1
  | 0, s, acc, a, e => by
    cases e
    simp
  | m + 1, s, acc, a, e => by
    rw [List.range'_succ] at e ⊢
    unfold go17 at e
    by_cases c : (B17 F f (sd w s : Nat) (sd h s : Nat)).2 = 0
    · rw [if_pos c] at e
      have := go17_val e
      rw [this, List.map_cons, List.append_assoc]
      rfl
    · rw [if_neg c] at e
      cases e
theorem in_is (F : Nat) {a b : Nat} (h : a < b) : layout_in F (a : Int) (b : Int) = some (true, ()) := by
  unfold layout_in
  rw [decide_eq_true (show (0 : Int) ≤ (a : Int) by omega), cond_true, decide_eq_true (show (a : Int) < (b : Int) by omega)]
theorem Part_is (F : Nat) {b : List Int} {at_ n : Nat} (h : at_ + n ≤ b.length) (hb : b.length ≤ 1099511627776) : field_Part F b (at_ : Int) (n : Int) = some ((b.drop at_).take n, ((0 : Int), ())) := by
  unfold field_Part field_room
  have e : (at_ : Int) + (n : Int) = ((at_ + n : Nat) : Int) := by omega
  have e2 : ((b.length : Nat) : Int) - (at_ : Int) = ((b.length - at_ : Nat) : Int) := by omega
  rw [decide_eq_false (show ¬ (at_ : Int) < 0 by omega), cond_false, decide_eq_false (show ¬ (n : Int) < 0 by omega), cond_false]
  dsimp only
  rw [decide_eq_true (show (at_ : Int) ≤ ((b.length : Nat) : Int) by omega), cond_true, obd, e2, w64 (by omega) (by omega), e, w64 (by omega) (by omega)]
  dsimp only
  rw [decide_eq_true (show (n : Int) ≤ ((b.length - at_ : Nat) : Int) by omega), Bool.not_true, cond_false]
  rw [Int.toNat_natCast, Int.toNat_natCast, decide_eq_true (show (0 : Int) ≤ (at_ : Int) by omega), decide_eq_true (show (0 : Int) ≤ ((at_ + n : Nat) : Int) by omega), decide_eq_true (show at_ ≤ at_ + n by omega), decide_eq_true h, decide_eq_true (show at_ + n = at_ + n from rfl)]
  rw [psub_eq, show at_ + n - at_ = n by omega]
  have hc : slices_Clone_byte_byte F (List.take n (List.drop at_ b)) = some (List.take n (List.drop at_ b), ()) := by
    unfold slices_Clone_byte_byte
    exact cloneF_is (by rw [List.length_take, List.length_drop]; omega)
  rw [hc]
  rfl
section
variable {F k w h lay fac lev : Nat} {D : List (List Int)} {P : List (List Int × List Int)}
structure Tx (F k w h lay fac lev : Nat) (D : List (List Int)) : Prop where
  hF : 600 ≤ F
  hk : Fmt k
  w1 : 1 ≤ w
  h1 : 1 ≤ h
  wb : w ≤ 4096
  hb : h ≤ 4096
  y1 : 1 ≤ lay
  yb : lay ≤ 100
  f1 : 1 ≤ fac
  fb : fac ≤ 6
  v1 : 1 ≤ lev
  vb : lev ≤ 63
  hD : D.length = lay * fac * lev
  each : ∀ n, n < D.length → (D.getD n []).length = tl (sd w (n % lev)) * tl (sd h (n % lev)) * bytes13 k
theorem Tx.bound (T : Tx F k w h lay fac lev D) {n : Nat} (hn : n < D.length) : (D.getD n []).length ≤ 1024 * 1024 * 16 ∧ tl (sd w (n % lev)) * tl (sd h (n % lev)) ≤ 1024 * 1024 := by
  have b1 : tl (sd w (n % lev)) ≤ 1024 := by have := sd_le w (n % lev) T.w1; have := T.wb; unfold tl; omega
  have b2 : tl (sd h (n % lev)) ≤ 1024 := by have := sd_le h (n % lev) T.h1; have := T.hb; unfold tl; omega
  have b3 : tl (sd w (n % lev)) * tl (sd h (n % lev)) ≤ 1024 * 1024 := Nat.mul_le_mul b1 b2
  rw [T.each n hn]
  exact ⟨Nat.mul_le_mul b3 (bytes13_ge k).2, b3⟩
theorem Tx.place (T : Tx F k w h lay fac lev D) {y c v : Nat} (hy : y < lay) (hc : c < fac) (hv : v < lev) : (y * fac + c) * lev + v < D.length ∧ ((y * fac + c) * lev + v) % lev = v := by
  have a1 : y * fac + c < lay * fac := by
    have : (y + 1) * fac ≤ lay * fac := Nat.mul_le_mul_right _ hy
    rw [Nat.succ_mul] at this
    omega
  have a2 : (y * fac + c + 1) * lev ≤ lay * fac * lev := Nat.mul_le_mul_right _ a1
  rw [Nat.succ_mul] at a2
  rw [T.hD]
  refine ⟨by omega, ?_⟩
  rw [Nat.add_comm, Nat.add_mul_mod_self_right, Nat.mod_eq_of_lt hv]
theorem Tx.index (T : Tx F k w h lay fac lev D) {y c v : Nat} (hy : y < lay) (hc : c < fac) (hv : v < lev) (x0 x1 x2 x3 : Int) (x6 : List (List Int)) (x7 : List (List Int × List Int)) :
    layout_Index F (x0, (x1, (x2, (x3, ((fac : Int), ((lev : Int), (x6, (x7, ())))))))) (y : Int) (c : Int) (v : Int) = some ((((y * fac + c) * lev + v : Nat) : Int), ()) := by
  obtain ⟨p1, _⟩ := T.place hy hc hv
  have := T.hD
  have q1 : lay * fac ≤ 100 * 6 := Nat.mul_le_mul T.yb T.fb
  have q2 : lay * fac * lev ≤ 100 * 6 * 63 := Nat.mul_le_mul q1 T.vb
  have q3 : y * fac + c ≤ (y * fac + c) * lev := Nat.le_mul_of_pos_right _ T.v1
  unfold layout_Index
  dsimp only
  have e1 : (y : Int) * (fac : Int) = ((y * fac : Nat) : Int) := by rw [Int.natCast_mul]
  rw [e1, wNat (by omega)]
  have e2 : ((y * fac : Nat) : Int) + (c : Int) = ((y * fac + c : Nat) : Int) := by omega
  rw [e2, wNat (by omega)]
  have e3 : ((y * fac + c : Nat) : Int) * (lev : Int) = (((y * fac + c) * lev : Nat) : Int) := by rw [Int.natCast_mul]
  rw [e3, wNat (by omega)]
  have e4 : (((y * fac + c) * lev : Nat) : Int) + (v : Int) = (((y * fac + c) * lev + v : Nat) : Int) := by omega
  rw [e4, wNat (by omega)]
theorem Tx.block (T : Tx F k w h lay fac lev D) {y c v : Nat} (hy : y < lay) (hc : c < fac) (hv : v < lev) {i : Nat} (hi : i < tl (sd w v) * tl (sd h v)) :
    layout_Block F ((k : Int), ((w : Int), ((h : Int), ((lay : Int), ((fac : Int), ((lev : Int), (D, (P, ())))))))) (y : Int) (c : Int) (v : Int) ((i % tl (sd w v) : Nat) : Int) ((i / tl (sd w v) : Nat) : Int) = some (((D.getD ((y * fac + c) * lev + v) []).drop (i * bytes13 k)).take (bytes13 k), ((0 : Int), ())) := by
  obtain ⟨p1, p2⟩ := T.place hy hc hv
  obtain ⟨p3, p4⟩ := T.bound p1
  have p5 := T.each _ p1
  rw [p2] at p4 p5
  have T0 := T
  obtain ⟨hF, hk, w1, h1, wb, hb, y1, yb, f1, fb, v1, vb, hD, each⟩ := T
  have bw := sd_le w v w1
  have bh := sd_le h v h1
  unfold layout_Block
  dsimp only
  rw [in_is F hy, obd]
  dsimp only
  rw [Bool.not_true, cond_false, in_is F hc, obd]
  dsimp only
  rw [Bool.not_true, cond_false, in_is F hv, obd]
  dsimp only
  rw [Bool.not_true, cond_false, side_is w1 (by omega) (by omega) (by omega), obd, side_is h1 (by omega) (by omega) (by omega), obd]
  dsimp only
  rw [Tiles_is F (sd_pos w v) (sd_pos h v) (by omega) (by omega), obd, T0.index hy hc hv, obd]
  dsimp only
  have tp := tl_pos (sd w v)
  have m1 : i % tl (sd w v) < tl (sd w v) := Nat.mod_lt _ (by omega)
  have m2 : i / tl (sd w v) < tl (sd h v) := (Nat.div_lt_iff_lt_mul (by omega)).2 (by rw [Nat.mul_comm]; exact hi)
  rw [in_is F m1, obd]
  dsimp only
  rw [Bool.not_true, cond_false, in_is F m2, obd]
  dsimp only
  generalize hn : (y * fac + c) * lev + v = n at *
  rw [Bool.not_true, cond_false, decide_eq_false (show ¬ ((D.length : Nat) : Int) ≤ (n : Int) by omega), cond_false, Of_is F hk, obd, ltB p1, cond_true, Int.toNat_natCast]
  dsimp only
  have dm := Nat.div_add_mod i (tl (sd w v))
  have e1 : ((i / tl (sd w v) : Nat) : Int) * ((tl (sd w v) : Nat) : Int) = ((i / tl (sd w v) * tl (sd w v) : Nat) : Int) := by rw [Int.natCast_mul]
  have e2 : i / tl (sd w v) * tl (sd w v) + i % tl (sd w v) = i := by rw [Nat.mul_comm]; exact dm
  have q1 : i / tl (sd w v) * tl (sd w v) ≤ i := by omega
  obtain ⟨c1, c2⟩ := bytes13_ge k
  have q2 : (i + 1) * bytes13 k ≤ tl (sd w v) * tl (sd h v) * bytes13 k := Nat.mul_le_mul_right _ hi
  rw [Nat.succ_mul] at q2
  have q3 : i * bytes13 k ≤ 1048576 * 16 := Nat.mul_le_mul (by omega) c2
  rw [e1, wNat (by omega)]
  have e3 : ((i / tl (sd w v) * tl (sd w v) : Nat) : Int) + ((i % tl (sd w v) : Nat) : Int) = (i : Int) := by omega
  rw [e3, wNat (by omega)]
  have e4 : (i : Int) * ((bytes13 k : Nat) : Int) = ((i * bytes13 k : Nat) : Int) := by rw [Int.natCast_mul]
  rw [e4, wNat (by omega), Part_is F (by omega) (by omega), obd]
  rfl
end
end Go.AE.Gn
set_option linter.unusedVariables false
set_option linter.unusedSimpArgs false
namespace Go.AE.Gn
open Go Go.AE
theorem B17_big (F : Nat) {k : Nat} (hk : Fmt k) {w h : Nat} (w1 : 1 ≤ w) (h1 : 1 ≤ h) (wb : w < 4611686018427387904) (hb : h < 4611686018427387904) :
    (B17 F (k : Int) (w : Int) (h : Int)).2 ≠ 0 ∨ ∃ n : Nat, B17 F (k : Int) (w : Int) (h : Int) = ((n : Int), 0) ∧ 8 ≤ n ∧ n ≤ 2147483647 := by
  obtain ⟨c1, c2⟩ := bytes13_ge k
  have tw := tl_pos w
  have th := tl_pos h
  have tb : tl w ≤ 4611686018427387904 := by unfold tl; omega
  have e : format_Bytes F (k : Int) (w : Int) (h : Int) = if tl w * tl h ≤ 2147483647 then (if tl w * tl h * bytes13 k ≤ 2147483647 then some (((tl w * tl h * bytes13 k : Nat) : Int), ((0 : Int), ())) else some (0, (10, ()))) else some (0, (10, ())) := by
    unfold format_Bytes
    rw [Of_is F hk, obd]
    dsimp only
    rw [bne_self_eq_false, cond_false, decide_eq_false (show ¬ (w : Int) < 1 by omega), cond_false, decide_eq_false (show ¬ (h : Int) < 1 by omega), cond_false, Tiles_is F w1 h1 (by omega) (by omega), obd]
    dsimp only
    rw [times_is F th (by omega), obd]
    by_cases q : tl w * tl h ≤ 2147483647
    · rw [if_pos q, if_pos q]
      dsimp only
      rw [bne_self_eq_false, cond_false, times_is F (by omega) (by omega), obd]
      by_cases q2 : tl w * tl h * bytes13 k ≤ 2147483647
      · rw [if_pos q2, if_pos q2]
      · rw [if_neg q2, if_neg q2]
    · rw [if_neg q, if_neg q]
      rfl
  unfold B17
  rw [e]
  have p1 : 1 ≤ tl w * tl h := Nat.mul_pos tw th
  have p2 : 1 * bytes13 k ≤ tl w * tl h * bytes13 k := Nat.mul_le_mul_right _ p1
  by_cases q : tl w * tl h ≤ 2147483647
  · rw [if_pos q]
    by_cases q2 : tl w * tl h * bytes13 k ≤ 2147483647
    · rw [if_pos q2]
      exact .inr ⟨_, rfl, by omega, q2⟩
    · rw [if_neg q2]
      exact .inl (show (10 : Int) ≠ 0 by decide)
  · rw [if_neg q]
    exact .inl (show (10 : Int) ≠ 0 by decide)
def cutS (b : List Int) : List Nat → Nat → List (List Int) → Option (Nat × List (List Int))
  | [], a, D => some (a, D)
  | n :: r, a, D => if a + n ≤ b.length then cutS b r (a + n) (D ++ [(b.drop a).take n]) else none
def cutO (b : List Int) (S : List Nat) : Nat → Nat → List (List Int) → Option (Nat × List (List Int))
  | 0, a, D => some (a, D)
  | m + 1, a, D => match cutS b S a D with
    | none => none
    | some r => cutO b S m r.1 r.2
theorem cutS_inv {b : List Int} : ∀ {S : List Nat} {a : Nat} {D : List (List Int)} {r : Nat × List (List Int)}, (∀ n ∈ S, 1 ≤ n) → a ≤ b.length → cutS b S a D = some r → a + S.length ≤ r.1 ∧ r.1 ≤ b.length ∧ r.2.length = D.length + S.length
  | [], a, D, r, hS, ha, h => by
    cases h
    exact ⟨Nat.le_refl _, ha, rfl⟩
  | n :: S, a, D, r, hS, ha, h => by
    unfold cutS at h
    by_cases q : a + n ≤ b.length
    · rw [if_pos q] at h
      obtain ⟨h1, h2, h3⟩ := cutS_inv (fun x hx => hS x (List.mem_cons_of_mem _ hx)) q h
      have := hS n (List.mem_cons_self ..)
      rw [List.length_append, List.length_singleton] at h3
      rw [List.length_cons]
      omega
    · rw [if_neg q] at h
      cases h
theorem Part_no (F : Nat) {b : List Int} {a n : Nat} (h : ¬ a + n ≤ b.length) (ha : a ≤ b.length) (hb : b.length ≤ 1099511627776) : field_Part F b (a : Int) (n : Int) = some ([], ((2 : Int), ())) := by
  unfold field_Part field_room
  have e2 : ((b.length : Nat) : Int) - (a : Int) = ((b.length - a : Nat) : Int) := by omega
  rw [decide_eq_false (show ¬ (a : Int) < 0 by omega), cond_false, decide_eq_false (show ¬ (n : Int) < 0 by omega), cond_false]
  dsimp only
  rw [decide_eq_true (show (a : Int) ≤ ((b.length : Nat) : Int) by omega), cond_true, obd, e2, w64 (by omega) (by omega)]
  dsimp only
  rw [decide_eq_false (show ¬ (n : Int) ≤ ((b.length - a : Nat) : Int) by omega)]
  rfl
theorem map_getD (S : List Nat) (j : Nat) : (S.map fun n : Nat => (n : Int)).getD j 0 = ((S.getD j 0 : Nat) : Int) := by
  rw [List.getD_eq_getElem?_getD, List.getD_eq_getElem?_getD, List.getElem?_map]
  cases S[j]? <;> rfl
section
variable {b : List Int} {S : List Nat} (hl : b.length ≤ 1099511627776) (hS : S.length ≤ 1000) (hS2 : ∀ n ∈ S, 1 ≤ n ∧ n ≤ 2147483647)
include hl hS hS2
theorem l3_run (F : Nat) (x2 x3 x4 x5 x6 x7 x10 x11 : Int) : ∀ (k j a : Nat) (D : List (List Int)), j ≤ S.length → S.length - j < k → a ≤ b.length → D.length ≤ a →
    dds_Read_l3 F k b D x2 x3 x4 x5 x6 x7 (a : Int) (S.map fun n : Nat => (n : Int)) x10 x11 ((S.length : Nat) : Int) (j : Int) =
      (match cutS b (S.drop j) a D with
      | none => some (.inl ())
      | some r => some (.inr (b, (r.2, (x2, (x3, (x4, (x5, (x6, (x7, ((r.1 : Int), (S.map fun n : Nat => (n : Int), (x10, (x11, ()))))))))))))))
  | 0, j, a, D, _, hk, _, _ => by omega
  | k + 1, j, a, D, hj, hk, ha, hD => by
    unfold dds_Read_l3 dds_Read_l3S
    dsimp only
    by_cases q : j < S.length
    · have hm := hS2 _ (getD_mem 0 q)
      rw [drop_cons 0 q]
      generalize hn : S.getD j 0 = n at hm
      rw [decide_eq_true (show (j : Int) < ((S.length : Nat) : Int) by omega), cond_true, List.length_map, ltB q, cond_true, Int.toNat_natCast, map_getD, hn]
      unfold cutS
      by_cases q2 : a + n ≤ b.length
      · rw [if_pos q2, Part_is F q2 hl, obd]
        dsimp only
        rw [bne_self_eq_false, cond_false, List.length_singleton, decide_eq_true (show D.length + 1 ≤ 1099511627776 by omega), Bool.true_and, cond_true, inc64 (by omega)]
        have e : (a : Int) + (n : Int) = ((a + n : Nat) : Int) := by omega
        rw [e, wNat (by omega)]
        exact l3_run F x2 x3 x4 x5 x6 x7 x10 x11 k (j + 1) (a + n) _ (by omega) (by omega) q2 (by rw [List.length_append, List.length_singleton]; omega)
      · rw [if_neg q2, Part_no F q2 ha hl, obd]
        rfl
    · rw [decide_eq_false (show ¬ (j : Int) < ((S.length : Nat) : Int) by omega), cond_false, List.drop_eq_nil_of_le (by omega)]
      rfl
theorem l1_run {F : Nat} (hF : S.length < F) (hS0 : 1 ≤ S.length) (x2 x3 x4 x5 x6 x7 : Int) {n : Nat} (hn : n < 4611686018427387904) : ∀ (k i a : Nat) (D : List (List Int)), i ≤ n → b.length - a < k → a ≤ b.length → D.length ≤ a →
    dds_Read_l1 F k b D x2 x3 x4 x5 x6 x7 (a : Int) (S.map fun n : Nat => (n : Int)) (n : Int) (i : Int) =
      (match cutO b S (n - i) a D with
      | none => some (.inl ())
      | some r => some (.inr (b, (r.2, (x2, (x3, (x4, (x5, (x6, (x7, ((r.1 : Int), ())))))))))))
  | 0, i, a, D, _, hk, _, _ => by omega
  | k + 1, i, a, D, hi, hk, ha, hD => by
    unfold dds_Read_l1 dds_Read_l1S
    by_cases q : i < n
    · have L3 := l3_run hl hS hS2 F x2 x3 x4 x5 x6 x7 (n : Int) (i : Int) F 0 a D (by omega) (by omega) ha hD
      rw [List.drop_zero, Int.natCast_zero] at L3
      rw [decide_eq_true (show (i : Int) < (n : Int) by omega), cond_true, List.length_map, L3, show n - i = n - (i + 1) + 1 by omega]
      unfold cutO
      cases hc : cutS b S a D with
      | none => rw [obd]
      | some r =>
        obtain ⟨h1, h2, h3⟩ := cutS_inv (fun n hn => (hS2 n hn).1) ha hc
        rw [obd]
        dsimp only
        rw [inc64 (by omega)]
        exact l1_run hF hS0 x2 x3 x4 x5 x6 x7 hn k (i + 1) r.1 r.2 (by omega) (by omega) h2 (by omega)
    · rw [decide_eq_false (show ¬ (i : Int) < (n : Int) by omega), cond_false, show n - i = 0 by omega]
      rfl
theorem l2_run {F : Nat} (hF : 64 ≤ F) {f : Int} {w h : Nat} (w1 : 1 ≤ w) (h1 : 1 ≤ h) (wb : w < 9223372036854775808) (hb : h < 9223372036854775808) (hB : ∀ j, j < S.length → B17 F f ((sd w j : Nat) : Int) ((sd h j : Nat) : Int) = (((S.getD j 0 : Nat) : Int), 0)) (x6 x7 x9 : Int) : ∀ (k j a : Nat) (D : List (List Int)), j ≤ S.length → S.length - j < k → a ≤ b.length → D.length ≤ a →
    ref18_Blocks_l2 F k b (a : Int) D f (w : Int) (h : Int) x6 x7 ((S.length : Nat) : Int) x9 (j : Int) =
      (match cutS b (S.drop j) a D with
      | none => some (.inl ())
      | some r => some (.inr (b, ((r.1 : Int), (r.2, (f, ((w : Int), ((h : Int), (x6, (x7, (((S.length : Nat) : Int), (x9, ()))))))))))))
  | 0, j, a, D, _, hk, _, _ => by omega
  | k + 1, j, a, D, hj, hk, ha, hD => by
    unfold ref18_Blocks_l2 ref18_Blocks_l2S
    dsimp only
    by_cases q : j < S.length
    · have hm := hS2 _ (getD_mem 0 q)
      have hBj := hB j q
      rw [drop_cons 0 q]
      generalize hn : S.getD j 0 = n at hm hBj
      have s1 := sd_le w j w1
      have s2 := sd_le h j h1
      have e2 : ((b.length : Nat) : Int) - (a : Int) = ((b.length - a : Nat) : Int) := by omega
      have e : (a : Int) + (n : Int) = ((a + n : Nat) : Int) := by omega
      rw [decide_eq_true (show (j : Int) < ((S.length : Nat) : Int) by omega), cond_true, rside_is w1 (by omega) (by omega) hF, obd, rside_is h1 (by omega) (by omega) hF, obd]
      dsimp only
      rw [rB17_is, hBj, obd]
      dsimp only
      rw [bne_self_eq_false, cond_false, e2, wNat (by omega), e, wNat (by omega)]
      unfold cutS
      by_cases q2 : a + n ≤ b.length
      · rw [if_pos q2, decide_eq_false (show ¬ ((b.length - a : Nat) : Int) < (n : Int) by omega), cond_false, Int.toNat_natCast, Int.toNat_natCast, decide_eq_true (show (0 : Int) ≤ (a : Int) by omega), decide_eq_true (show (0 : Int) ≤ ((a + n : Nat) : Int) by omega), decide_eq_true (show a ≤ a + n by omega), decide_eq_true q2, psub_eq, show a + n - a = n by omega]
        simp only [Bool.and_self, cond_true]
        rw [decide_eq_true (show 0 + n ≤ 1099511627776 by omega), Bool.true_and, cond_true, List.nil_append, List.length_singleton, decide_eq_true (show D.length + 1 ≤ 1099511627776 by omega), Bool.true_and, cond_true, inc64 (by omega)]
        exact l2_run hF w1 h1 wb hb hB x6 x7 x9 k (j + 1) (a + n) _ (by omega) (by omega) q2 (by rw [List.length_append, List.length_singleton]; omega)
      · rw [if_neg q2, decide_eq_true (show ((b.length - a : Nat) : Int) < (n : Int) by omega), cond_true]
    · rw [decide_eq_false (show ¬ (j : Int) < ((S.length : Nat) : Int) by omega), cond_false, List.drop_eq_nil_of_le (by omega)]
      rfl
theorem l0_run {F : Nat} (hF : 64 ≤ F) (hF2 : S.length < F) (hS0 : 1 ≤ S.length) {f : Int} {w h : Nat} (w1 : 1 ≤ w) (h1 : 1 ≤ h) (wb : w < 9223372036854775808) (hb : h < 9223372036854775808) (hB : ∀ j, j < S.length → B17 F f ((sd w j : Nat) : Int) ((sd h j : Nat) : Int) = (((S.getD j 0 : Nat) : Int), 0)) {lay fac : Nat} (hn : lay * fac < 4611686018427387904) : ∀ (k i a : Nat) (D : List (List Int)), i ≤ lay * fac → b.length - a < k → a ≤ b.length → D.length ≤ a →
    ref18_Blocks_l0 F k b (a : Int) D f (w : Int) (h : Int) (lay : Int) (fac : Int) ((S.length : Nat) : Int) (i : Int) =
      (match cutO b S (lay * fac - i) a D with
      | none => some (.inl ())
      | some r => some (.inr (b, ((r.1 : Int), (r.2, (f, ((w : Int), ((h : Int), ((lay : Int), ((fac : Int), (((S.length : Nat) : Int), ())))))))))))
  | 0, i, a, D, _, hk, _, _ => by omega
  | k + 1, i, a, D, hi, hk, ha, hD => by
    unfold ref18_Blocks_l0 ref18_Blocks_l0S
    have e : (lay : Int) * (fac : Int) = ((lay * fac : Nat) : Int) := by rw [Int.natCast_mul]
    dsimp only
    rw [e, wNat (by omega)]
    by_cases q : i < lay * fac
    · have L2 := l2_run hl hS hS2 hF w1 h1 wb hb hB (lay : Int) (fac : Int) (i : Int) F 0 a D (by omega) (by omega) ha hD
      rw [List.drop_zero, Int.natCast_zero] at L2
      rw [decide_eq_true (show (i : Int) < ((lay * fac : Nat) : Int) by omega), cond_true, L2, show lay * fac - i = lay * fac - (i + 1) + 1 by omega]
      unfold cutO
      cases hc : cutS b S a D with
      | none => rw [obd]
      | some r =>
        obtain ⟨h1', h2, h3⟩ := cutS_inv (fun n hn => (hS2 n hn).1) ha hc
        rw [obd]
        dsimp only
        rw [inc64 (by omega)]
        exact l0_run hF hF2 hS0 w1 h1 wb hb hB hn k (i + 1) r.1 r.2 (by omega) (by omega) h2 (by omega)
    · rw [decide_eq_false (show ¬ (i : Int) < ((lay * fac : Nat) : Int) by omega), cond_false, show lay * fac - i = 0 by omega]
      rfl
end
end Go.AE.Gn
set_option linter.unusedVariables false
set_option linter.unusedSimpArgs false
namespace Go.AE.Gn
open Go Go.AE
theorem go17_good {F : Nat} {f : Int} {w h : Nat} : ∀ {m s : Nat} {acc a : List Int}, go17 F f w h (List.range' s m) acc = .inl a → ∀ j, s ≤ j → j < s + m → (B17 F f ((sd w j : Nat) : Int) ((sd h j : Nat) : Int)).2 = 0
  | 0, s, acc, a, e, j, h1, h2 => by omega
  | m + 1, s, acc, a, e, j, h1, h2 => by
    rw [List.range'_succ] at e
    unfold go17 at e
    by_cases c : (B17 F f (sd w s : Nat) (sd h s : Nat)).2 = 0
    · rw [if_pos c] at e
      by_cases q : j = s
      · rw [q]; exact c
      · exact go17_good e j (by omega) (by omega)
    · rw [if_neg c] at e
      cases e
theorem go17_bad {F : Nat} {f : Int} {w h : Nat} : ∀ {m s : Nat} {acc : List Int} {x : Int}, go17 F f w h (List.range' s m) acc = .inr x → ∃ j, s ≤ j ∧ j < s + m ∧ (B17 F f ((sd w j : Nat) : Int) ((sd h j : Nat) : Int)).2 ≠ 0
  | 0, s, acc, x, e => by cases e
  | m + 1, s, acc, x, e => by
    rw [List.range'_succ] at e
    unfold go17 at e
    by_cases c : (B17 F f (sd w s : Nat) (sd h s : Nat)).2 = 0
    · rw [if_pos c] at e
      obtain ⟨j, h1, h2, h3⟩ := go17_bad e
      exact ⟨j, by omega, by omega, h3⟩
    · exact ⟨s, Nat.le_refl _, by omega, c⟩
structure Sz18 (F k w h lev : Nat) (S : List Nat) : Prop where
  s : (sizes17 F (k : Int) w h lev).1 = S.map fun n : Nat => (n : Int)
  l : S.length = lev
  b : ∀ n ∈ S, 1 ≤ n ∧ n ≤ 2147483647
  v : ∀ j, j < S.length → B17 F (k : Int) ((sd w j : Nat) : Int) ((sd h j : Nat) : Int) = (((S.getD j 0 : Nat) : Int), 0)
theorem sizesN {F k : Nat} (hk : Fmt k) {w h lev : Nat} (w1 : 1 ≤ w) (h1 : 1 ≤ h) (wb : w < 4611686018427387904) (hb : h < 4611686018427387904) (e : (sizes17 F (k : Int) w h lev).2 = 0) : ∃ S, Sz18 F k w h lev S := by
  unfold sizes17 at e
  cases hg : go17 F (k : Int) w h (List.range' 0 lev) [] with
  | inr q =>
    rw [hg] at e
    exact absurd e (go17_err hg)
  | inl a =>
    have ok := go17_good hg
    have val := go17_val hg
    have big : ∀ j, j < lev → ∃ n : Nat, B17 F (k : Int) ((sd w j : Nat) : Int) ((sd h j : Nat) : Int) = ((n : Int), 0) ∧ 8 ≤ n ∧ n ≤ 2147483647 := by
      intro j hj
      have := sd_le w j w1
      have := sd_le h j h1
      rcases B17_big F hk (sd_pos w j) (sd_pos h j) (by omega) (by omega) with q | q
      · exact absurd (ok j (by omega) (by omega)) q
      · exact q
    refine ⟨(List.range' 0 lev).map fun j => (B17 F (k : Int) ((sd w j : Nat) : Int) ((sd h j : Nat) : Int)).1.toNat, ?_, by simp, ?_, ?_⟩
    · unfold sizes17
      rw [hg, val]
      simp only [List.nil_append, List.map_map]
      refine List.map_congr_left fun j hj => ?_
      obtain ⟨n, e, _⟩ := big j (by have := List.mem_range'.1 hj; omega)
      simp [e]
    · intro n hn
      obtain ⟨j, hj, rfl⟩ := List.mem_map.1 hn
      obtain ⟨m, e, h1, h2⟩ := big j (by have := List.mem_range'.1 hj; omega)
      rw [e]
      simp only [Int.toNat_natCast]
      omega
    · intro j hj
      have hj' : j < lev := by simpa using hj
      obtain ⟨m, e, _⟩ := big j hj'
      rw [e]
      simp [List.getD_eq_getElem?_getD, hj', e]
section
variable {b : List Int} (hl : b.length ≤ 1099511627776)
include hl
theorem l2_bad {F : Nat} (hF : 64 ≤ F) {f : Nat} (hk : Fmt f) {w h lev : Nat} (w1 : 1 ≤ w) (h1 : 1 ≤ h) (wb : w < 4611686018427387904) (hb : h < 4611686018427387904) (hv : lev < 4611686018427387904) (x6 x7 x9 : Int) : ∀ (k j a : Nat) (D : List (List Int)), (∃ i, j ≤ i ∧ i < lev ∧ (B17 F (f : Int) ((sd w i : Nat) : Int) ((sd h i : Nat) : Int)).2 ≠ 0) → lev - j < k → a ≤ b.length → D.length ≤ a →
    ref18_Blocks_l2 F k b (a : Int) D (f : Int) (w : Int) (h : Int) x6 x7 (lev : Int) x9 (j : Int) = some (.inl ())
  | 0, j, a, D, _, hk, _, _ => by omega
  | k + 1, j, a, D, hi, hk', ha, hD => by
    unfold ref18_Blocks_l2 ref18_Blocks_l2S
    dsimp only
    obtain ⟨i, i1, i2, i3⟩ := hi
    have s1 := sd_le w j w1
    have s2 := sd_le h j h1
    rw [decide_eq_true (show (j : Int) < (lev : Int) by omega), cond_true, rside_is w1 (by omega) (by omega) hF, obd, rside_is h1 (by omega) (by omega) hF, obd]
    dsimp only
    rw [rB17_is, obd]
    dsimp only
    rcases B17_big F hk (sd_pos w j) (sd_pos h j) (by omega) (by omega) with q | ⟨n, e, n1, n2⟩
    · rw [bneI q, cond_true]
    · have e2 : ((b.length : Nat) : Int) - (a : Int) = ((b.length - a : Nat) : Int) := by omega
      have e3 : (a : Int) + (n : Int) = ((a + n : Nat) : Int) := by omega
      have ij : j ≠ i := by
        rintro rfl
        rw [e] at i3
        exact i3 rfl
      rw [e]
      dsimp only
      rw [bne_self_eq_false, cond_false, e2, wNat (by omega), e3, wNat (by omega)]
      by_cases q2 : a + n ≤ b.length
      · rw [decide_eq_false (show ¬ ((b.length - a : Nat) : Int) < (n : Int) by omega), cond_false, Int.toNat_natCast, Int.toNat_natCast, decide_eq_true (show (0 : Int) ≤ (a : Int) by omega), decide_eq_true (show (0 : Int) ≤ ((a + n : Nat) : Int) by omega), decide_eq_true (show a ≤ a + n by omega), decide_eq_true q2, psub_eq, show a + n - a = n by omega]
        simp only [Bool.and_self, cond_true]
        rw [decide_eq_true (show 0 + n ≤ 1099511627776 by omega), Bool.true_and, cond_true, List.nil_append, List.length_singleton, decide_eq_true (show D.length + 1 ≤ 1099511627776 by omega), Bool.true_and, cond_true, inc64 (by omega)]
        exact l2_bad hF hk w1 h1 wb hb hv x6 x7 x9 k (j + 1) (a + n) _ ⟨i, by omega, i2, i3⟩ (by omega) q2 (by rw [List.length_append, List.length_singleton]; omega)
      · rw [decide_eq_true (show ((b.length - a : Nat) : Int) < (n : Int) by omega), cond_true]
end
structure Rd18 (F : Nat) (b : List Int) (sd la tx : Int) (k w h lay fac lev : Nat) (D : List (List Int)) (S : List Nat) (a : Nat) : Prop where
  hk : Fmt k
  hd : hd17 (k : Int) (w : Int) (h : Int) (lay : Int) (fac : Int) (lev : Int) sd la tx = 0
  sz : Sz18 F k w h lev S
  cut : cutO b S (lay * fac) a [] = some (b.length, D)
  wb : w < 4294967296
  hb : h < 4294967296
  yb : lay < 4294967296
  vb : lev < 4294967296
  k6 : k ≤ 6
theorem cutO_len {b : List Int} {S : List Nat} (hS : ∀ n ∈ S, 1 ≤ n) : ∀ {m a : Nat} {D : List (List Int)} {r : Nat × List (List Int)}, a ≤ b.length → cutO b S m a D = some r → a + m * S.length ≤ r.1 ∧ r.1 ≤ b.length ∧ r.2.length = D.length + m * S.length
  | 0, a, D, r, ha, h => by
    cases h
    rw [Nat.zero_mul]
    exact ⟨Nat.le_refl _, ha, rfl⟩
  | m + 1, a, D, r, ha, h => by
    unfold cutO at h
    cases hc : cutS b S a D with
    | none => rw [hc] at h; cases h
    | some q =>
      rw [hc] at h
      obtain ⟨h1, h2, h3⟩ := cutS_inv hS ha hc
      obtain ⟨g1, g2, g3⟩ := cutO_len hS h2 h
      rw [Nat.succ_mul]
      omega
theorem cutS_mem {b : List Int} : ∀ {S : List Nat} {a : Nat} {D : List (List Int)} {r : Nat × List (List Int)}, cutS b S a D = some r → (∀ x ∈ D, x.length ≤ b.length ∧ ∀ y ∈ x, y ∈ b) → ∀ x ∈ r.2, x.length ≤ b.length ∧ ∀ y ∈ x, y ∈ b
  | [], a, D, r, h, hD => by
    cases h
    exact hD
  | n :: S, a, D, r, h, hD => by
    unfold cutS at h
    by_cases q : a + n ≤ b.length
    · rw [if_pos q] at h
      refine cutS_mem h fun x hx => ?_
      rcases List.mem_append.1 hx with hx | hx
      · exact hD x hx
      · rw [List.mem_singleton.1 hx]
        exact ⟨by rw [List.length_take, List.length_drop]; omega, fun y hy => List.mem_of_mem_drop (List.mem_of_mem_take hy)⟩
    · rw [if_neg q] at h
      cases h
theorem cutO_mem {b : List Int} {S : List Nat} : ∀ {m a : Nat} {D : List (List Int)} {r : Nat × List (List Int)}, cutO b S m a D = some r → (∀ x ∈ D, x.length ≤ b.length ∧ ∀ y ∈ x, y ∈ b) → ∀ x ∈ r.2, x.length ≤ b.length ∧ ∀ y ∈ x, y ∈ b
  | 0, a, D, r, h, hD => by
    cases h
    exact hD
  | m + 1, a, D, r, h, hD => by
    unfold cutO at h
    cases hc : cutS b S a D with
    | none => rw [hc] at h; cases h
    | some q =>
      rw [hc] at h
      exact cutO_mem h (cutS_mem hc hD)
end Go.AE.Gn
set_option linter.unusedVariables false
set_option linter.unusedSimpArgs false
namespace Go.AE.Gn
open Go Go.AE
theorem flat_le {m : Nat} : ∀ {D : List (List Int)}, (∀ x ∈ D, x.length ≤ m) → D.flatten.length ≤ D.length * m
  | [], _ => Nat.zero_le _
  | x :: D, h => by
    have h1 := h x (List.mem_cons_self ..)
    have h2 := flat_le (D := D) fun y hy => h y (List.mem_cons_of_mem _ hy)
    rw [List.flatten_cons, List.length_append, List.length_cons, Nat.succ_mul]
    omega
structure Wh18 (F k w h lay fac lev : Nat) (D : List (List Int)) (S : List Nat) : Prop where
  hk : Fmt k
  w1 : 1 ≤ w ∧ w ≤ 2147483647
  h1 : 1 ≤ h ∧ h ≤ 2147483647
  y1 : 1 ≤ lay ∧ lay ≤ 2147483647
  v1 : 1 ≤ lev ∧ lev ≤ 63
  v2 : lev ≤ lv17 w h + 1
  c1 : fac = 1 ∨ fac = 6
  q6 : fac = 6 → w = h
  sz : Sz18 F k w h lev S
  s0 : (sizes17 F (k : Int) w h lev).2 = 0
  hD : D.length = lay * fac * lev
  each : ∀ n, n < D.length → (D.getD n []).length = S.getD (n % lev) 0
theorem whole18 {F : Nat} {f w h lay fac lev : Int} {D : List (List Int)} {P : List (List Int × List Int)} {ls la tx : Int} (hs : ls ≤ 2147483647) (e : ck17 F f w h lay fac lev D P ls la tx = 0) :
    ∃ (k w' h' y c v : Nat) (S : List Nat), f = (k : Int) ∧ w = (w' : Int) ∧ h = (h' : Int) ∧ lay = (y : Int) ∧ fac = (c : Int) ∧ lev = (v : Int) ∧ Wh18 F k w' h' y c v D S := by
  obtain ⟨e1, e2, _⟩ := ck17_ok e
  obtain ⟨g1, g2, g3, g4, g5, g6, g7, g8, g9, g10, g11, g12, g13⟩ := hd17_ok e1
  have yl := tx_lay g12
  obtain ⟨k, hk, rfl⟩ := fmt_of g1
  have c0 : 0 ≤ fac := by omega
  obtain ⟨w, rfl⟩ := Int.eq_ofNat_of_zero_le (show 0 ≤ w by omega)
  obtain ⟨h, rfl⟩ := Int.eq_ofNat_of_zero_le (show 0 ≤ h by omega)
  obtain ⟨lay, rfl⟩ := Int.eq_ofNat_of_zero_le (show 0 ≤ lay by omega)
  obtain ⟨lev, rfl⟩ := Int.eq_ofNat_of_zero_le (show 0 ≤ lev by omega)
  obtain ⟨fac, rfl⟩ := Int.eq_ofNat_of_zero_le c0
  simp only [Int.toNat_natCast] at g8 e2
  unfold data17 at e2
  rw [Bool.and_eq_true, Bool.and_eq_true, decide_eq_true_iff, decide_eq_true_iff, allB_iff] at e2
  obtain ⟨z1, z2, z3⟩ := e2
  have lb := lv17_le (w := w) (h := h) (by omega) (by omega) (by omega) (by omega)
  obtain ⟨S, hS⟩ := sizesN hk (w := w) (h := h) (by omega) (by omega) (by omega) (by omega) z1
  refine ⟨k, w, h, lay, fac, lev, S, rfl, rfl, rfl, rfl, rfl, rfl, hk, by omega, by omega, by omega, by omega, by omega, by omega, by omega, hS, z1, z2, fun n hn => ?_⟩
  have := z3 n (Nat.zero_le _) (by omega)
  unfold okD at this
  rw [Bool.and_eq_true, decide_eq_true_iff, beq_iff_eq, hS.s, map_getD] at this
  have := this.2
  omega
section
variable {F k w h lay fac lev : Nat} {D : List (List Int)} {S : List Nat} (W : Wh18 F k w h lay fac lev D S)
include W
theorem Wh18.pos : 1 ≤ D.length := by
  have := W.hD
  have p1 : 1 * 1 ≤ lay * fac := Nat.mul_le_mul W.y1.1 (by have := W.c1; omega)
  have p2 : 1 * 1 ≤ lay * fac * lev := Nat.mul_le_mul (by omega) W.v1.1
  omega
theorem Wh18.len {n : Nat} (hn : n < D.length) : 1 ≤ (D.getD n []).length ∧ (D.getD n []).length ≤ 2147483647 := by
  rw [W.each n hn]
  have hv := W.v1
  have hl := W.sz.l
  have : n % lev < S.length := by rw [hl]; exact Nat.mod_lt _ (by omega)
  exact W.sz.b _ (getD_mem 0 this)
theorem Wh18.flat : D.flatten.length ≤ D.length * 2147483647 := flat_le fun x hx => by
  obtain ⟨i, hi, rfl⟩ := List.getElem_of_mem hx
  have := (W.len hi).2
  rwa [List.getD_eq_getElem?_getD, List.getElem?_eq_getElem hi] at this
end
def file18 (w h lay fac lev code : Nat) (D : List (List Int)) : List Int :=
  hdr18 h w (D.getD 0 []).length lev (if 1 < lev then 4198408 else if fac = 6 then 4104 else 4096) (cond (decide (fac = 6)) 65024 0) code (cond (decide (fac = 6)) 4 0) lay ++ D.flatten
theorem ddsW_is {F k w h lay fac lev : Nat} {D : List (List Int)} {S : List Nat} (W : Wh18 F k w h lay fac lev D S) (hF : 2000 ≤ F) (hD : D.length + 2 < F) (hD1 : D.length ≤ 100000) (fl : D.flatten.length ≤ 1000000000000) {P : List (List Int × List Int)} (code : Nat) (hc : codeF (k : Int) 1 = some ((code : Int), (0, ()))) (hc2 : code < 1000)
    (hck : layout_Check F ((k : Int), ((w : Int), ((h : Int), ((lay : Int), ((fac : Int), ((lev : Int), (D, (P, ())))))))) (2147483647, (2147483647, (2147483647, ()))) = some (0, ())) :
    dds_Write F ((k : Int), ((w : Int), ((h : Int), ((lay : Int), ((fac : Int), ((lev : Int), (D, (P, ())))))))) = some (file18 w h lay fac lev code D, (0, ())) := by
  have h10 : 10 ≤ F := by omega
  obtain ⟨w1, w2⟩ := W.w1
  obtain ⟨h1, h2⟩ := W.h1
  obtain ⟨y1, y2⟩ := W.y1
  obtain ⟨v1, v2⟩ := W.v1
  have dp := W.pos
  obtain ⟨s1, s2⟩ := W.len (n := 0) (by omega)
  have st : ∀ {b : List Int} (hb : b.length = 148) (I N : Int) (i n p : Nat), I = (i : Int) → N = (n : Int) → 4 * (i + 1) = p → p ≤ 144 → n < 2147483648 → ∃ b', b' = put4 b p n ∧ b'.length = 148 ∧ dds_Write_c1 F I N b = some (b', ()) :=
    fun {b} hb I N i n p hI hN hq hp hn => ⟨_, rfl, by rw [put4_len]; exact hb, wc1_I h10 hb i n p hI hN hq hp hn⟩
  have B0 : dds_WriteT274.length = 148 := by kernel_rfl
  have J : bytes_Join F D = some (D.flatten, ()) := by
    unfold bytes_Join
    rw [decide_eq_true (show D.length ≤ 1099511627776 by omega), decide_eq_true (show D.flatten.length ≤ 1099511627776 by omega)]
    rfl
  have a20 : dds_at F 20 = some (84, ()) := by
    unfold dds_at
    rw [w64 (x := 20 + 1) (by omega) (by omega), w64 (x := 4 * (20 + 1)) (by omega) (by omega)]
    rfl
  unfold dds_Write
  dsimp only
  rw [hck, obd]
  dsimp only
  unfold format_Code
  rw [bne_self_eq_false, cond_false, hc, obd]
  dsimp only
  rw [bne_self_eq_false, cond_false]
  obtain ⟨b1, e1, l1, q1⟩ := st B0 0 124 0 124 4 rfl rfl rfl (by omega) (by omega)
  obtain ⟨b2, e2, l2, q2⟩ := st l1 1 659463 1 659463 8 rfl rfl rfl (by omega) (by omega)
  obtain ⟨b3, e3, l3, q3⟩ := st l2 2 (h : Int) 2 h 12 rfl rfl rfl (by omega) (by omega)
  obtain ⟨b4', e4, l4, q4⟩ := st l3 3 (w : Int) 3 w 16 rfl rfl rfl (by omega) (by omega)
  obtain ⟨b5, e5, l5, q5⟩ := st l4 4 (((D.getD 0 []).length : Nat) : Int) 4 (D.getD 0 []).length 20 rfl rfl rfl (by omega) (by omega)
  obtain ⟨b6, e6, l6, q6⟩ := st l5 6 (lev : Int) 6 lev 28 rfl rfl rfl (by omega) (by omega)
  obtain ⟨b7, e7, l7, q7⟩ := st l6 18 32 18 32 76 rfl rfl rfl (by omega) (by omega)
  obtain ⟨b8, e8, l8, q8⟩ := st l7 19 4 19 4 80 rfl rfl rfl (by omega) (by omega)
  rw [decide_eq_true (show (0 : Int) < ((D.length : Nat) : Int) by omega)]
  simp only [q1, obd, q2, q3, q4, cond_true, q5, q6, q7, q8, a20]
  have m4 : min 4 (148 - 84) = 4 := rfl
  have by4' : bytesL (ByteArray.mk (List.toArray [68, 88, 49, 48])) = [68, 88, 49, 48] := rfl
  rw [l8, show Int.toNat 84 = 84 from rfl, psub_eq, m4, by4', decide_eq_true (show (0 : Int) ≤ 84 by omega), decide_eq_true (show 84 ≤ 148 by omega)]
  simp only [Bool.and_self, cond_true]
  obtain ⟨b9, e9⟩ : ∃ x, x = List.take 84 b8 ++ List.take 4 [68, 88, 49, 48] ++ List.drop (84 + 4) b8 := ⟨_, rfl⟩
  have l9 : b9.length = 148 := by
    rw [e9]
    simp [l8]
  have e9' : b9 = splice b8 := e9
  rw [← e9]
  have fin : ∀ {r : List Int}, r.length = 148 → ((bytes_Join F D).bind fun r' => cond (decide (r.length + r'.1.length ≤ 1099511627776) && true) (some (r ++ r'.1, ((0 : Int), ()))) none) = some (r ++ D.flatten, (0, ())) := by
    intro r hr
    rw [J, obd]
    dsimp only
    rw [decide_eq_true (show r.length + D.flatten.length ≤ 1099511627776 by omega)]
    rfl
  unfold file18
  have tail : ∀ (caps : Nat) (hcaps : caps < 2147483648), ∃ b10, dds_Write_c1 F 26 (caps : Int) b9 = some (b10, ()) ∧
      ((dds_Write_c1 F 31 (code : Int) b10).bind fun r => (dds_Write_c1 F 32 3 r.1).bind fun r => (dds_Write_c1 F 34 (lay : Int) r.1).bind fun r => (bytes_Join F D).bind fun r' => cond (decide (r.1.length + r'.1.length ≤ 1099511627776) && true) (some (r.1 ++ r'.1, ((0 : Int), ()))) none) = some (hdr18 h w (D.getD 0 []).length lev caps 0 code 0 lay ++ D.flatten, (0, ())) ∧
      ((dds_Write_c1 F 27 65024 b10).bind fun r => (dds_Write_c1 F 33 4 r.1).bind fun r => (dds_Write_c1 F 31 (code : Int) r.1).bind fun r => (dds_Write_c1 F 32 3 r.1).bind fun r => (dds_Write_c1 F 34 (lay : Int) r.1).bind fun r => (bytes_Join F D).bind fun r' => cond (decide (r.1.length + r'.1.length ≤ 1099511627776) && true) (some (r.1 ++ r'.1, ((0 : Int), ()))) none) = some (hdr18 h w (D.getD 0 []).length lev caps 65024 code 4 lay ++ D.flatten, (0, ())) := by
    intro caps hcaps
    obtain ⟨b10, e10, l10, q10⟩ := st l9 26 (caps : Int) 26 caps 108 rfl rfl rfl (by omega) hcaps
    refine ⟨b10, q10, ?_, ?_⟩
    · obtain ⟨b11, e11, l11, q11⟩ := st l10 31 (code : Int) 31 code 128 rfl rfl rfl (by omega) (by omega)
      obtain ⟨b12, e12, l12, q12⟩ := st l11 32 3 32 3 132 rfl rfl rfl (by omega) (by omega)
      obtain ⟨b13, e13, l13, q13⟩ := st l12 34 (lay : Int) 34 lay 140 rfl rfl rfl (by omega) (by omega)
      simp only [q11, obd, q12, q13]
      rw [fin l13]
      have H := dds_head h w (D.getD 0 []).length lev caps code lay false
      have : b13 = hdr18 h w (D.getD 0 []).length lev caps 0 code 0 lay := by
        rw [e13, e12, e11, e10, e9', e8, e7, e6, e5, e4, e3, e2, e1]
        exact H
      rw [this]
    · obtain ⟨c1, d1, m1, p1⟩ := st l10 27 65024 27 65024 112 rfl rfl rfl (by omega) (by omega)
      obtain ⟨c2, d2, m2, p2⟩ := st m1 33 4 33 4 136 rfl rfl rfl (by omega) (by omega)
      obtain ⟨b11, e11, l11, q11⟩ := st m2 31 (code : Int) 31 code 128 rfl rfl rfl (by omega) (by omega)
      obtain ⟨b12, e12, l12, q12⟩ := st l11 32 3 32 3 132 rfl rfl rfl (by omega) (by omega)
      obtain ⟨b13, e13, l13, q13⟩ := st l12 34 (lay : Int) 34 lay 140 rfl rfl rfl (by omega) (by omega)
      simp only [p1, p2, q11, obd, q12, q13]
      rw [fin l13]
      have H := dds_head h w (D.getD 0 []).length lev caps code lay true
      have : b13 = hdr18 h w (D.getD 0 []).length lev caps 65024 code 4 lay := by
        rw [e13, e12, e11, d2, d1, e10, e9', e8, e7, e6, e5, e4, e3, e2, e1]
        exact H
      rw [this]
  obtain ⟨t1, u1, n1, y1'⟩ := tail 4198408 (by omega)
  obtain ⟨t2, u2, n2, y2'⟩ := tail 4104 (by omega)
  obtain ⟨t3, u3, n3, y3'⟩ := tail 4096 (by omega)
  rw [show ((4198408 : Nat) : Int) = 4198408 from rfl] at u1
  rw [show ((4104 : Nat) : Int) = 4104 from rfl] at u2
  rw [show ((4096 : Nat) : Int) = 4096 from rfl] at u3
  by_cases c6 : fac = 6
  · subst c6
    rw [show (((6 : Nat) : Int) == 6) = true from rfl, decide_eq_true (show (1 : Int) < ((6 : Nat) : Int) by omega)]
    by_cases v : 1 < lev
    · rw [decide_eq_true (show (1 : Int) < (lev : Int) by omega), if_pos v]
      simp only [cond_true, u1, obd]
      exact y1'
    · rw [decide_eq_false (show ¬ (1 : Int) < (lev : Int) by omega), if_neg v]
      simp only [cond_true, cond_false, u2, obd]
      exact y2'
  · have c1 : fac = 1 := by have := W.c1; omega
    subst c1
    rw [show (((1 : Nat) : Int) == 6) = false from rfl, decide_eq_false (show ¬ (1 : Int) < ((1 : Nat) : Int) by omega)]
    by_cases v : 1 < lev
    · rw [decide_eq_true (show (1 : Int) < (lev : Int) by omega), if_pos v]
      simp only [cond_true, cond_false, u1, obd]
      exact n1
    · rw [decide_eq_false (show ¬ (1 : Int) < (lev : Int) by omega), if_neg v]
      simp only [cond_true, cond_false, u3, obd]
      exact n3
end Go.AE.Gn
set_option linter.unusedVariables false
set_option linter.unusedSimpArgs false
namespace Go.AE.Gn
open Go Go.AE
theorem read18 {F : Nat} (hF : 600 ≤ F) {b : List Int} (hFb : b.length + 2 ≤ F) (hb : Bytes b) (hl : b.length ≤ 1099511627776) (ls la tx : Int) :
    ∃ (f w h lay fac lev : Int) (D : List (List Int)) (e : Int), dds_Read F b (ls, (la, (tx, ()))) = some (f, (w, (h, (lay, (fac, (lev, (D, (e, ())))))))) ∧ ref18_Read F b (ls, (la, (tx, ()))) = some (f, (w, (h, (lay, (fac, (lev, (D, (e, ())))))))) ∧
      D.length ≤ b.length ∧ (∀ x ∈ D, x.length ≤ b.length ∧ ∀ y ∈ x, y ∈ b) ∧ (e = 0 → ∃ (k w' h' y c v : Nat) (S : List Nat) (a : Nat), f = (k : Int) ∧ w = (w' : Int) ∧ h = (h' : Int) ∧ lay = (y : Int) ∧ fac = (c : Int) ∧ lev = (v : Int) ∧ a ≤ b.length ∧ Rd18 F b ls la tx k w' h' y c v D S a) := by
  obtain ⟨f, w, h, lay, fac, lev, at_, e, e1, e2, e3⟩ := head18 hF hb hl ls la tx
  have bad : ∀ e : Int, e ≠ 0 → ∀ {x y : Option (Int × (Int × (Int × (Int × (Int × (Int × (List (List Int) × (Int × Unit))))))))}, x = some (0, (0, (0, (0, (0, (0, ([], (e, ())))))))) → y = some (0, (0, (0, (0, (0, (0, ([], (e, ())))))))) →
      ∃ (f w h lay fac lev : Int) (D : List (List Int)) (e : Int), x = some (f, (w, (h, (lay, (fac, (lev, (D, (e, ())))))))) ∧ y = some (f, (w, (h, (lay, (fac, (lev, (D, (e, ())))))))) ∧
      D.length ≤ b.length ∧ (∀ x ∈ D, x.length ≤ b.length ∧ ∀ y ∈ x, y ∈ b) ∧ (e = 0 → ∃ (k w' h' y c v : Nat) (S : List Nat) (a : Nat), f = (k : Int) ∧ w = (w' : Int) ∧ h = (h' : Int) ∧ lay = (y : Int) ∧ fac = (c : Int) ∧ lev = (v : Int) ∧ a ≤ b.length ∧ Rd18 F b ls la tx k w' h' y c v D S a) :=
    fun e he {x y} hx hy => ⟨0, 0, 0, 0, 0, 0, [], e, hx, hy, Nat.zero_le _, fun x hx => (by cases hx), fun h => absurd h he⟩
  unfold dds_Read
  rw [e1, e2, obd]
  unfold rest18
  dsimp only
  by_cases q : e = 0
  rotate_left
  · rw [bneI q, cond_true, cond_true]
    exact bad e q rfl rfl
  obtain ⟨⟨w0, w2⟩, ⟨h0, h2⟩, ⟨y0, y2⟩, ⟨v0, v2⟩, c2, a2, f6⟩ := e3 q
  have c0 : 0 ≤ fac ∧ fac ≤ 6 := by omega
  obtain ⟨w, rfl⟩ := Int.eq_ofNat_of_zero_le w0
  obtain ⟨h, rfl⟩ := Int.eq_ofNat_of_zero_le h0
  obtain ⟨lay, rfl⟩ := Int.eq_ofNat_of_zero_le y0
  obtain ⟨lev, rfl⟩ := Int.eq_ofNat_of_zero_le v0
  obtain ⟨fac, rfl⟩ := Int.eq_ofNat_of_zero_le c0.1
  obtain ⟨H1, H2⟩ := Header_is (F := F) (f := f) (w := (w : Int)) (h := (h : Int)) (lay := (lay : Int)) (fac := (fac : Int)) (lev := (lev : Int)) (by omega) (by omega) (by omega) [] [] ls la tx hF
  unfold ref18_Blocks errors_Is
  rw [q, bne_self_eq_false, cond_false, cond_false, H1, H2]
  simp only [obd]
  by_cases q1 : hd17 f (w : Int) (h : Int) (lay : Int) (fac : Int) (lev : Int) ls la tx = 1
  · rw [q1, beq_self_eq_true, cond_true, cond_true, obd]
    exact bad 4 (by decide) rfl rfl
  rw [beqF q1, cond_false, cond_false]
  by_cases q2 : hd17 f (w : Int) (h : Int) (lay : Int) (fac : Int) (lev : Int) ls la tx = 0
  rotate_left
  · rw [bneI q2, cond_true, cond_true, obd]
    exact bad _ q2 rfl rfl
  rw [q2, bne_self_eq_false, cond_false, cond_false]
  obtain ⟨g1, g2, g3, g4, g5, g6, g7, g8, g9, g10, g11, g12, g13⟩ := hd17_ok q2
  obtain ⟨k, hk, rfl⟩ := fmt_of g1
  simp only [Int.toNat_natCast] at g8
  have Z := (Sizes_is (F := F) (w := w) (h := h) (lev := lev) (Of_is F hk) (by omega) (by omega) (by omega) (by omega) (by omega) (by omega) hF).1
  rw [Z, obd]
  dsimp only
  have lb := lv17_le (w := w) (h := h) (by omega) (by omega) (by omega) (by omega)
  have pos : 1 * 1 ≤ lay * fac := Nat.mul_le_mul (by omega) (by omega)
  have lim : lay * fac ≤ 4294967296 * 6 := Nat.mul_le_mul (by omega) (by omega)
  have em : (lay : Int) * (fac : Int) = ((lay * fac : Nat) : Int) := by rw [Int.natCast_mul]
  by_cases q3 : (sizes17 F (k : Int) w h lev).2 = 0
  · rw [q3, bne_self_eq_false, cond_false]
    obtain ⟨S, hS⟩ := sizesN hk (w := w) (h := h) (by omega) (by omega) (by omega) (by omega) q3
    have hSl := hS.l
    have L1 := l1_run hl (by omega) hS.b (F := F) (by omega) (by omega) (k : Int) (w : Int) (h : Int) (lay : Int) (fac : Int) (lev : Int) (n := lay * fac) (by omega) F 0 at_ [] (by omega) (by omega) a2 (Nat.zero_le _)
    have L0 := l0_run hl (by omega) hS.b (F := F) (by omega) (by omega) (by omega) (f := (k : Int)) (w := w) (h := h) (by omega) (by omega) (by omega) (by omega) hS.v (lay := lay) (fac := fac) (by omega) F 0 at_ [] (by omega) (by omega) a2 (Nat.zero_le _)
    rw [Nat.sub_zero, Int.natCast_zero] at L1 L0
    rw [hSl] at L0
    rw [hS.s, em, wNat (by omega), L1, L0]
    cases hc : cutO b S (lay * fac) at_ [] with
    | none =>
      simp only [obd]
      exact bad 2 (by decide) rfl rfl
    | some r =>
      obtain ⟨i1, i2, i3⟩ := cutO_len (fun n hn => (hS.b n hn).1) a2 hc
      have i4 := cutO_mem hc (fun x hx => by cases hx)
      obtain ⟨z, D⟩ := r
      simp only [obd]
      by_cases q4 : z < b.length
      · rw [decide_eq_true (show (z : Int) < ((b.length : Nat) : Int) by omega)]
        simp only [cond_true, obd]
        exact bad 7 (by decide) rfl rfl
      · rw [decide_eq_false (show ¬ (z : Int) < ((b.length : Nat) : Int) by omega)]
        simp only [cond_false, obd]
        have hz : z = b.length := Nat.le_antisymm i2 (by omega)
        rw [hz] at hc
        have hDl : D.length ≤ b.length := by
          have i3 : D.length = 0 + lay * fac * S.length := i3
          have i1 : at_ + lay * fac * S.length ≤ z := i1
          omega
        exact ⟨_, _, _, _, _, _, D, 0, rfl, rfl, hDl, i4, fun _ => ⟨k, w, h, lay, fac, lev, S, at_, rfl, rfl, rfl, rfl, rfl, rfl, a2, hk, q2, hS, hc, by omega, by omega, by omega, by omega, by omega⟩⟩
  · rw [bneI q3, cond_true]
    have L0 : ref18_Blocks_l0 F F b (at_ : Int) [] (k : Int) (w : Int) (h : Int) (lay : Int) (fac : Int) (lev : Int) 0 = some (.inl ()) := by
      have bd : ∃ i, 0 ≤ i ∧ i < lev ∧ (B17 F (k : Int) ((sd w i : Nat) : Int) ((sd h i : Nat) : Int)).2 ≠ 0 := by
        unfold sizes17 at q3
        cases hg : go17 F (k : Int) w h (List.range' 0 lev) [] with
        | inl a => rw [hg] at q3; exact absurd rfl q3
        | inr x =>
          obtain ⟨j, j1, j2, j3⟩ := go17_bad hg
          exact ⟨j, j1, by omega, j3⟩
      obtain ⟨K, rfl⟩ : ∃ K, F = K + 1 := ⟨F - 1, by omega⟩
      have L2 := l2_bad hl (F := K + 1) (by omega) hk (w := w) (h := h) (lev := lev) (by omega) (by omega) (by omega) (by omega) (by omega) (lay : Int) (fac : Int) 0 (K + 1) 0 at_ [] bd (by omega) a2 (Nat.zero_le _)
      rw [Int.natCast_zero] at L2
      show ref18_Blocks_l0S (K + 1) (ref18_Blocks_l0 (K + 1) K) b (at_ : Int) [] (k : Int) (w : Int) (h : Int) (lay : Int) (fac : Int) (lev : Int) 0 = _
      unfold ref18_Blocks_l0S
      dsimp only
      rw [em, wNat (by omega), decide_eq_true (show (0 : Int) < ((lay * fac : Nat) : Int) by omega), cond_true, L2, obd]
    rw [L0]
    simp only [obd]
    exact bad 2 (by decide) rfl rfl
end Go.AE.Gn
set_option linter.unusedVariables false
set_option linter.unusedSimpArgs false
namespace Go.AE.Gn
open Go Go.AE
theorem awake18 (G : Nat) : law18_awake (G + 30000) = some (true, ()) := by kernel_rfl
theorem bytes_of_u8 {l : List Int} (h : ∀ x ∈ l, IntKind.u8.has x) : Bytes l := by
  intro x hx
  have := has_iff.1 (h x hx)
  simp only [loB, hiB] at this
  omega
end Go.AE.Gn
set_option linter.unusedVariables false
set_option linter.unusedSimpArgs false
namespace Go.AE.Gn
open Go Go.AE
theorem codes18 {k : Nat} (hk : Fmt k) : (∃ c : Nat, codeF (k : Int) 1 = some ((c : Int), (0, ())) ∧ c < 1000 ∧ k ≤ 6 ∧ formatF (c : Int) 1 = some ((k : Int), (0, ()))) ∨ (codeF (k : Int) 1 = some (0, (9, ())) ∧ 7 ≤ k) := by
  rcases fmt_or hk with rfl | rfl | rfl | rfl | rfl | rfl | rfl | rfl | rfl | rfl | rfl | rfl
  · exact .inl ⟨71, rfl, by omega, by omega, rfl⟩
  · exact .inl ⟨74, rfl, by omega, by omega, rfl⟩
  · exact .inl ⟨77, rfl, by omega, by omega, rfl⟩
  · exact .inl ⟨80, rfl, by omega, by omega, rfl⟩
  · exact .inl ⟨83, rfl, by omega, by omega, rfl⟩
  · exact .inl ⟨98, rfl, by omega, by omega, rfl⟩
  all_goals exact .inr ⟨rfl, by omega⟩
theorem refW_is {F k w h lay fac lev : Nat} {D : List (List Int)} {S : List Nat} (W : Wh18 F k w h lay fac lev D S) (hF : 2000 ≤ F) (hD : D.length + 2 < F) (hD1 : D.length ≤ 100000) (fl : D.flatten.length ≤ 1000000000000) {P : List (List Int × List Int)} (code : Nat) (hc : codeF (k : Int) 1 = some ((code : Int), (0, ()))) (hc2 : code < 1000)
    (hck : ref17_Check F ((k : Int), ((w : Int), ((h : Int), ((lay : Int), ((fac : Int), ((lev : Int), (D, (P, ())))))))) (2147483647, (2147483647, (2147483647, ()))) = some (0, ())) :
    ref18_Write F ((k : Int), ((w : Int), ((h : Int), ((lay : Int), ((fac : Int), ((lev : Int), (D, (P, ())))))))) = some (file18 w h lay fac lev code D, (0, ())) := by
  have h10 : 10 ≤ F := by omega
  obtain ⟨w1, w2⟩ := W.w1
  obtain ⟨h1, h2⟩ := W.h1
  obtain ⟨y1, y2⟩ := W.y1
  obtain ⟨v1, v2⟩ := W.v1
  have dp := W.pos
  obtain ⟨s1, s2⟩ := W.len (n := 0) (by omega)
  have s3 := W.each 0 (by omega)
  rw [Nat.zero_mod] at s3
  have B0 : dds_WriteT274.length = 148 := by kernel_rfl
  have BB : Bytes dds_WriteT274 := by
    have h : dds_WriteT274.all (fun x => decide (0 ≤ x) && decide (x ≤ 255)) = true := by kernel_rfl
    intro x hx
    have := List.all_eq_true.1 h x hx
    rw [Bool.and_eq_true, decide_eq_true_iff, decide_eq_true_iff] at this
    exact this
  have Z := (Sizes_is (F := F) (w := w) (h := h) (lev := lev) (Of_is F W.hk) w1 h1 (by omega) (by omega) v1 W.v2 (by omega)).2
  unfold ref18_Write ref18_All
  rw [obd]
  dsimp only
  rw [hck, obd]
  dsimp only
  rw [bne_self_eq_false, cond_false, (rCode_is F _ _).1, hc, obd]
  dsimp only
  rw [bne_self_eq_false, cond_false, Z, obd]
  dsimp only
  rw [W.sz.s, List.length_map, W.sz.l, map_getD, ← s3, decide_eq_true (show (0 : Int) < (lev : Int) by omega)]
  generalize hs : (D.getD 0 []).length = s0 at *
  have hV : ∀ (caps caps2 misc : Nat), caps < 2147483648 → caps2 < 2147483648 → misc < 2147483648 → ∀ n ∈ [124, 659463, h, w, s0, lev, 32, 4, caps, caps2, code, 3, misc, lay], n < 2147483648 := by
    intro caps caps2 misc a1 a2 a3 n hn
    simp only [List.mem_cons, List.not_mem_nil, or_false] at hn
    omega
  have tail : ∀ (caps caps2 misc : Nat) (a1 : caps < 2147483648) (a2 : caps2 < 2147483648) (a3 : misc < 2147483648),
      ((ref18_Write_l0 F F (k : Int) (w : Int) (h : Int) (lay : Int) (fac : Int) (lev : Int) D P dds_WriteT274 ref18_WriteT2770 [(124 : Int), (659463 : Int), (h : Int), (w : Int), (s0 : Int), (lev : Int), (32 : Int), (4 : Int), (caps : Int), (caps2 : Int), (code : Int), (3 : Int), (misc : Int), (lay : Int)] 0).bind fun r1 =>
        (ref18_Write_l2 F F r1.1 r1.2.1 r1.2.2.1 r1.2.2.2.1 r1.2.2.2.2.1 r1.2.2.2.2.2.1 r1.2.2.2.2.2.2.1 r1.2.2.2.2.2.2.2.1 r1.2.2.2.2.2.2.2.2.1 0).bind fun r2 =>
        (ref18_Write_l4 F F r2.1 r2.2.1 r2.2.2.1 r2.2.2.2.1 r2.2.2.2.2.1 r2.2.2.2.2.2.1 r2.2.2.2.2.2.2.1 r2.2.2.2.2.2.2.2.1 r2.2.2.2.2.2.2.2.2.1 0).bind fun r3 => some (r3.1, ((0 : Int), ()))) =
      some (hdr18 h w s0 lev caps caps2 code misc lay ++ D.flatten, (0, ())) := by
    intro caps caps2 misc a1 a2 a3
    have W0 := wl0_run h10 (k : Int) (w : Int) (h : Int) (lay : Int) (fac : Int) (lev : Int) D P (A := [4, 8, 12, 16, 20, 28, 76, 80, 108, 112, 128, 132, 136, 140]) (V := [124, 659463, h, w, s0, lev, 32, 4, caps, caps2, code, 3, misc, lay]) rfl (by decide) (hV caps caps2 misc a1 a2 a3) (by decide) 14 0 F BB B0 rfl (by omega)
    rw [Int.natCast_zero, List.drop_zero] at W0
    have eA : ref18_WriteT2770 = [4, 8, 12, 16, 20, 28, 76, 80, 108, 112, 128, 132, 136, 140].map fun n : Nat => (n : Int) := rfl
    have eV : [(124 : Int), (659463 : Int), (h : Int), (w : Int), (s0 : Int), (lev : Int), (32 : Int), (4 : Int), (caps : Int), (caps2 : Int), (code : Int), (3 : Int), (misc : Int), (lay : Int)] = [124, 659463, h, w, s0, lev, 32, 4, caps, caps2, code, 3, misc, lay].map fun n : Nat => (n : Int) := rfl
    rw [eA, eV, W0, obd]
    dsimp only
    have lz := putZ_len ([4, 8, 12, 16, 20, 28, 76, 80, 108, 112, 128, 132, 136, 140].zip [124, 659463, h, w, s0, lev, 32, 4, caps, caps2, code, 3, misc, lay]) dds_WriteT274
    rw [B0] at lz
    rw [wl2_run h10 _ _ _ _ _ _ _ _ lz, obd]
    dsimp only
    have R := ref_head h w s0 lev caps caps2 code misc lay
    have W4 := wl4_run F (k : Int) (w : Int) (h : Int) (lay : Int) (fac : Int) (lev : Int) (D := D) P (by omega) F 0 (b := hdr18 h w s0 lev caps caps2 code misc lay) (by omega) (by omega) (by rw [hdr18_len, List.drop_zero]; omega)
    rw [Int.natCast_zero, List.drop_zero] at W4
    have R' : ((((putZ dds_WriteT274 ([4, 8, 12, 16, 20, 28, 76, 80, 108, 112, 128, 132, 136, 140].zip [124, 659463, h, w, s0, lev, 32, 4, caps, caps2, code, 3, misc, lay])).set 84 68).set 85 88).set 86 49).set 87 48 = hdr18 h w s0 lev caps caps2 code misc lay := R
    rw [R', W4, obd]
  unfold file18
  rw [hs]
  by_cases c6 : fac = 6
  · subst c6
    rw [show (((6 : Nat) : Int) == 6) = true from rfl, decide_eq_true (show (1 : Int) < ((6 : Nat) : Int) by omega)]
    by_cases v : 1 < lev
    · rw [decide_eq_true (show (1 : Int) < (lev : Int) by omega), if_pos v]
      simp only [cond_true]
      exact tail 4198408 65024 4 (by omega) (by omega) (by omega)
    · rw [decide_eq_false (show ¬ (1 : Int) < (lev : Int) by omega), if_neg v]
      simp only [cond_true, cond_false]
      exact tail 4104 65024 4 (by omega) (by omega) (by omega)
  · have c1 : fac = 1 := by have := W.c1; omega
    subst c1
    rw [show (((1 : Nat) : Int) == 6) = false from rfl, decide_eq_false (show ¬ (1 : Int) < ((1 : Nat) : Int) by omega)]
    by_cases v : 1 < lev
    · rw [decide_eq_true (show (1 : Int) < (lev : Int) by omega), if_pos v]
      simp only [cond_true, cond_false]
      exact tail 4198408 0 0 (by omega) (by omega) (by omega)
    · rw [decide_eq_false (show ¬ (1 : Int) < (lev : Int) by omega), if_neg v]
      simp only [cond_true, cond_false]
      exact tail 4096 0 0 (by omega) (by omega) (by omega)
theorem file18_len {F k w h lay fac lev : Nat} {D : List (List Int)} {S : List Nat} (W : Wh18 F k w h lay fac lev D S) (code : Nat) : (file18 w h lay fac lev code D).length = 148 + D.flatten.length := by
  unfold file18
  rw [List.length_append, hdr18_len]
theorem write18 {F : Nat} (hF : 2000 ≤ F) {f w h lay fac lev : Int} (wb : w < 9223372036854775808) (hb : h < 9223372036854775808) (vb : lev < 9223372036854775808) {D : List (List Int)} {P : List (List Int × List Int)} (hD : D.length + 2 < F) (hD1 : D.length ≤ 100000) (hfl : D.length ≤ 300 ∨ D.flatten.length ≤ 1000000000000) (hP : Pl F P) (hP1 : P.length ≤ 100) :
    ∃ r e, dds_Write F (f, (w, (h, (lay, (fac, (lev, (D, (P, ())))))))) = some (r, (e, ())) ∧ ref18_Write F (f, (w, (h, (lay, (fac, (lev, (D, (P, ())))))))) = some (r, (e, ())) ∧ (e ≠ 0 → r = []) ∧
      (ck17 F f w h lay fac lev D P 2147483647 2147483647 2147483647 = 0 → ∃ (k w' h' y c v : Nat) (S : List Nat), f = (k : Int) ∧ w = (w' : Int) ∧ h = (h' : Int) ∧ lay = (y : Int) ∧ fac = (c : Int) ∧ lev = (v : Int) ∧ Wh18 F k w' h' y c v D S ∧
        ((7 ≤ k ∧ e = 9) ∨ (k ≤ 6 ∧ e = 0 ∧ ∃ code : Nat, code < 1000 ∧ formatF (code : Int) 1 = some ((k : Int), (0, ())) ∧ r = file18 w' h' y c v code D))) := by
  obtain ⟨C1, C2⟩ := Check_is (F := F) (f := f) (w := w) (h := h) (lay := lay) (fac := fac) (lev := lev) wb hb vb (D := D) (P := P) 2147483647 2147483647 2147483647 (by omega) (by omega) hP (by omega) (by omega) (by omega)
  by_cases q : ck17 F f w h lay fac lev D P 2147483647 2147483647 2147483647 = 0
  · obtain ⟨k, w, h, lay, fac, lev, S, rfl, rfl, rfl, rfl, rfl, rfl, W⟩ := whole18 (by omega) q
    rw [q] at C1 C2
    have fl : D.flatten.length ≤ 1000000000000 := by
      have := W.flat
      omega
    rcases codes18 W.hk with ⟨c, c1, c2, c3, c4⟩ | ⟨c1, c3⟩
    · exact ⟨_, 0, ddsW_is W hF hD hD1 fl c c1 c2 C1, refW_is W hF hD hD1 fl c c1 c2 C2, fun h => absurd rfl h, fun _ => ⟨k, w, h, lay, fac, lev, S, rfl, rfl, rfl, rfl, rfl, rfl, W, .inr ⟨c3, rfl, c, c2, c4, rfl⟩⟩⟩
    · refine ⟨[], 9, ?_, ?_, fun _ => rfl, fun _ => ⟨k, w, h, lay, fac, lev, S, rfl, rfl, rfl, rfl, rfl, rfl, W, .inl ⟨c3, rfl⟩⟩⟩
      · unfold dds_Write format_Code
        dsimp only
        rw [C1, obd]
        dsimp only
        rw [bne_self_eq_false, cond_false, c1, obd]
        rfl
      · unfold ref18_Write ref18_All
        rw [obd]
        dsimp only
        rw [C2, obd]
        dsimp only
        rw [bne_self_eq_false, cond_false, (rCode_is F _ _).1, c1, obd]
        rfl
  · refine ⟨[], ck17 F f w h lay fac lev D P 2147483647 2147483647 2147483647, ?_, ?_, fun _ => rfl, fun h => absurd h q⟩
    · unfold dds_Write
      dsimp only
      rw [C1, obd]
      dsimp only
      rw [bneI q, cond_true]
    · unfold ref18_Write ref18_All
      rw [obd]
      dsimp only
      rw [C2, obd]
      dsimp only
      rw [bneI q, cond_true]
end Go.AE.Gn
set_option linter.unusedVariables false
set_option linter.unusedSimpArgs false
namespace Go.AE.Gn
open Go Go.AE
theorem gb_left {a x : List Int} {i : Nat} (h : i < a.length) : gb (a ++ x) i = gb a i := by
  unfold gb
  rw [List.getD_eq_getElem?_getD, List.getD_eq_getElem?_getD, List.getElem?_append_left h]
theorem g4_b4 {a x : List Int} {p n : Nat} (hp : p + 4 ≤ a.length) (hn : n < 4294967296) (e : [a.getD p 0, a.getD (p + 1) 0, a.getD (p + 2) 0, a.getD (p + 3) 0] = b4 n) : g4 (a ++ x) p false = n := by
  unfold b4 at e
  injection e with e0 e
  injection e with e1 e
  injection e with e2 e
  injection e with e3 _
  rw [g4_f, gb_left (by omega), gb_left (by omega), gb_left (by omega), gb_left (by omega)]
  unfold gb
  rw [e0, e1, e2, e3]
  unfold by4
  simp only [Int.toNat_natCast, Nat.mul_zero, Nat.pow_zero, Nat.div_one]
  have a1 : 2 ^ (8 * 1) = 256 := rfl
  have a2 : 2 ^ (8 * 2) = 65536 := rfl
  have a3 : 2 ^ (8 * 3) = 16777216 := rfl
  rw [a1, a2, a3]
  omega
theorem b4_bytes (n : Nat) : Bytes (b4 n) := by
  have v : ∀ k, 0 ≤ by4 n k ∧ by4 n k ≤ 255 := fun k => by unfold by4; omega
  intro x hx
  unfold b4 at hx
  simp only [List.mem_cons, List.not_mem_nil, or_false] at hx
  rcases hx with rfl | rfl | rfl | rfl <;> exact v _
theorem bytes_append {a b : List Int} (ha : Bytes a) (hb : Bytes b) : Bytes (a ++ b) := by
  intro x hx
  rcases List.mem_append.1 hx with h | h
  · exact ha x h
  · exact hb x h
theorem bytes_lit {l : List Int} (h : l.all (fun x => decide (0 ≤ x) && decide (x ≤ 255)) = true) : Bytes l := by
  intro x hx
  have := List.all_eq_true.1 h x hx
  rw [Bool.and_eq_true, decide_eq_true_iff, decide_eq_true_iff] at this
  exact this
theorem hdr18_bytes (h w s0 lev caps caps2 code misc lay : Nat) : Bytes (hdr18 h w s0 lev caps caps2 code misc lay) := by
  unfold hdr18
  have z : Bytes z4 := bytes_lit rfl
  have A := @bytes_append
  have B := b4_bytes
  repeat' (first | apply A | exact B _ | exact z | exact bytes_lit rfl)
theorem head_file {F : Nat} (hF : 600 ≤ F) {h w s0 lev caps caps2 code misc lay k : Nat} (hh : h < 4294967296) (hw : w < 4294967296) (hv : lev < 4294967296) (hy : lay < 4294967296) (hc : code < 1000) (c2 : caps2 = 0 ∨ caps2 = 65024) (cm : misc = 0 ∨ misc = 4) (v1 : lev ≠ 0)
    (hf : formatF (code : Int) 1 = some ((k : Int), (0, ()))) {x : List Int} (hx : Bytes x) (hl : x.length ≤ 1000000000000) :
    dds_header F (hdr18 h w s0 lev caps caps2 code misc lay ++ x) = some ((k : Int), ((w : Int), ((h : Int), ((lay : Int), ((if misc = 4 then 6 else 1), ((lev : Int), (148, (0, ())))))))) := by
  have H := hdr18_len h w s0 lev caps caps2 code misc lay
  have HB := hdr18_bytes h w s0 lev caps caps2 code misc lay
  have T4 : (hdr18 h w s0 lev caps caps2 code misc lay ++ x).take 4 = [68, 68, 83, 32] := by
    rw [List.take_append_of_le_length (by omega)]
    kernel_rfl
  have T84 : ((hdr18 h w s0 lev caps caps2 code misc lay ++ x).drop 84).take 4 = [68, 88, 49, 48] := by
    rw [List.drop_append_of_le_length (by omega), List.take_append_of_le_length (by rw [List.length_drop]; omega)]
    kernel_rfl
  have n4 : g4 (hdr18 h w s0 lev caps caps2 code misc lay ++ x) 4 false = 124 := g4_b4 (by omega) (by omega) (by kernel_rfl)
  have n8 : g4 (hdr18 h w s0 lev caps caps2 code misc lay ++ x) 8 false = 659463 := g4_b4 (by omega) (by omega) (by kernel_rfl)
  have n12 : g4 (hdr18 h w s0 lev caps caps2 code misc lay ++ x) 12 false = h := g4_b4 (by omega) (by omega) (by kernel_rfl)
  have n16 : g4 (hdr18 h w s0 lev caps caps2 code misc lay ++ x) 16 false = w := g4_b4 (by omega) (by omega) (by kernel_rfl)
  have n28 : g4 (hdr18 h w s0 lev caps caps2 code misc lay ++ x) 28 false = lev := g4_b4 (by omega) (by omega) (by kernel_rfl)
  have n76 : g4 (hdr18 h w s0 lev caps caps2 code misc lay ++ x) 76 false = 32 := g4_b4 (by omega) (by omega) (by kernel_rfl)
  have n80 : g4 (hdr18 h w s0 lev caps caps2 code misc lay ++ x) 80 false = 4 := g4_b4 (by omega) (by omega) (by kernel_rfl)
  have n112 : g4 (hdr18 h w s0 lev caps caps2 code misc lay ++ x) 112 false = caps2 := g4_b4 (by omega) (by omega) (by kernel_rfl)
  have n128 : g4 (hdr18 h w s0 lev caps caps2 code misc lay ++ x) 128 false = code := g4_b4 (by omega) (by omega) (by kernel_rfl)
  have n132 : g4 (hdr18 h w s0 lev caps caps2 code misc lay ++ x) 132 false = 3 := g4_b4 (by omega) (by omega) (by kernel_rfl)
  have n136 : g4 (hdr18 h w s0 lev caps caps2 code misc lay ++ x) 136 false = misc := g4_b4 (by omega) (by omega) (by kernel_rfl)
  have n140 : g4 (hdr18 h w s0 lev caps caps2 code misc lay ++ x) 140 false = lay := g4_b4 (by omega) (by omega) (by kernel_rfl)
  have bl : (hdr18 h w s0 lev caps caps2 code misc lay ++ x).length = 148 + x.length := by rw [List.length_append, H]
  have hb : Bytes (hdr18 h w s0 lev caps caps2 code misc lay ++ x) := bytes_append HB hx
  generalize hdr18 h w s0 lev caps caps2 code misc lay ++ x = b at *
  have h10 : 10 ≤ F := by omega
  have hl' : b.length ≤ 1099511627776 := by omega
  have d0 := c1_is h10 hb hl' (i := 0) (p := 4) rfl (by omega)
  have d18 := c1_is h10 hb hl' (i := 18) (p := 76) rfl (by omega)
  have d19 := c1_is h10 hb hl' (i := 19) (p := 80) rfl (by omega)
  have d3 := c1_is h10 hb hl' (i := 3) (p := 16) rfl (by omega)
  have d2 := c1_is h10 hb hl' (i := 2) (p := 12) rfl (by omega)
  have d27 := c1_is h10 hb hl' (i := 27) (p := 112) rfl (by omega)
  have d6 := c1_is h10 hb hl' (i := 6) (p := 28) rfl (by omega)
  have d1 := c1_is h10 hb hl' (i := 1) (p := 8) rfl (by omega)
  have d31 := c1_is h10 hb hl' (i := 31) (p := 128) rfl (by omega)
  have d32 := c1_is h10 hb hl' (i := 32) (p := 132) rfl (by omega)
  have d33 := c1_is h10 hb hl' (i := 33) (p := 136) rfl (by omega)
  have d34 := c1_is h10 hb hl' (i := 34) (p := 140) rfl (by omega)
  simp only [gI, n4, n76, n80, n16, n12, n112, n28, n8, n128, n132, n136, n140, Int.natCast_zero, Int.cast_ofNat_Int, Int.natCast_one] at d0 d18 d19 d3 d2 d27 d6 d1 d31 d32 d33 d34
  have a20 : dds_at F 20 = some (84, ()) := by
    unfold dds_at
    rw [w64 (x := 20 + 1) (by omega) (by omega), w64 (x := 4 * (20 + 1)) (by omega) (by omega)]
    rfl
  have w88 : IntKind.wrap .i64 ((84 : Int) + 4) = 88 := w64 (by omega) (by omega)
  unfold dds_header
  dsimp only
  rw [decide_eq_false (show ¬ ((b.length : Nat) : Int) < 4 by omega), cond_false, decide_eq_true (show 4 ≤ b.length by omega), cond_true, T4, show (!([68, 68, 83, 32] == bytesL (ByteArray.mk (List.toArray [68, 68, 83, 32])))) = false from rfl, cond_false]
  rw [decide_eq_false (show ¬ ((b.length : Nat) : Int) < 128 by omega), cond_false, d0, obd]
  dsimp only
  rw [bne_self_eq_false, cond_false, d18, obd]
  dsimp only
  rw [bne_self_eq_false, cond_false, d19, obd]
  dsimp only
  have t4 := bit_eq (g := 4) (by omega) (k := 2) (m := 4) (by omega) rfl
  have t4' : (iand .i64 (4 : Int) 4 == 0) = false := t4
  rw [t4', cond_false, d3, obd, d2, obd, a20, obd, obd]
  dsimp only
  rw [w88, show Int.toNat 84 = 84 from rfl, show Int.toNat 88 = 88 from rfl, psub_eq, decide_eq_true (show (0 : Int) ≤ 84 by omega), decide_eq_true (show (0 : Int) ≤ 88 by omega), decide_eq_true (show 84 ≤ 88 by omega), decide_eq_true (show 88 ≤ b.length by omega)]
  rw [show 88 - 84 = 4 from rfl, T84, show (([68, 88, 49, 48] : List Int) == bytesL (ByteArray.mk (List.toArray [68, 88, 49, 48]))) = true from rfl]
  simp only [Bool.and_self, cond_true]
  rw [decide_eq_false (show ¬ ((b.length : Nat) : Int) < 148 by omega), cond_false]
  unfold dds_dx10_header_c1 format_Format
  rw [d31, obd]
  dsimp only
  rw [hf, obd]
  dsimp only
  rw [bne_self_eq_false, cond_false, d32, obd]
  dsimp only
  rw [bne_self_eq_false, cond_false, d34, obd, d33, obd]
  dsimp only
  have tf : (iand .i64 (misc : Int) 4 != 0) = decide (misc = 4) := by
    have := bit_ne (g := misc) (by omega) (k := 2) (m := 4) (by omega) rfl
    refine this.trans (decide_eq_decide.2 ?_)
    rcases cm with rfl | rfl <;> decide
  have tv : (iand .i64 (caps2 : Int) 2097152 != 0) = false := by
    have := bit_ne (g := caps2) (by omega) (k := 21) (m := 2097152) (by omega) rfl
    refine this.trans (decide_eq_false ?_)
    rcases c2 with rfl | rfl <;> decide
  have tm : (iand .i64 (659463 : Int) 131072 != 0) = true := by
    have := bit_ne (g := 659463) (by omega) (k := 17) (m := 131072) (by omega) rfl
    refine this.trans (decide_eq_true ?_)
    decide
  rw [tf]
  by_cases q : misc = 4
  · rw [decide_eq_true q, if_pos q]
    simp only [cond_true, obd, bne_self_eq_false, cond_false, d27, tv, d6, d1, tm]
    rw [bneI (show (lev : Int) ≠ 0 by omega), cond_true]
  · rw [decide_eq_false q, if_neg q]
    simp only [cond_true, obd, bne_self_eq_false, cond_false, d27, tv, d6, d1, tm]
    rw [bneI (show (lev : Int) ≠ 0 by omega), cond_true]
end Go.AE.Gn
set_option linter.unusedVariables false
set_option linter.unusedSimpArgs false
namespace Go.AE.Gn
open Go Go.AE
theorem take_succ {D : List (List Int)} {t : Nat} (ht : t < D.length) : D.take (t + 1) = D.take t ++ [D.getD t []] := by
  rw [List.take_succ_eq_append_getElem ht]
  congr 2
  rw [List.getD_eq_getElem?_getD, List.getElem?_eq_getElem ht]
  rfl
theorem flat_split {D : List (List Int)} {t : Nat} (ht : t < D.length) : D.flatten = (D.take t).flatten ++ (D.getD t [] ++ (D.drop (t + 1)).flatten) := by
  have := drop_cons [] ht
  conv => lhs; rw [← List.take_append_drop t D, List.flatten_append, this, List.flatten_cons]
theorem piece {hd : List Int} {D : List (List Int)} {t : Nat} (ht : t < D.length) :
    ((hd ++ D.flatten).drop (hd.length + (D.take t).flatten.length)).take (D.getD t []).length = D.getD t [] ∧
    hd.length + (D.take t).flatten.length + (D.getD t []).length = hd.length + (D.take (t + 1)).flatten.length ∧
    hd.length + (D.take t).flatten.length + (D.getD t []).length ≤ (hd ++ D.flatten).length := by
  have e := flat_split ht
  refine ⟨?_, ?_, ?_⟩
  · rw [e, ← List.append_assoc, List.drop_left' (by rw [List.length_append]), List.take_left' rfl]
  · rw [take_succ ht, List.flatten_append, List.length_append]
    simp [Nat.add_assoc]
  · rw [List.length_append, e, List.length_append, List.length_append]
    omega
section
variable {hd : List Int} {D : List (List Int)} {S : List Nat} (each : ∀ n, n < D.length → (D.getD n []).length = S.getD (n % S.length) 0)
include each
theorem cutS_file {i : Nat} (hi : (i + 1) * S.length ≤ D.length) : ∀ (m j : Nat), j + m = S.length → cutS (hd ++ D.flatten) (S.drop j) (hd.length + (D.take (i * S.length + j)).flatten.length) (D.take (i * S.length + j)) = some (hd.length + (D.take ((i + 1) * S.length)).flatten.length, D.take ((i + 1) * S.length))
  | 0, j, hj => by
    rw [List.drop_eq_nil_of_le (by omega), show i * S.length + j = (i + 1) * S.length by rw [Nat.succ_mul]; omega]
    rfl
  | m + 1, j, hj => by
    rw [Nat.succ_mul] at hi
    have ht : i * S.length + j < D.length := by omega
    have q : j < S.length := by omega
    have ej := each _ ht
    rw [Nat.mul_comm i, Nat.mul_add_mod, Nat.mod_eq_of_lt q, Nat.mul_comm] at ej
    obtain ⟨p1, p2, p3⟩ := piece (hd := hd) ht
    rw [drop_cons 0 q]
    unfold cutS
    rw [← ej, if_pos p3, p1, p2, ← take_succ ht]
    exact cutS_file (by rw [Nat.succ_mul]; exact hi) m (j + 1) (by omega)
theorem cutO_file : ∀ (m i : Nat), (i + m) * S.length = D.length → cutO (hd ++ D.flatten) S m (hd.length + (D.take (i * S.length)).flatten.length) (D.take (i * S.length)) = some ((hd ++ D.flatten).length, D)
  | 0, i, h => by
    rw [Nat.add_zero] at h
    unfold cutO
    rw [h, List.take_length, List.length_append]
  | m + 1, i, h => by
    have h1 : (i + 1) * S.length ≤ (i + (m + 1)) * S.length := Nat.mul_le_mul_right _ (by omega)
    have := cutS_file each (hd := hd) (i := i) (by omega) S.length 0 (by omega)
    rw [List.drop_zero, Nat.add_zero] at this
    unfold cutO
    rw [this]
    exact cutO_file m (i + 1) (by rw [← h]; congr 1; omega)
end
end Go.AE.Gn
set_option linter.unusedVariables false
set_option linter.unusedSimpArgs false
namespace Go.AE.Gn
open Go Go.AE
theorem flat_bytes {D : List (List Int)} (h : ∀ x ∈ D, Bytes x) : Bytes D.flatten := by
  intro y hy
  obtain ⟨l, hl, hy⟩ := List.mem_flatten.1 hy
  exact h l hl y hy
theorem hd17_six {k w h lay fac lev : Nat} {F : Nat} {D : List (List Int)} {S : List Nat} (W : Wh18 F k w h lay fac lev D S) (ls la tx : Int) : hd17 (k : Int) (w : Int) (h : Int) (lay : Int) (fac : Int) (lev : Int) ls la tx = 0 ∨ hd17 (k : Int) (w : Int) (h : Int) (lay : Int) (fac : Int) (lev : Int) ls la tx = 6 := by
  have hk := W.hk
  unfold Fmt at hk
  have w1 := W.w1
  have h1 := W.h1
  have y1 := W.y1
  have v1 := W.v1
  have v2 := W.v2
  have c1 := W.c1
  have q6 := W.q6
  rw [hd17_of (f := (k : Int)) (w := (w : Int)) (h := (h : Int)) (lay := (lay : Int)) (fac := (fac : Int)) (lev := (lev : Int)) (by omega) (by omega) (by omega) (by omega) (by omega) (by omega) (fun q => by rw [q6 (by omega)]) (by rw [Int.toNat_natCast, Int.toNat_natCast]; omega)]
  generalize tx17 (w : Int) (h : Int) (lay : Int) (fac : Int) (lev : Int) = t
  by_cases q : ls < (w : Int) ∨ ls < (h : Int) ∨ la < (lay : Int) ∨ t.2 ≠ 0 ∨ tx < t.1
  · rw [if_pos q]; exact .inr rfl
  · rw [if_neg q]; exact .inl rfl
theorem read_file {F k w h lay fac lev : Nat} {D : List (List Int)} {S : List Nat} (W : Wh18 F k w h lay fac lev D S) (hF : 2000 ≤ F) {code : Nat} (hc : code < 1000) (hf : formatF (code : Int) 1 = some ((k : Int), (0, ()))) (fl : D.flatten.length ≤ 1000000000000) (hFb : 150 + D.flatten.length ≤ F) (hD : ∀ x ∈ D, Bytes x) (ls la tx : Int) :
    dds_Read F (file18 w h lay fac lev code D) (ls, (la, (tx, ()))) = some (if hd17 (k : Int) (w : Int) (h : Int) (lay : Int) (fac : Int) (lev : Int) ls la tx = 0 then ((k : Int), ((w : Int), ((h : Int), ((lay : Int), ((fac : Int), ((lev : Int), (D, (0, ())))))))) else (0, (0, (0, (0, (0, (0, ([], (6, ()))))))))) := by
  obtain ⟨w1, w2⟩ := W.w1
  obtain ⟨h1, h2⟩ := W.h1
  obtain ⟨y1, y2⟩ := W.y1
  obtain ⟨v1, v2⟩ := W.v1
  have c1 := W.c1
  have Z := (Sizes_is (F := F) (w := w) (h := h) (lev := lev) (Of_is F W.hk) w1 h1 (by omega) (by omega) v1 W.v2 (by omega)).1
  have em : (lay : Int) * (fac : Int) = ((lay * fac : Nat) : Int) := by rw [Int.natCast_mul]
  have lim : lay * fac ≤ 2147483647 * 6 := Nat.mul_le_mul (by omega) (by omega)
  have H1 := (Header_is (F := F) (f := (k : Int)) (w := (w : Int)) (h := (h : Int)) (lay := (lay : Int)) (fac := (fac : Int)) (lev := (lev : Int)) (by omega) (by omega) (by omega) [] [] ls la tx (by omega)).1
  have six := hd17_six W ls la tx
  have sl := W.sz.l
  have each : ∀ n, n < D.length → (D.getD n []).length = S.getD (n % S.length) 0 := by rw [sl]; exact W.each
  generalize hcaps : (if 1 < lev then 4198408 else if fac = 6 then 4104 else 4096) = caps
  have hfac : ((if cond (decide (fac = 6)) 4 0 = 4 then 6 else 1 : Int)) = (fac : Int) := by
    rcases c1 with rfl | rfl <;> rfl
  have HF := head_file (F := F) (by omega) (h := h) (w := w) (s0 := (D.getD 0 []).length) (lev := lev) (caps := caps) (caps2 := cond (decide (fac = 6)) 65024 0) (code := code) (misc := cond (decide (fac = 6)) 4 0) (lay := lay) (k := k) (by omega) (by omega) (by omega) (by omega) hc (by rcases c1 with rfl | rfl; exact .inl rfl; exact .inr rfl) (by rcases c1 with rfl | rfl; exact .inl rfl; exact .inr rfl) (by omega) hf (x := D.flatten) (flat_bytes hD) fl
  rw [hfac] at HF
  unfold file18
  rw [hcaps]
  have hl := hdr18_len h w (D.getD 0 []).length lev caps (cond (decide (fac = 6)) 65024 0) code (cond (decide (fac = 6)) 4 0) lay
  generalize hdr18 h w (D.getD 0 []).length lev caps (cond (decide (fac = 6)) 65024 0) code (cond (decide (fac = 6)) 4 0) lay = hd at *
  have bl : (hd ++ D.flatten).length = 148 + D.flatten.length := by rw [List.length_append, hl]
  have CO := cutO_file (hd := hd) (D := D) (S := S) each (lay * fac) 0 (by rw [Nat.zero_add, sl]; exact W.hD.symm)
  rw [Nat.zero_mul, List.take_zero, List.flatten_nil, List.length_nil, hl] at CO
  unfold dds_Read errors_Is
  rw [HF, obd]
  dsimp only
  rw [bne_self_eq_false, cond_false, H1]
  simp only [obd]
  rcases six with six | six
  · rw [six, if_pos rfl, show ((0 : Int) == 1) = false from rfl, cond_false, bne_self_eq_false, cond_false, Z, obd]
    dsimp only
    rw [W.s0, bne_self_eq_false, cond_false, W.sz.s, em, wNat (by omega)]
    have L1 := l1_run (b := hd ++ D.flatten) (S := S) (by omega) (by omega) W.sz.b (F := F) (by omega) (by omega) (k : Int) (w : Int) (h : Int) (lay : Int) (fac : Int) (lev : Int) (n := lay * fac) (by omega) F 0 148 [] (by omega) (by omega) (by omega) (Nat.zero_le _)
    rw [Nat.sub_zero, Int.natCast_zero, Nat.add_zero] at *
    rw [CO] at L1
    rw [show ((148 : Nat) : Int) = 148 from rfl] at L1
    rw [L1, obd]
    dsimp only
    rw [decide_eq_false (show ¬ (((hd ++ D.flatten).length : Nat) : Int) < (((hd ++ D.flatten).length : Nat) : Int) by omega), cond_false]
  · rw [six, if_neg (show ¬ (6 : Int) = 0 by decide), show ((6 : Int) == 1) = false from rfl, cond_false, bneI (show (6 : Int) ≠ 0 by decide), cond_true]
end Go.AE.Gn
set_option linter.unusedVariables false
set_option linter.unusedSimpArgs false
namespace Go.AE.Gn
open Go Go.AE
theorem ckWide {F : Nat} {f w h lay fac lev : Int} {D : List (List Int)} {P : List (List Int × List Int)} (e : ck17 F f w h lay fac lev D P 4096 100 1000000 = 0) : ck17 F f w h lay fac lev D P 2147483647 2147483647 2147483647 = 0 := by
  obtain ⟨e1, e2, e3⟩ := ck17_ok e
  obtain ⟨g1, g2, g3, g4, g5, g6, g7, g8, g9, g10, g11, g12, g13⟩ := hd17_ok e1
  rw [ck17_of e2 e3, hd17_of g1 g2 g3 g4 g5 g6 g7 g8, if_neg]
  generalize tx17 w h lay fac lev = t at *
  omega
end Go.AE.Gn
set_option linter.unusedVariables false
set_option linter.unusedSimpArgs false
namespace Go.AE.Gn
open Go Go.AE
theorem rd_get {b : List Int} {S : List Nat} : ∀ {m a : Nat} {D : List (List Int)} {r : Nat × List (List Int)}, (∀ n ∈ S, 1 ≤ n) → a ≤ b.length → (∀ n, n < D.length → (D.getD n []).length = S.getD (n % S.length) 0) → D.length % S.length = 0 → 1 ≤ S.length → cutO b S m a D = some r → ∀ n, n < r.2.length → (r.2.getD n []).length = S.getD (n % S.length) 0 := by
  have one : ∀ (T : List Nat) (j a : Nat) (D : List (List Int)) (r : Nat × List (List Int)), T = S.drop j → j ≤ S.length → a ≤ b.length → (∀ n, n < D.length → (D.getD n []).length = S.getD (n % S.length) 0) → D.length % S.length = j % S.length → cutS b T a D = some r → ∀ n, n < r.2.length → (r.2.getD n []).length = S.getD (n % S.length) 0 := by
    intro T
    induction T with
    | nil => intro j a D r hT hj ha hD hm h; cases h; exact hD
    | cons n T ih =>
      intro j a D r hT hj ha hD hm h
      have hj' : j < S.length := by
        have := congrArg List.length hT
        rw [List.length_cons, List.length_drop] at this
        omega
      rw [drop_cons 0 hj'] at hT
      injection hT with hn hT
      unfold cutS at h
      by_cases q : a + n ≤ b.length
      · rw [if_pos q] at h
        refine ih (j + 1) (a + n) _ r hT (by omega) q ?_ ?_ h
        · intro i hi
          rw [List.length_append, List.length_singleton] at hi
          by_cases qi : i < D.length
          · rw [List.getD_eq_getElem?_getD, List.getElem?_append_left qi, ← List.getD_eq_getElem?_getD]
            exact hD i qi
          · have : i = D.length := by omega
            subst this
            rw [List.getD_eq_getElem?_getD, List.getElem?_append_right (Nat.le_refl _), Nat.sub_self, List.getElem?_cons_zero, Option.getD_some, List.length_take, List.length_drop, hm, Nat.mod_eq_of_lt hj', ← hn]
            omega
        · rw [List.length_append, List.length_singleton, Nat.add_mod, hm, ← Nat.add_mod]
      · rw [if_neg q] at h
        cases h
  intro m
  induction m with
  | zero => intro a D r hS ha hD hm h1 h; cases h; exact hD
  | succ m ih =>
    intro a D r hS ha hD hm h1 h
    unfold cutO at h
    cases hc : cutS b S a D with
    | none => rw [hc] at h; cases h
    | some q =>
      rw [hc] at h
      obtain ⟨i1, i2, i3⟩ := cutS_inv hS ha hc
      have g := one S 0 a D q (by rw [List.drop_zero]) (Nat.zero_le _) ha hD (by rw [hm, Nat.zero_mod]) hc
      exact ih hS i2 g (by rw [i3, Nat.add_mod_right, hm]) h1 h
theorem Rd18.whole {F : Nat} {b : List Int} {ls la tx : Int} {k w h lay fac lev : Nat} {D : List (List Int)} {S : List Nat} {a : Nat} (R : Rd18 F b ls la tx k w h lay fac lev D S a) (ha : a ≤ b.length) (hs : ls ≤ 2147483647) (z : (sizes17 F (k : Int) w h lev).2 = 0) : Wh18 F k w h lay fac lev D S := by
  obtain ⟨g1, g2, g3, g4, g5, g6, g7, g8, g9, g10, g11, g12, g13⟩ := hd17_ok R.hd
  have yl := tx_lay g12
  simp only [Int.toNat_natCast] at g8
  have lb := lv17_le (w := w) (h := h) (by omega) (by omega) (by omega) (by omega)
  have sl := R.sz.l
  obtain ⟨i1, i2, i3⟩ := cutO_len (fun n hn => (R.sz.b n hn).1) ha R.cut
  have each := rd_get (fun n hn => (R.sz.b n hn).1) ha (fun n hn => by cases hn) (Nat.zero_mod _) (by omega) R.cut
  rw [sl] at each i3
  exact ⟨R.hk, by omega, by omega, by omega, by omega, by omega, by omega, fun q => by have := g7 (by omega); omega, R.sz, z, by simpa using i3, each⟩
theorem Wh18.ck {F k w h lay fac lev : Nat} {D : List (List Int)} {S : List Nat} (W : Wh18 F k w h lay fac lev D S) (ls la tx : Int) : ck17 F (k : Int) (w : Int) (h : Int) (lay : Int) (fac : Int) (lev : Int) D [] ls la tx = hd17 (k : Int) (w : Int) (h : Int) (lay : Int) (fac : Int) (lev : Int) ls la tx := by
  refine ck17_of ?_ rfl
  simp only [Int.toNat_natCast]
  unfold data17
  rw [Bool.and_eq_true, Bool.and_eq_true, decide_eq_true_iff, decide_eq_true_iff, allB_iff]
  refine ⟨W.s0, W.hD, fun n _ hn => ?_⟩
  have hn : n < D.length := by omega
  unfold okD
  rw [Bool.and_eq_true, decide_eq_true_iff, beq_iff_eq, W.sz.s, map_getD, W.each n hn]
  exact ⟨hn, rfl⟩
end Go.AE.Gn
set_option linter.unusedVariables false
set_option linter.unusedSimpArgs false
namespace Go.AE.Gn
open Go Go.AE
theorem Sz18.z {F k w h lev : Nat} {S : List Nat} (Z : Sz18 F k w h lev S) (v1 : 1 ≤ lev) : (sizes17 F (k : Int) w h lev).2 = 0 := by
  have h1 := Z.s
  have h2 := Z.l
  unfold sizes17 at h1 ⊢
  cases hg : go17 F (k : Int) w h (List.range' 0 lev) [] with
  | inl a => rfl
  | inr e =>
    rw [hg] at h1
    have h1 : ([] : List Int) = S.map fun n : Nat => (n : Int) := h1
    have h3 := congrArg List.length h1
    rw [List.length_map] at h3
    have h3 : 0 = S.length := h3
    omega
theorem cut_flat {b : List Int} : ∀ {S : List Nat} {a : Nat} {D : List (List Int)} {r : Nat × List (List Int)}, cutS b S a D = some r → r.1 + D.flatten.length = a + r.2.flatten.length
  | [], a, D, r, h => by cases h; rfl
  | n :: S, a, D, r, h => by
    unfold cutS at h
    by_cases q : a + n ≤ b.length
    · rw [if_pos q] at h
      have := cut_flat h
      rw [List.flatten_append, List.length_append] at this
      have e : ([(b.drop a).take n] : List (List Int)).flatten.length = n := by simp; omega
      omega
    · rw [if_neg q] at h
      cases h
theorem cutO_flat {b : List Int} {S : List Nat} : ∀ {m a : Nat} {D : List (List Int)} {r : Nat × List (List Int)}, cutO b S m a D = some r → r.1 + D.flatten.length = a + r.2.flatten.length
  | 0, a, D, r, h => by cases h; rfl
  | m + 1, a, D, r, h => by
    unfold cutO at h
    cases hc : cutS b S a D with
    | none => rw [hc] at h; cases h
    | some q =>
      rw [hc] at h
      have h1 := cut_flat hc
      have h2 := cutO_flat h
      omega
theorem law18_DdsAgain_true (a0 : List Int) (h0 : ∀ x ∈ a0, IntKind.u8.has x) : ∃ F, law18_DdsAgain F a0 = some (true, ()) := by
  refine ⟨30000 + 30000, ?_⟩
  have aw := awake18 30000
  generalize hF : 30000 + 30000 = F at *
  unfold law18_DdsAgain ref17_Wide
  rw [aw, obd]
  dsimp only
  by_cases q : a0.length ≤ 20000
  rotate_left
  · rw [decide_eq_true (show (20000 : Int) < ((a0.length : Nat) : Int) by omega)]
    rfl
  rw [decide_eq_false (show ¬ (20000 : Int) < ((a0.length : Nat) : Int) by omega), cond_false]
  have hb := bytes_of_u8 h0
  obtain ⟨f, w, h, lay, fac, lev, D, e, e1, e2, hD, hm, hR⟩ := read18 (F := F) (by omega) (b := a0) (by omega) hb (by omega) 4096 100 1000000
  simp only [obd]
  rw [e1, obd]
  dsimp only
  by_cases qe : e = 0
  rotate_left
  · rw [bneI qe, cond_true]
  rw [qe, bne_self_eq_false, cond_false]
  obtain ⟨k, w', h', y, c, v, S, a, hf, hw', hh', hy', hc', hv', ha, R⟩ := hR qe
  rw [hf, hw', hh', hy', hc', hv']
  have g := hd17_ok R.hd
  have v1 : 1 ≤ v := by have := g.2.2.2.2.1; omega
  have W := R.whole ha (by omega) (R.sz.z v1)
  have w31 := W.w1
  have h31 := W.h1
  have v31 := W.v1
  have fl : D.flatten.length ≤ 20000 := by
    have := cutO_flat R.cut
    have : a0.length + 0 = a + D.flatten.length := this
    omega
  have hDb : ∀ x ∈ D, Bytes x := fun x hx y hy => hb y ((hm x hx).2 y hy)
  have ck : ck17 F (k : Int) (w' : Int) (h' : Int) (y : Int) (c : Int) (v : Int) D [] 4096 100 1000000 = 0 := by rw [W.ck]; exact R.hd
  obtain ⟨r, e', W1, _, W3, W4⟩ := write18 (F := F) (by omega) (f := (k : Int)) (w := (w' : Int)) (h := (h' : Int)) (lay := (y : Int)) (fac := (c : Int)) (lev := (v : Int)) (by omega) (by omega) (by omega) (D := D) (P := []) (by omega) (by omega) (.inr (by omega)) (fun p hp => by cases hp) (by decide)
  obtain ⟨k2, w2, h2, y2, c2, v2, S2, kf, kw, kh, ky, kc, kv, W', K⟩ := W4 (ckWide ck)
  have i1 : k2 = k := by omega
  have i2 : w2 = w' := by omega
  have i3 : h2 = h' := by omega
  have i4 : y2 = y := by omega
  have i5 : c2 = c := by omega
  have i6 : v2 = v := by omega
  rw [i1, i2, i3, i4, i5, i6] at K
  rcases K with ⟨k7, ke⟩ | ⟨k6, ke, code, c1, c3, kr⟩
  · exact absurd R.k6 (by omega)
  rw [ke, kr] at W1
  have RF := read_file W (by omega) c1 c3 (by omega) (by omega) hDb 4096 100 1000000
  rw [if_pos R.hd] at RF
  rw [W1, obd]
  dsimp only
  rw [RF, obd]
  dsimp only
  rw [W1, obd]
  dsimp only
  have S1 := rSame17_is (F := F) (a := ((k : Int), (w' : Int), (h' : Int), (y : Int), (c : Int), (v : Int), D, [], ())) (b := ((k : Int), (w' : Int), (h' : Int), (y : Int), (c : Int), (v : Int), D, [], ())) (by dsimp only; omega) (by show 0 < F; omega) (by dsimp only; omega) (by show 0 < 4611686018427387904; omega) (fun x hx => by have := (hm x hx).1; omega)
  have fll := file18_len W code
  have S2 := rSame_is (F := F) (a := file18 w' h' y c v code D) (b := file18 w' h' y c v code D) (by omega) (by omega)
  obtain ⟨C1, _⟩ := Check_is (F := F) (f := (k : Int)) (w := (w' : Int)) (h := (h' : Int)) (lay := (y : Int)) (fac := (c : Int)) (lev := (v : Int)) (by omega) (by omega) (by omega) (D := D) (P := []) 4096 100 1000000 (by omega) (by omega) (fun p hp => by cases hp) (by show 0 < F; omega) (by decide) (by omega)
  rw [S1, obd, sm17_refl, S2, obd, C1, obd, ck]
  simp only [decide_true, cond_true, beq_self_eq_true]
end Go.AE.Gn

/- A part of the proof, put together of my texts: Pure17c, Pure17d, Pure17e, Pure17f, Pure17g, Pure17h. -/
import Derived.KernelRfl
import Derived.Test.YtcjfigcbloploaaRowLayoutTellsP4
set_option linter.unusedVariables false
set_option linter.unusedSimpArgs false
namespace Go.AE.Gn
open Go Go.AE
theorem texels_run (F : Nat) {w h : Nat} (wb : w < 4611686018427387904) (w1 : 1 ≤ w) (x0 x1 x2 x3 x4 x5 : Int) (x6 : List (List Int)) (x7 : List (List Int × List Int)) (x10 : Int) : ∀ (m i : Nat), ts w h i ≤ 2147483647 →
    runL (fun x => u11 (layout_Texels_r F x)) ((List.range' i m).map fun t => (((sd w t : Nat) : Int), ((sd h t : Nat) : Int))) (x0, (x1, (x2, (x3, (x4, (x5, (x6, (x7, (((ts w h i : Nat) : Int), ((0 : Int), (x10, ()))))))))))) =
      if ts w h (i + m) ≤ 2147483647 then some (.inl (x0, (x1, (x2, (x3, (x4, (x5, (x6, (x7, (((ts w h (i + m) : Nat) : Int), ((0 : Int), (x10, ())))))))))))) else some (.inr (10, ()))
  | 0, i, hi => by
    rw [Nat.add_zero, if_pos hi]
    rfl
  | m + 1, i, hi => by
    rw [List.range'_succ, List.map_cons]
    have sw := sd_le w i w1
    have mono := ts_mono w h (i + (m + 1)) (i + 1) (by omega)
    have step : ts w h (i + 1) = ts w h i + sd w i * sd h i := rfl
    have st : layout_Texels_r F (((sd w i : Nat) : Int), ((sd h i : Nat) : Int)) x0 x1 x2 x3 x4 x5 x6 x7 ((ts w h i : Nat) : Int) 0 x10 = if ts w h (i + 1) ≤ 2147483647 then some (.inl (x0, (x1, (x2, (x3, (x4, (x5, (x6, (x7, (((ts w h (i + 1) : Nat) : Int), ((0 : Int), (x10, ())))))))))))) else some (.inr (10, ())) := by
      unfold layout_Texels_r
      rw [times_is F (sd_pos h i) (by omega), obd]
      by_cases c : sd w i * sd h i ≤ 2147483647
      · rw [if_pos c]
        simp only [bne_self_eq_false, cond_false]
        rw [sum_is F hi, obd, step]
        by_cases c2 : ts w h i + sd w i * sd h i ≤ 2147483647
        · rw [if_pos c2, if_pos c2]
          simp only [bne_self_eq_false, cond_false]
        · rw [if_neg c2, if_neg c2]
          rfl
      · rw [if_neg c, if_neg (by omega)]
        rfl
    have e : u11 (layout_Texels_r F (((sd w i : Nat) : Int), ((sd h i : Nat) : Int))) (x0, (x1, (x2, (x3, (x4, (x5, (x6, (x7, (((ts w h i : Nat) : Int), ((0 : Int), (x10, ()))))))))))) = if ts w h (i + 1) ≤ 2147483647 then some (.inl (x0, (x1, (x2, (x3, (x4, (x5, (x6, (x7, (((ts w h (i + 1) : Nat) : Int), ((0 : Int), (x10, ())))))))))))) else some (.inr (10, ())) := st
    unfold runL
    rw [e]
    by_cases c : ts w h (i + 1) ≤ 2147483647
    · rw [if_pos c]
      have ih := texels_run F (h := h) wb w1 x0 x1 x2 x3 x4 x5 x6 x7 x10 m (i + 1) c
      rw [show i + 1 + m = i + (m + 1) by omega] at ih
      exact ih
    · rw [if_neg c, if_neg (by omega)]
theorem rtexels_run (F : Nat) {w h lev : Nat} (wb : w < 4611686018427387904) (w1 : 1 ≤ w) (h1 : 1 ≤ h) (hb : h < 4611686018427387904) (hF : 64 ≤ F) (x0 x3 x4 : Int) (x6 : List (List Int)) (x7 : List (List Int × List Int)) : ∀ (k i : Nat), i ≤ min lev 80 → min lev 80 - i < k → ts w h i ≤ 2147483647 →
    ref17_Texels_l0 F k x0 (w : Int) (h : Int) x3 x4 (lev : Int) x6 x7 ((ts w h i : Nat) : Int) (i : Int) =
      if ts w h (min lev 80) ≤ 2147483647 then some (.inr (x0, ((w : Int), ((h : Int), (x3, (x4, ((lev : Int), (x6, (x7, (((ts w h (min lev 80) : Nat) : Int), ())))))))))) else some (.inl (10, ()))
  | 0, i, _, hk, _ => by omega
  | k + 1, i, hi, hk, ht => by
    unfold ref17_Texels_l0 ref17_Texels_l0S
    by_cases c0 : i = min lev 80
    · rw [if_pos (by rw [← c0]; exact ht)]
      by_cases c1 : i < lev
      · rw [decide_eq_true (show (i : Int) < (lev : Int) by omega), cond_true, decide_eq_false (show ¬ (i : Int) < 80 by omega), cond_false, c0]
      · rw [decide_eq_false (show ¬ (i : Int) < (lev : Int) by omega), cond_false, c0]
    · rw [decide_eq_true (show (i : Int) < (lev : Int) by omega), cond_true, decide_eq_true (show (i : Int) < 80 by omega), cond_true]
      rw [rside_is w1 wb (by omega) hF, obd, rside_is h1 hb (by omega) hF, obd]
      have sw := sd_le w i w1
      rw [rtimes_is F (sd_pos h i) (by omega), obd]
      have mono := ts_mono w h (min lev 80) (i + 1) (by omega)
      have step : ts w h (i + 1) = ts w h i + sd w i * sd h i := rfl
      by_cases c : sd w i * sd h i ≤ 2147483647
      · rw [if_pos c]
        simp only [bne_self_eq_false, cond_false]
        rw [rsum_eq, sum_is F ht, obd]
        by_cases c2 : ts w h i + sd w i * sd h i ≤ 2147483647
        · rw [if_pos c2]
          simp only [bne_self_eq_false, cond_false]
          have e2 : IntKind.wrap .i64 ((i : Int) + 1) = ((i + 1 : Nat) : Int) := by
            rw [w64 (by omega) (by omega)]
            omega
          rw [e2]
          have ih := rtexels_run F (lev := lev) wb w1 h1 hb hF x0 x3 x4 x6 x7 k (i + 1) (by omega) (by omega) (by omega)
          rw [step] at ih
          exact ih
        · rw [if_neg c2, if_neg (by omega)]
          rfl
      · rw [if_neg c, if_neg (by omega)]
        rfl
def txN (w h lay fac lev : Nat) : Int × Int :=
  if ts w h lev ≤ 2147483647 ∧ ts w h lev * fac ≤ 2147483647 ∧ ts w h lev * fac * lay ≤ 2147483647 then (((ts w h lev * fac * lay : Nat) : Int), 0) else (0, 10)
def tx17 (w h lay fac lev : Int) : Int × Int :=
  if w < 1 ∨ h < 1 ∨ lay < 1 ∨ fac < 1 ∨ lev < 1 then (0, 1) else txN w.toNat h.toNat lay.toNat fac.toNat lev.toNat
theorem ts_real {w h lev : Nat} (w1 : 1 ≤ w) (h1 : 1 ≤ h) {n : Nat} (hn : n = min lev (lv17 w h + 1) ∨ (n = min lev 80 ∧ lv17 w h ≤ 61)) : ts w h n + (lev - n) = ts w h lev := by
  obtain ⟨a, b, _⟩ := lv17_spec w1 h1
  rcases Nat.lt_or_ge n lev with c | c
  · have c2 : lv17 w h + 1 ≤ n := by omega
    have p : (2 : Nat) ^ (lv17 w h + 1) ≤ 2 ^ n := Nat.pow_le_pow_right (by omega) c2
    have := ts_tail (n := n) (Nat.lt_of_lt_of_le a p) (Nat.lt_of_lt_of_le b p) (lev - n)
    rw [show n + (lev - n) = lev by omega] at this
    exact this.symm
  · rw [show n = lev by omega, Nat.sub_self]
    rfl
theorem sum_min (F : Nat) {a b : Nat} (a1 : 1 ≤ a) (ha : a ≤ 2147483647) : field_Sum F (a : Int) ((min b 2147483647 : Nat) : Int) = some (if a + b ≤ 2147483647 then (((a + b : Nat) : Int), (0, ())) else (0, (10, ()))) := by
  rw [sum_is F ha]
  by_cases c : a + b ≤ 2147483647
  · rw [if_pos c, show min b 2147483647 = b by omega, if_pos c]
  · rw [if_neg c, if_neg (by omega)]
theorem tail_is (F : Nat) {n fac lay : Nat} (hn : n ≤ 2147483647) (f1 : 1 ≤ fac) (l1 : 1 ≤ lay) (times : Int → Int → Option (Int × (Int × Unit))) (ht : ∀ a b : Nat, 1 ≤ b → a ≤ 4611686018427387904 → times (a : Int) (b : Int) = some (if a * b ≤ 2147483647 then (((a * b : Nat) : Int), (0, ())) else (0, (10, ())))) :
    ((times (n : Int) (fac : Int)).bind fun r133 => cond (r133.2.1 != (0 : Int)) (some ((0 : Int), (r133.2.1, ()))) ((times r133.1 (lay : Int)).bind fun r135 => some (r135.1, (r135.2.1, ())))) =
      some (if n * fac ≤ 2147483647 ∧ n * fac * lay ≤ 2147483647 then (((n * fac * lay : Nat) : Int), (0, ())) else (0, (10, ()))) := by
  rw [ht n fac f1 (by omega), obd]
  by_cases c : n * fac ≤ 2147483647
  · rw [if_pos c]
    simp only [bne_self_eq_false, cond_false]
    rw [ht (n * fac) lay l1 (by omega), obd]
    by_cases c2 : n * fac * lay ≤ 2147483647
    · rw [if_pos c2, if_pos ⟨c, c2⟩]
    · rw [if_neg c2, if_neg (fun q => c2 q.2)]
  · rw [if_neg c, if_neg (fun q => c q.1)]
    rfl
theorem TexelsN {F : Nat} (f : Int) {w h lay fac lev : Nat} (w1 : 1 ≤ w) (h1 : 1 ≤ h) (l1 : 1 ≤ lay) (f1 : 1 ≤ fac) (v1 : 1 ≤ lev) (wb : w < 4611686018427387904) (hb : h < 4611686018427387904) (vb : lev < 4611686018427387904) (D : List (List Int)) (P : List (List Int × List Int)) (hF : 600 ≤ F) :
    layout_Texels F (f, ((w : Int), ((h : Int), ((lay : Int), ((fac : Int), ((lev : Int), (D, (P, ())))))))) = some ((txN w h lay fac lev).1, ((txN w h lay fac lev).2, ())) ∧
    ref17_Texels F (f, ((w : Int), ((h : Int), ((lay : Int), ((fac : Int), ((lev : Int), (D, (P, ())))))))) = some ((txN w h lay fac lev).1, ((txN w h lay fac lev).2, ())) := by
  have lb := lv17_le w1 h1 wb hb
  constructor
  · unfold layout_Texels
    dsimp only
    rw [decide_eq_false (show ¬ min (min (min (min (w : Int) (h : Int)) (lay : Int)) (fac : Int)) (lev : Int) < 1 by omega), cond_false]
    rw [(Levels17 w1 h1 wb hb (by omega)).1, obd]
    have er : min (lev : Int) ((lv17 w h + 1 : Nat) : Int) = ((min lev (lv17 w h + 1) : Nat) : Int) := by omega
    dsimp only
    rw [er, levels_c1 w1 h1 wb hb (by omega) (by omega), obd]
    have hr := texels_run F (w := w) (h := h) wb w1 f (w : Int) (h : Int) (lay : Int) (fac : Int) (lev : Int) D P ((min lev (lv17 w h + 1) : Nat) : Int) (min lev (lv17 w h + 1)) 0 (by simp [ts])
    rw [show ((ts w h 0 : Nat) : Int) = 0 from rfl, Nat.zero_add] at hr
    rw [hr]
    have tr := ts_real (lev := lev) w1 h1 (n := min lev (lv17 w h + 1)) (.inl rfl)
    unfold txN
    by_cases c : ts w h (min lev (lv17 w h + 1)) ≤ 2147483647
    · rw [if_pos c, obd]
      dsimp only
      have ed : min (IntKind.wrap .i64 ((lev : Int) - ((min lev (lv17 w h + 1) : Nat) : Int))) (2147483647 : Int) = ((min (lev - min lev (lv17 w h + 1)) 2147483647 : Nat) : Int) := by
        rw [w64 (by omega) (by omega)]
        omega
      rw [ed, sum_min F (ts_pos w h _ (by omega)) c, obd, tr]
      by_cases c2 : ts w h lev ≤ 2147483647
      · rw [if_pos c2]
        simp only [bne_self_eq_false, cond_false]
        have tl := tail_is F c2 f1 l1 (field_Times F) (fun a b h1 h2 => times_is F h1 h2)
        rw [tl]
        by_cases c3 : ts w h lev * fac ≤ 2147483647 ∧ ts w h lev * fac * lay ≤ 2147483647
        · rw [if_pos c3, if_pos ⟨c2, c3⟩]
        · rw [if_neg c3, if_neg (fun q => c3 q.2)]
      · rw [if_neg c2, if_neg (fun q => c2 q.1)]
        rfl
    · rw [if_neg c, if_neg (fun q => by omega)]
      rfl
  · unfold ref17_Texels
    dsimp only
    simp only [decide_eq_false (show ¬ (w : Int) < 1 by omega), decide_eq_false (show ¬ (h : Int) < 1 by omega), decide_eq_false (show ¬ (lay : Int) < 1 by omega), decide_eq_false (show ¬ (fac : Int) < 1 by omega), decide_eq_false (show ¬ (lev : Int) < 1 by omega), cond_false]
    have hr := rtexels_run F (lev := lev) wb w1 h1 hb (by omega) f (lay : Int) (fac : Int) D P F 0 (by omega) (by omega) (by simp [ts])
    rw [show ((ts w h 0 : Nat) : Int) = 0 from rfl, show ((0 : Nat) : Int) = 0 from rfl] at hr
    rw [hr]
    have tr := ts_real (lev := lev) w1 h1 (n := min lev 80) (.inr ⟨rfl, lb⟩)
    unfold txN
    by_cases c : ts w h (min lev 80) ≤ 2147483647
    · rw [if_pos c, obd]
      dsimp only
      by_cases c0 : 80 < lev
      · rw [decide_eq_true (show (80 : Int) < (lev : Int) by omega), cond_true]
        have ed : min (IntKind.wrap .i64 ((lev : Int) - 80)) (2147483647 : Int) = ((min (lev - min lev 80) 2147483647 : Nat) : Int) := by
          rw [w64 (by omega) (by omega)]
          omega
        rw [ed, rsum_eq, sum_min F (ts_pos w h _ (by omega)) c, obd, tr]
        by_cases c2 : ts w h lev ≤ 2147483647
        · rw [if_pos c2]
          simp only [bne_self_eq_false, cond_false]
          have tl := tail_is F c2 f1 l1 (ref01_Times F) (fun a b h1 h2 => rtimes_is F h1 h2)
          rw [tl]
          by_cases c3 : ts w h lev * fac ≤ 2147483647 ∧ ts w h lev * fac * lay ≤ 2147483647
          · rw [if_pos c3, if_pos ⟨c2, c3⟩]
          · rw [if_neg c3, if_neg (fun q => c3 q.2)]
        · rw [if_neg c2, if_neg (fun q => c2 q.1)]
          rfl
      · rw [decide_eq_false (show ¬ (80 : Int) < (lev : Int) by omega), cond_false]
        have c2 : ts w h lev ≤ 2147483647 := by rw [show min lev 80 = lev by omega] at c; exact c
        rw [show min lev 80 = lev by omega]
        have tl := tail_is F c2 f1 l1 (ref01_Times F) (fun a b h1 h2 => rtimes_is F h1 h2)
        rw [tl]
        by_cases c3 : ts w h lev * fac ≤ 2147483647 ∧ ts w h lev * fac * lay ≤ 2147483647
        · rw [if_pos c3, if_pos ⟨c2, c3⟩]
        · rw [if_neg c3, if_neg (fun q => c3 q.2)]
    · have := ts_mono w h lev (min lev 80) (by omega)
      rw [if_neg c, if_neg (fun q => by omega)]
      rfl
end Go.AE.Gn
set_option linter.unusedVariables false
set_option linter.unusedSimpArgs false
namespace Go.AE.Gn
open Go Go.AE
theorem Texels_is {F : Nat} (f : Int) {w h lay fac lev : Int} (wb : w < 4611686018427387904) (hb : h < 4611686018427387904) (vb : lev < 4611686018427387904) (D : List (List Int)) (P : List (List Int × List Int)) (hF : 600 ≤ F) :
    layout_Texels F (f, (w, (h, (lay, (fac, (lev, (D, (P, ())))))))) = some ((tx17 w h lay fac lev).1, ((tx17 w h lay fac lev).2, ())) ∧
    ref17_Texels F (f, (w, (h, (lay, (fac, (lev, (D, (P, ())))))))) = some ((tx17 w h lay fac lev).1, ((tx17 w h lay fac lev).2, ())) := by
  by_cases c : w < 1 ∨ h < 1 ∨ lay < 1 ∨ fac < 1 ∨ lev < 1
  · unfold tx17
    rw [if_pos c]
    constructor
    · unfold layout_Texels
      dsimp only
      rw [decide_eq_true (show min (min (min (min w h) lay) fac) lev < 1 by omega), cond_true]
    · unfold ref17_Texels
      dsimp only
      by_cases c1 : w < 1
      · rw [decide_eq_true c1, cond_true]
      rw [decide_eq_false c1, cond_false]
      by_cases c2 : h < 1
      · rw [decide_eq_true c2, cond_true]
      rw [decide_eq_false c2, cond_false]
      by_cases c3 : lay < 1
      · rw [decide_eq_true c3, cond_true]
      rw [decide_eq_false c3, cond_false]
      by_cases c4 : fac < 1
      · rw [decide_eq_true c4, cond_true]
      rw [decide_eq_false c4, cond_false, decide_eq_true (show lev < 1 by omega), cond_true]
  · unfold tx17
    rw [if_neg c]
    obtain ⟨w, rfl⟩ := Int.eq_ofNat_of_zero_le (show 0 ≤ w by omega)
    obtain ⟨h, rfl⟩ := Int.eq_ofNat_of_zero_le (show 0 ≤ h by omega)
    obtain ⟨lay, rfl⟩ := Int.eq_ofNat_of_zero_le (show 0 ≤ lay by omega)
    obtain ⟨fac, rfl⟩ := Int.eq_ofNat_of_zero_le (show 0 ≤ fac by omega)
    obtain ⟨lev, rfl⟩ := Int.eq_ofNat_of_zero_le (show 0 ≤ lev by omega)
    exact TexelsN f (by omega) (by omega) (by omega) (by omega) (by omega) (by omega) (by omega) (by omega) D P hF
def hd17 (f w h lay fac lev sd la tx : Int) : Int :=
  if ¬ (1 ≤ f ∧ f ≤ 12) then 5 else
  if w < 1 ∨ h < 1 ∨ lay < 1 ∨ lev < 1 ∨ (fac ≠ 1 ∧ fac ≠ 6) then 1 else
  if (fac = 6 ∧ w ≠ h) ∨ ((lv17 w.toNat h.toNat + 1 : Nat) : Int) < lev then 1 else
  if sd < w ∨ sd < h ∨ la < lay ∨ (tx17 w h lay fac lev).2 ≠ 0 ∨ tx < (tx17 w h lay fac lev).1 then 6 else 0
theorem Of_num (F : Nat) (f : Int) : (1 ≤ f ∧ f ≤ 12 ∧ ∃ r, format_Of F f = some (r, (0, ()))) ∨ (¬ (1 ≤ f ∧ f ≤ 12) ∧ format_Of F f = some ((0, (0, (false, ()))), (5, ()))) := by
  by_cases h : 1 ≤ f ∧ f ≤ 12
  · obtain ⟨k, hk, rfl⟩ := fmt_of h
    exact .inl ⟨h.1, h.2, _, Of_is F hk⟩
  · exact .inr ⟨h, Of_bad F h⟩
theorem Levels_I {F : Nat} {w h : Int} (w1 : ¬ w < 1) (h1 : ¬ h < 1) (wb : w < 4611686018427387904) (hb : h < 4611686018427387904) (hF : 62 ≤ F) :
    mip_Levels F w h = some (((lv17 w.toNat h.toNat + 1 : Nat) : Int), ()) ∧ ref05_Levels F w h = some (((lv17 w.toNat h.toNat + 1 : Nat) : Int), ()) := by
  obtain ⟨w, rfl⟩ := Int.eq_ofNat_of_zero_le (show 0 ≤ w by omega)
  obtain ⟨h, rfl⟩ := Int.eq_ofNat_of_zero_le (show 0 ≤ h by omega)
  exact Levels17 (by omega) (by omega) (by omega) (by omega) hF
theorem Header_is {F : Nat} {f w h lay fac lev : Int} (wb : w < 4611686018427387904) (hb : h < 4611686018427387904) (vb : lev < 4611686018427387904) (D : List (List Int)) (P : List (List Int × List Int)) (sd la tx : Int) (hF : 600 ≤ F) :
    layout_Header F (f, (w, (h, (lay, (fac, (lev, (D, (P, ())))))))) (sd, (la, (tx, ()))) = some (hd17 f w h lay fac lev sd la tx, ()) ∧
    ref17_Header F (f, (w, (h, (lay, (fac, (lev, (D, (P, ())))))))) (sd, (la, (tx, ()))) = some (hd17 f w h lay fac lev sd la tx, ()) := by
  obtain ⟨T1, T2⟩ := Texels_is (F := F) f (w := w) (h := h) (lay := lay) (fac := fac) (lev := lev) wb hb vb D P hF
  unfold layout_Header ref17_Header hd17
  dsimp only
  rw [(rOf_is F f).1, T1, T2]
  rcases Of_num F f with ⟨g1, g2, r, ho⟩ | ⟨g, ho⟩
  rotate_left
  · rw [ho, if_pos g]
    exact ⟨rfl, rfl⟩
  rw [ho, if_neg (show ¬ ¬ (1 ≤ f ∧ f ≤ 12) from fun q => q ⟨g1, g2⟩)]
  simp only [obd]
  simp only [bne_self_eq_false, cond_false]
  by_cases c1 : w < 1
  · rw [decide_eq_true (show min (min (min w h) lay) lev < 1 by omega), decide_eq_true c1, if_pos (.inl c1)]
    exact ⟨rfl, rfl⟩
  by_cases c2 : h < 1
  · rw [decide_eq_true (show min (min (min w h) lay) lev < 1 by omega), decide_eq_false c1, decide_eq_true c2, if_pos (.inr (.inl c2))]
    exact ⟨rfl, rfl⟩
  by_cases c3 : lay < 1
  · rw [decide_eq_true (show min (min (min w h) lay) lev < 1 by omega), decide_eq_false c1, decide_eq_false c2, decide_eq_true c3, if_pos (.inr (.inr (.inl c3)))]
    exact ⟨rfl, rfl⟩
  by_cases c4 : lev < 1
  · rw [decide_eq_true (show min (min (min w h) lay) lev < 1 by omega), decide_eq_false c1, decide_eq_false c2, decide_eq_false c3, decide_eq_true c4, if_pos (.inr (.inr (.inr (.inl c4))))]
    exact ⟨rfl, rfl⟩
  rw [decide_eq_false (show ¬ min (min (min w h) lay) lev < 1 by omega), decide_eq_false c1, decide_eq_false c2, decide_eq_false c3, decide_eq_false c4]
  simp only [cond_false]
  obtain ⟨L1, L2⟩ := Levels_I (F := F) c1 c2 wb hb (by omega)
  rw [L1, L2]
  simp only [obd]
  generalize lv17 w.toNat h.toNat + 1 = m
  generalize tx17 w h lay fac lev = t
  by_cases c5 : fac = 1
  · subst c5
    rw [if_neg (show ¬ (w < 1 ∨ h < 1 ∨ lay < 1 ∨ lev < 1 ∨ ((1 : Int) ≠ 1 ∧ (1 : Int) ≠ 6)) by omega)]
    have e1 : ((1 : Int) != 1) = false := rfl
    have e2 : ((1 : Int) == 6) = false := rfl
    rw [e1, e2]
    simp only [cond_false]
    by_cases d1 : (m : Int) < lev
    · rw [decide_eq_true d1, if_pos (.inr d1)]
      exact ⟨rfl, rfl⟩
    rw [decide_eq_false d1, if_neg (by omega)]
    simp only [cond_false]
    by_cases d2 : sd < w
    · rw [decide_eq_true d2, if_pos (.inl d2)]; exact ⟨rfl, rfl⟩
    by_cases d3 : sd < h
    · rw [decide_eq_false d2, decide_eq_true d3, if_pos (.inr (.inl d3))]; exact ⟨rfl, rfl⟩
    by_cases d4 : la < lay
    · rw [decide_eq_false d2, decide_eq_false d3, decide_eq_true d4, if_pos (.inr (.inr (.inl d4)))]; exact ⟨rfl, rfl⟩
    rw [decide_eq_false d2, decide_eq_false d3, decide_eq_false d4]
    simp only [cond_false]
    by_cases d5 : t.2 = 0
    · have e : (t.2 != (0 : Int)) = false := by simp [d5]
      rw [e, cond_false]
      by_cases d6 : tx < t.1
      · rw [decide_eq_true d6, if_pos (.inr (.inr (.inr (.inr d6))))]; exact ⟨rfl, rfl⟩
      · rw [decide_eq_false d6, if_neg (by omega)]; exact ⟨rfl, rfl⟩
    · rw [bneT d5, if_pos (.inr (.inr (.inr (.inl d5))))]; exact ⟨rfl, rfl⟩
  by_cases c6 : fac = 6
  · subst c6
    rw [if_neg (show ¬ (w < 1 ∨ h < 1 ∨ lay < 1 ∨ lev < 1 ∨ ((6 : Int) ≠ 1 ∧ (6 : Int) ≠ 6)) by omega)]
    have e1 : ((6 : Int) != 1) = true := rfl
    have e2 : ((6 : Int) == 6) = true := rfl
    have e3 : ((6 : Int) != 6) = false := rfl
    rw [e1, e2, e3]
    simp only [cond_false, cond_true]
    by_cases d0 : w = h
    rotate_left
    · rw [bneT d0, if_pos (.inl ⟨by first | rfl | trivial, d0⟩)]
      exact ⟨rfl, rfl⟩
    have e4 : (w != h) = false := by simp [d0]
    rw [e4]
    simp only [cond_false]
    by_cases d1 : (m : Int) < lev
    · rw [decide_eq_true d1, if_pos (.inr d1)]
      exact ⟨rfl, rfl⟩
    rw [decide_eq_false d1, if_neg (by omega)]
    simp only [cond_false]
    by_cases d2 : sd < w
    · rw [decide_eq_true d2, if_pos (.inl d2)]; exact ⟨rfl, rfl⟩
    by_cases d3 : sd < h
    · rw [decide_eq_false d2, decide_eq_true d3, if_pos (.inr (.inl d3))]; exact ⟨rfl, rfl⟩
    by_cases d4 : la < lay
    · rw [decide_eq_false d2, decide_eq_false d3, decide_eq_true d4, if_pos (.inr (.inr (.inl d4)))]; exact ⟨rfl, rfl⟩
    rw [decide_eq_false d2, decide_eq_false d3, decide_eq_false d4]
    simp only [cond_false]
    by_cases d5 : t.2 = 0
    · have e : (t.2 != (0 : Int)) = false := by simp [d5]
      rw [e, cond_false]
      by_cases d6 : tx < t.1
      · rw [decide_eq_true d6, if_pos (.inr (.inr (.inr (.inr d6))))]; exact ⟨rfl, rfl⟩
      · rw [decide_eq_false d6, if_neg (by omega)]; exact ⟨rfl, rfl⟩
    · rw [bneT d5, if_pos (.inr (.inr (.inr (.inl d5))))]; exact ⟨rfl, rfl⟩
  rw [if_pos (.inr (.inr (.inr (.inr ⟨c5, c6⟩)))), bneT c5, bneT c6]
  exact ⟨rfl, rfl⟩
theorem hd17_ok {f w h lay fac lev sd la tx : Int} (e : hd17 f w h lay fac lev sd la tx = 0) :
    (1 ≤ f ∧ f ≤ 12) ∧ 1 ≤ w ∧ 1 ≤ h ∧ 1 ≤ lay ∧ 1 ≤ lev ∧ (fac = 1 ∨ fac = 6) ∧ (fac = 6 → w = h) ∧ lev ≤ ((lv17 w.toNat h.toNat + 1 : Nat) : Int) ∧ w ≤ sd ∧ h ≤ sd ∧ lay ≤ la ∧ (tx17 w h lay fac lev).2 = 0 ∧ (tx17 w h lay fac lev).1 ≤ tx := by
  unfold hd17 at e
  by_cases c1 : ¬ (1 ≤ f ∧ f ≤ 12)
  · rw [if_pos c1] at e; exact absurd e (by decide)
  rw [if_neg c1] at e
  by_cases c2 : w < 1 ∨ h < 1 ∨ lay < 1 ∨ lev < 1 ∨ (fac ≠ 1 ∧ fac ≠ 6)
  · rw [if_pos c2] at e; exact absurd e (by decide)
  rw [if_neg c2] at e
  by_cases c3 : (fac = 6 ∧ w ≠ h) ∨ ((lv17 w.toNat h.toNat + 1 : Nat) : Int) < lev
  · rw [if_pos c3] at e; exact absurd e (by decide)
  rw [if_neg c3] at e
  by_cases c4 : sd < w ∨ sd < h ∨ la < lay ∨ (tx17 w h lay fac lev).2 ≠ 0 ∨ tx < (tx17 w h lay fac lev).1
  · rw [if_pos c4] at e; exact absurd e (by decide)
  generalize tx17 w h lay fac lev = t at *
  generalize lv17 w.toNat h.toNat + 1 = m at *
  refine ⟨by omega, by omega, by omega, by omega, by omega, by omega, by omega, by omega, by omega, by omega, by omega, by omega, by omega⟩
end Go.AE.Gn
set_option linter.unusedVariables false
set_option linter.unusedSimpArgs false
namespace Go.AE.Gn
open Go Go.AE
def allB (p : Nat → Bool) : Nat → Nat → Bool
  | _, 0 => true
  | s, m + 1 => p s && allB p (s + 1) m
theorem allB_iff {p : Nat → Bool} : ∀ {m s : Nat}, allB p s m = true ↔ ∀ n, s ≤ n → n < s + m → p n = true
  | 0, s => ⟨fun _ n h1 h2 => absurd h2 (by omega), fun _ => rfl⟩
  | m + 1, s => by
    unfold allB
    rw [Bool.and_eq_true, allB_iff (m := m)]
    constructor
    · rintro ⟨a, b⟩ n h1 h2
      rcases Nat.lt_or_ge s n with c | c
      · exact b n (by omega) (by omega)
      · rw [show n = s by omega]; exact a
    · intro h
      exact ⟨h s (by omega) (by omega), fun n h1 h2 => h n (by omega) (by omega)⟩
theorem allB_add (p : Nat → Bool) : ∀ (m s k : Nat), allB p s (m + k) = (allB p s m && allB p (s + m) k)
  | 0, s, k => by rw [Nat.zero_add]; rfl
  | m + 1, s, k => by
    rw [show m + 1 + k = (m + k) + 1 by omega]
    show (p s && allB p (s + 1) (m + k)) = ((p s && allB p (s + 1) m) && allB p (s + (m + 1)) k)
    rw [allB_add p m (s + 1) k, show s + 1 + m = s + (m + 1) by omega, Bool.and_assoc]
theorem inc64 {i : Nat} (h : i < 9223372036854775807) : IntKind.wrap .i64 ((i : Int) + 1) = ((i + 1 : Nat) : Int) := by
  rw [w64 (by omega) (by omega)]
  omega
theorem go17_len {F : Nat} {f : Int} {w h : Nat} : ∀ {l : List Nat} {acc a : List Int}, go17 F f w h l acc = .inl a → a.length = acc.length + l.length
  | [], acc, a, e => by
    unfold go17 at e
    cases e
    rfl
  | j :: r, acc, a, e => by
    unfold go17 at e
    by_cases c : (B17 F f (sd w j : Nat) (sd h j : Nat)).2 = 0
    · rw [if_pos c] at e
      have := go17_len e
      simp at this
      simp
      omega
    · rw [if_neg c] at e
      cases e
theorem go17_err {F : Nat} {f : Int} {w h : Nat} : ∀ {l : List Nat} {acc : List Int} {e : Int}, go17 F f w h l acc = .inr e → e ≠ 0
  | [], acc, e, q => by
    unfold go17 at q
    cases q
  | j :: r, acc, e, q => by
    unfold go17 at q
    by_cases c : (B17 F f (sd w j : Nat) (sd h j : Nat)).2 = 0
    · rw [if_pos c] at q
      exact go17_err q
    · rw [if_neg c] at q
      cases q
      exact c
theorem sizes17_len {F : Nat} {f : Int} {w h lev : Nat} (e : (sizes17 F f w h lev).2 = 0) : (sizes17 F f w h lev).1.length = lev := by
  unfold sizes17 at e ⊢
  cases hg : go17 F f w h (List.range' 0 lev) [] with
  | inl a =>
    have := go17_len hg
    simpa using this
  | inr q =>
    rw [hg] at e
    exact absurd e (go17_err hg)
def okD (D : List (List Int)) (S : List Int) (lev n : Nat) : Bool := decide (n < D.length) && ((((D.getD n []).length : Nat) : Int) == S.getD (n % lev) 0)
theorem tmodN (a b : Nat) : Int.tmod (a : Int) (b : Int) = ((a % b : Nat) : Int) := rfl
theorem ltB {a b : Nat} (h : a < b) : ((decide ((0 : Int) ≤ (a : Int))) && (decide ((a : Int) < ((b : Nat) : Int)))) = true := by
  rw [decide_eq_true (show (0 : Int) ≤ (a : Int) by omega), decide_eq_true (show (a : Int) < (b : Int) by omega)]
  rfl
theorem bne_eq {a b : Int} : (a != b) = !(a == b) := rfl
theorem data_run (F : Nat) (x0 x1 x2 x3 x4 : Int) {lev : Nat} (x6 : List (List Int)) (x7 : List (List Int × List Int)) {D : List (List Int)} {S : List Int} (v1 : 1 ≤ lev) (hS : S.length = lev) (hD : D.length < 4611686018427387904) : ∀ (k i : Nat), i ≤ D.length → D.length - i < k →
    layout_data_l0 F k x0 x1 x2 x3 x4 (lev : Int) x6 x7 S D ((D.length : Nat) : Int) (i : Int) = if allB (okD D S lev) i (D.length - i) = true then some (.inr ()) else some (.inl ())
  | 0, i, _, hk => by omega
  | k + 1, i, hi, hk => by
    unfold layout_data_l0 layout_data_l0S
    by_cases c : i < D.length
    · rw [decide_eq_true (show (i : Int) < ((D.length : Nat) : Int) by omega), cond_true, decide_eq_true (show (0 : Int) ≤ (i : Int) by omega), Bool.and_self, cond_true, beqF (show (lev : Int) ≠ 0 by omega), Bool.not_false, cond_true]
      rw [tmodN, ltB (show i % lev < S.length by rw [hS]; exact Nat.mod_lt _ (by omega)), cond_true, inc64 (by omega), Int.toNat_natCast, Int.toNat_natCast, bne_eq]
      rw [show D.length - i = (D.length - (i + 1)) + 1 by omega]
      unfold allB
      rw [data_run F x0 x1 x2 x3 x4 x6 x7 v1 hS hD k (i + 1) (by omega) (by omega)]
      have e : okD D S lev i = ((((D.getD i []).length : Nat) : Int) == S.getD (i % lev) 0) := by
        unfold okD
        rw [decide_eq_true c, Bool.true_and]
      rw [e]
      generalize ((((D.getD i []).length : Nat) : Int) == S.getD (i % lev) 0) = q
      cases q
      · rfl
      · rfl
    · rw [decide_eq_false (show ¬ (i : Int) < ((D.length : Nat) : Int) by omega), cond_false, show D.length - i = 0 by omega]
      rfl
theorem rdata4_run (F : Nat) (x0 x1 x2 x3 x4 : Int) {lev : Nat} (x7 : List (List Int × List Int)) {D : List (List Int)} {S : List Int} (hS : S.length = lev) (hD : D.length < 4611686018427387904) (hl : lev ≤ 4611686018427387904) (x10 x11 : Int) : ∀ (k j n : Nat), j ≤ lev → lev - j < k → (j < lev → n % lev = j) →
    ref17_Check_l4 F k x0 x1 x2 x3 x4 (lev : Int) D x7 S (n : Int) x10 x11 (j : Int) = if allB (okD D S lev) n (lev - j) = true then some (.inr (x0, (x1, (x2, (x3, (x4, ((lev : Int), (D, (x7, (S, (((n + (lev - j) : Nat) : Int), (x10, (x11, ()))))))))))))) else some (.inl ())
  | 0, j, n, _, hk, _ => by omega
  | k + 1, j, n, hj, hk, hn => by
    unfold ref17_Check_l4 ref17_Check_l4S
    by_cases c : j < lev
    · rw [decide_eq_true (show (j : Int) < (lev : Int) by omega), cond_true]
      rw [show lev - j = (lev - (j + 1)) + 1 by omega]
      unfold allB
      by_cases c2 : n < D.length
      · dsimp only
        rw [decide_eq_false (show ¬ ((D.length : Nat) : Int) ≤ (n : Int) by omega), cond_false, ltB c2, cond_true, ltB (show j < S.length by omega), cond_true, inc64 (by omega), inc64 (by omega), Int.toNat_natCast, Int.toNat_natCast, bne_eq]
        rw [rdata4_run F x0 x1 x2 x3 x4 x7 hS hD hl x10 x11 k (j + 1) (n + 1) (by omega) (by omega) (fun q => by
          have := hn c
          have e1 := Nat.div_add_mod n lev
          rw [this] at e1
          have e2 : n + 1 = (j + 1) + lev * (n / lev) := by omega
          rw [e2, Nat.add_mul_mod_self_left, Nat.mod_eq_of_lt q])]
        have e : okD D S lev n = ((((D.getD n []).length : Nat) : Int) == S.getD j 0) := by
          unfold okD
          rw [decide_eq_true c2, Bool.true_and, hn c]
        rw [e, show n + 1 + (lev - (j + 1)) = n + (lev - (j + 1) + 1) by omega]
        generalize ((((D.getD n []).length : Nat) : Int) == S.getD j 0) = q
        cases q
        · rfl
        · rfl
      · have e : okD D S lev n = false := by
          unfold okD
          rw [decide_eq_false c2, Bool.false_and]
        dsimp only
        rw [decide_eq_true (show ((D.length : Nat) : Int) ≤ (n : Int) by omega), cond_true, e, Bool.false_and, if_neg (by decide)]
    · rw [decide_eq_false (show ¬ (j : Int) < (lev : Int) by omega), cond_false, show lev - j = 0 by omega]
      rfl
theorem rdata2_run (F : Nat) (x0 x1 x2 x3 : Int) {fac lev : Nat} (x7 : List (List Int × List Int)) {D : List (List Int)} {S : List Int} (v1 : 1 ≤ lev) (hS : S.length = lev) (hD : D.length < 4611686018427387904) (hl : lev < F) (hl2 : lev ≤ 4611686018427387904) (hf : fac ≤ 1000) (x10 : Int) : ∀ (k j n : Nat), j ≤ fac → fac - j < k → n % lev = 0 →
    ref17_Check_l2 F k x0 x1 x2 x3 (fac : Int) (lev : Int) D x7 S (n : Int) x10 (j : Int) = if allB (okD D S lev) n ((fac - j) * lev) = true then some (.inr (x0, (x1, (x2, (x3, ((fac : Int), ((lev : Int), (D, (x7, (S, (((n + (fac - j) * lev : Nat) : Int), (x10, ())))))))))))) else some (.inl ())
  | 0, j, n, _, hk, _ => by omega
  | k + 1, j, n, hj, hk, hn => by
    unfold ref17_Check_l2 ref17_Check_l2S
    by_cases c : j < fac
    · rw [decide_eq_true (show (j : Int) < (fac : Int) by omega), cond_true]
      have h4 := rdata4_run F x0 x1 x2 x3 (fac : Int) x7 hS hD hl2 x10 (j : Int) F 0 n (by omega) (by omega) (fun _ => hn)
      rw [Nat.sub_zero, show ((0 : Nat) : Int) = 0 from rfl] at h4
      rw [h4, show (fac - j) * lev = lev + (fac - (j + 1)) * lev by rw [show fac - j = (fac - (j + 1)) + 1 by omega, Nat.succ_mul, Nat.add_comm], allB_add]
      cases hq : allB (okD D S lev) n lev
      · rw [if_neg (by decide), obd, Bool.false_and, if_neg (by decide)]
      · rw [if_pos rfl, obd, Bool.true_and]
        dsimp only
        rw [inc64 (by omega), rdata2_run F x0 x1 x2 x3 x7 v1 hS hD hl hl2 hf x10 k (j + 1) (n + lev) (by omega) (by omega) (by rw [Nat.add_mod_right]; exact hn)]
        rw [Nat.add_assoc]
    · rw [decide_eq_false (show ¬ (j : Int) < (fac : Int) by omega), cond_false, show fac - j = 0 by omega, Nat.zero_mul]
      rfl
theorem rdata0_run (F : Nat) (x0 x1 x2 : Int) {lay fac lev : Nat} (x7 : List (List Int × List Int)) {D : List (List Int)} {S : List Int} (v1 : 1 ≤ lev) (f1 : 1 ≤ fac) (hS : S.length = lev) (hD : D.length < 4611686018427387904) (hl : lev < F) (hl2 : lev ≤ 4611686018427387904) (hf : fac ≤ 1000) (hfF : fac < F) (hy : lay < 4611686018427387904) : ∀ (k a n : Nat), a ≤ lay → 1 ≤ k → D.length + 2 ≤ k + a → n % lev = 0 → a ≤ n →
    ref17_Check_l0 F k x0 x1 x2 (lay : Int) (fac : Int) (lev : Int) D x7 S (n : Int) (a : Int) = if allB (okD D S lev) n ((lay - a) * (fac * lev)) = true then some (.inr (x0, (x1, (x2, ((lay : Int), ((fac : Int), ((lev : Int), (D, (x7, (((n + (lay - a) * (fac * lev) : Nat) : Int), ())))))))))) else some (.inl ())
  | 0, a, n, _, hk, _, _, _ => by omega
  | k + 1, a, n, ha, _, hk, hn, han => by
    unfold ref17_Check_l0 ref17_Check_l0S
    by_cases c : a < lay
    · rw [decide_eq_true (show (a : Int) < (lay : Int) by omega), cond_true]
      have h2 := rdata2_run F x0 x1 x2 (lay : Int) x7 v1 hS hD hl hl2 hf (a : Int) F 0 n (by omega) (by omega) hn
      rw [Nat.sub_zero, show ((0 : Nat) : Int) = 0 from rfl] at h2
      rw [h2, show (lay - a) * (fac * lev) = fac * lev + (lay - (a + 1)) * (fac * lev) by rw [show lay - a = (lay - (a + 1)) + 1 by omega, Nat.succ_mul, Nat.add_comm], allB_add]
      have fl : 1 ≤ fac * lev := Nat.mul_pos f1 v1
      cases hq : allB (okD D S lev) n (fac * lev)
      · rw [if_neg (by decide), obd, Bool.false_and, if_neg (by decide)]
      · rw [if_pos rfl, obd, Bool.true_and]
        dsimp only
        have hlt : n < D.length := by
          have := allB_iff.1 hq n (by omega) (by omega)
          unfold okD at this
          rw [Bool.and_eq_true] at this
          exact of_decide_eq_true this.1
        rw [inc64 (by omega), rdata0_run F x0 x1 x2 x7 v1 f1 hS hD hl hl2 hf hfF hy k (a + 1) (n + fac * lev) (by omega) (by omega) (by omega) (by rw [Nat.add_mul_mod_self_right]; exact hn) (by omega)]
        rw [Nat.add_assoc]
    · rw [decide_eq_false (show ¬ (a : Int) < (lay : Int) by omega), cond_false, show lay - a = 0 by omega, Nat.zero_mul]
      rfl
def data17 (F : Nat) (f : Int) (w h lay fac lev : Nat) (D : List (List Int)) : Bool :=
  decide ((sizes17 F f w h lev).2 = 0) && (decide (D.length = lay * fac * lev) && allB (okD D (sizes17 F f w h lev).1 lev) 0 D.length)
theorem data_is {F : Nat} {f : Int} {w h lay fac lev : Nat} {r : Int × (Int × (Bool × Unit))} (ho : format_Of F f = some (r, (0, ()))) (w1 : 1 ≤ w) (h1 : 1 ≤ h) (wb : w < 4611686018427387904) (hb : h < 4611686018427387904) (l1 : 1 ≤ lev) (l2 : lev ≤ lv17 w h + 1) (hy : lay < 4294967296) (hf : fac ≤ 6) {D : List (List Int)} (hD : D.length < F) (hD2 : D.length < 4611686018427387904) (P : List (List Int × List Int)) (hF : 600 ≤ F) :
    layout_data F (f, ((w : Int), ((h : Int), ((lay : Int), ((fac : Int), ((lev : Int), (D, (P, ())))))))) = some (data17 F f w h lay fac lev D, ()) := by
  obtain ⟨s1, _⟩ := Sizes_is ho w1 h1 wb hb l1 l2 hF
  unfold layout_data data17
  dsimp only
  rw [s1, obd]
  dsimp only
  generalize hs : sizes17 F f w h lev = S
  by_cases c : S.2 = 0
  · have hS : S.1.length = lev := by rw [← hs] at c ⊢; exact sizes17_len c
    rw [decide_eq_true c, Bool.true_and]
    have e0 : (S.2 != (0 : Int)) = false := by simp [c]
    rw [e0, cond_false, beqF (show (lev : Int) ≠ 0 by omega), Bool.not_false, cond_true, cond_true, tmodN]
    have pl : lay * fac ≤ 4294967296 * 6 := Nat.mul_le_mul (by omega) hf
    have e1 : (lay : Int) * (fac : Int) = ((lay * fac : Nat) : Int) := by rw [Int.natCast_mul]
    have e2 : Int.tdiv ((D.length : Nat) : Int) (lev : Int) = ((D.length / lev : Nat) : Int) := rfl
    have q2 : D.length / lev ≤ D.length := Nat.div_le_self _ _
    rw [e1, e2]
    have e3 : (D.length = lay * fac * lev) ↔ (D.length % lev = 0 ∧ D.length / lev = lay * fac) := by
      constructor
      · intro q
        rw [q]
        exact ⟨Nat.mul_mod_left _ _, Nat.mul_div_cancel _ (by omega)⟩
      · rintro ⟨q1, q2⟩
        have := Nat.div_add_mod D.length lev
        rw [q1, q2, Nat.add_zero, Nat.mul_comm] at this
        exact this.symm
    generalize D.length / lev = dv at *
    generalize D.length % lev = dm at *
    rw [w64 (by omega) (by omega), w64 (by omega) (by omega)]
    by_cases d1 : dm = 0
    · rw [d1]
      have e4 : (((0 : Nat) : Int) != (0 : Int)) = false := rfl
      rw [e4, cond_false]
      by_cases d2 : dv = lay * fac
      · rw [d2, decide_eq_true (e3.2 ⟨d1, d2⟩), Bool.true_and]
        have e5 : (((lay * fac : Nat) : Int) != ((lay * fac : Nat) : Int)) = false := by simp
        rw [e5, cond_false]
        have hr := data_run F f (w : Int) (h : Int) (lay : Int) (fac : Int) D P l1 hS hD2 F 0 (by omega) (by omega)
        rw [Nat.sub_zero, show ((0 : Nat) : Int) = 0 from rfl] at hr
        rw [hr]
        cases allB (okD D S.1 lev) 0 D.length <;> rfl
      · rw [decide_eq_false (fun q => d2 (e3.1 q).2), Bool.false_and, bneT (show ((dv : Nat) : Int) ≠ ((lay * fac : Nat) : Int) by omega)]
        rfl
    · rw [decide_eq_false (fun q => d1 (e3.1 q).1), Bool.false_and, bneT (show ((dm : Nat) : Int) ≠ 0 by omega)]
      rfl
  · rw [decide_eq_false c, Bool.false_and, bneT c]
    rfl
end Go.AE.Gn
set_option linter.unusedVariables false
set_option linter.unusedSimpArgs false
namespace Go.AE.Gn
open Go Go.AE
def odd17 (p : List Int × List Int) : Bool := p.1 == [] || (p.1.contains 0 || decide ((65535 : Int) < IntKind.wrap .i64 (((p.1.length : Nat) : Int) + ((p.2.length : Nat) : Int))))
theorem idxB_is (c : Int) : ∀ (l : List Int) (i : Int), 0 ≤ i → (decide ((0 : Int) ≤ idxB c l i)) = l.contains c
  | [], i, _ => rfl
  | x :: r, i, hi => by
    unfold idxB
    by_cases h : x = c
    · subst h
      rw [beqT rfl, cond_true, decide_eq_true hi]
      simp
    · rw [beqF h, cond_false, idxB_is c r (i + 1) (by omega)]
      have : (c == x) = false := beqF (Ne.symm h)
      rw [List.contains_cons, this, Bool.false_or]
def Pl (F : Nat) (P : List (List Int × List Int)) : Prop := ∀ p ∈ P, p.1.length < F ∧ p.1.length ≤ 9223372036854775807
theorem empty17 : (bytesL (ByteArray.mk (List.toArray []))) = [] := rfl
theorem odd_is (F : Nat) {p : List Int × List Int} : layout_Check_c1 F (p.1, (p.2, ())) = some (odd17 p, ()) := by
  unfold layout_Check_c1 odd17 strings_IndexByte internal_stringslite_IndexByte
  dsimp only
  rw [empty17]
  cases p.1 == []
  · rw [cond_false, obd, obd, idxB_is _ _ _ (by decide), Bool.false_or]
    cases p.1.contains 0
    · rw [cond_false, Bool.false_or]
    · rfl
  · rfl
theorem drop_cons {α : Type} {l : List α} {i : Nat} (d : α) (h : i < l.length) : l.drop i = l.getD i d :: l.drop (i + 1) := by
  rw [List.drop_eq_getElem_cons h]
  congr 1
  rw [List.getD_eq_getElem?_getD, List.getElem?_eq_getElem h]
  rfl
theorem getD_mem {α : Type} {l : List α} {i : Nat} (d : α) (h : i < l.length) : l.getD i d ∈ l := by
  rw [List.getD_eq_getElem?_getD, List.getElem?_eq_getElem h]
  exact List.getElem_mem h
theorem index_run (F : Nat) {P : List (List Int × List Int)} (hP : Pl F P) (hl : P.length < 4611686018427387904) : ∀ (k i : Nat), i ≤ P.length → P.length - i < k →
    ∃ j : Nat, slices_IndexFunc_api_Pair_api_Pair_Check_c1_l0 F k P ((P.length : Nat) : Int) (i : Int) = if (P.drop i).any odd17 = true then some (.inl ((j : Int), ())) else some (.inr ())
  | 0, i, _, hk => by omega
  | k + 1, i, hi, hk => by
    by_cases c : i < P.length
    · obtain ⟨j, ih⟩ := index_run F hP hl k (i + 1) (by omega) (by omega)
      have hm := hP _ (getD_mem ([], []) c)
      have e : (P.drop i).any odd17 = (odd17 (P.getD i ([], [])) || (P.drop (i + 1)).any odd17) := by
        rw [drop_cons ([], []) c, List.any_cons]
      cases q : odd17 (P.getD i ([], []))
      · refine ⟨j, ?_⟩
        unfold slices_IndexFunc_api_Pair_api_Pair_Check_c1_l0 slices_IndexFunc_api_Pair_api_Pair_Check_c1_l0S
        rw [decide_eq_true (show (i : Int) < ((P.length : Nat) : Int) by omega), cond_true, decide_eq_true (show (0 : Int) ≤ (i : Int) by omega), Bool.and_self, cond_true, Int.toNat_natCast]
        dsimp only
        rw [odd_is F, obd, e, q, Bool.false_or, cond_false, inc64 (by omega), ih]
      · refine ⟨i, ?_⟩
        unfold slices_IndexFunc_api_Pair_api_Pair_Check_c1_l0 slices_IndexFunc_api_Pair_api_Pair_Check_c1_l0S
        rw [decide_eq_true (show (i : Int) < ((P.length : Nat) : Int) by omega), cond_true, decide_eq_true (show (0 : Int) ≤ (i : Int) by omega), Bool.and_self, cond_true, Int.toNat_natCast]
        dsimp only
        rw [odd_is F, obd, e, q, Bool.true_or, cond_true, if_pos rfl]
    · refine ⟨0, ?_⟩
      unfold slices_IndexFunc_api_Pair_api_Pair_Check_c1_l0 slices_IndexFunc_api_Pair_api_Pair_Check_c1_l0S
      rw [decide_eq_false (show ¬ (i : Int) < ((P.length : Nat) : Int) by omega), cond_false, List.drop_eq_nil_of_le (by omega)]
      rfl
theorem contains_is (F : Nat) {P : List (List Int × List Int)} (hP : Pl F P) (hl : P.length < F) (hl2 : P.length < 4611686018427387904) :
    slices_ContainsFunc_api_Pair_api_Pair_Check_c1 F P = some (P.any odd17, ()) := by
  obtain ⟨j, h⟩ := index_run F hP hl2 F 0 (by omega) (by omega)
  rw [List.drop_zero, show ((0 : Nat) : Int) = 0 from rfl] at h
  unfold slices_ContainsFunc_api_Pair_api_Pair_Check_c1 slices_IndexFunc_api_Pair_api_Pair_Check_c1
  rw [h]
  cases P.any odd17
  · rfl
  · rw [if_pos rfl, obd, obd]
    dsimp only
    rw [decide_eq_true (show (0 : Int) ≤ (j : Int) by omega)]
theorem key_run (F : Nat) (x0 x1 x2 x3 x4 x5 : Int) (x6 : List (List Int)) (x7 : List (List Int × List Int)) (x8 : Int) {K : List Int} (x10 x12 : List Int) (x13 : Int) (x14 : List Int) (x15 x16 : Int) (x17 : Bool) (hK : K.length ≤ 9223372036854775807) : ∀ (k i : Nat), i ≤ K.length → K.length - i < k →
    ref17_Check_l8 F k x0 x1 x2 x3 x4 x5 x6 x7 x8 K x10 (i : Int) x12 x13 x14 x15 x16 x17 = if (K.drop i).contains 0 = true then some (.inl ()) else some (.inr (x0, (x1, (x2, (x3, (x4, (x5, (x6, (x7, (x8, (K, (x10, (x12, (x13, (x14, (x15, (x16, (x17, ()))))))))))))))))))
  | 0, i, _, hk => by omega
  | k + 1, i, hi, hk => by
    unfold ref17_Check_l8 ref17_Check_l8S
    dsimp only
    by_cases c : i < K.length
    · rw [decide_eq_true (show (i : Int) < ((K.length : Nat) : Int) by omega), cond_true, decide_eq_true (show (0 : Int) ≤ (i : Int) by omega), Bool.and_self, cond_true, Int.toNat_natCast]
      rw [drop_cons 0 c, List.contains_cons]
      by_cases q : K.getD i 0 = 0
      · rw [q, beqT rfl, cond_true, Bool.true_or, if_pos rfl]
      · rw [beqF q, cond_false, beqF (Ne.symm q), Bool.false_or, inc64 (by omega), key_run F x0 x1 x2 x3 x4 x5 x6 x7 x8 x10 x12 x13 x14 x15 x16 x17 hK k (i + 1) (by omega) (by omega)]
    · rw [decide_eq_false (show ¬ (i : Int) < ((K.length : Nat) : Int) by omega), cond_false, List.drop_eq_nil_of_le (by omega)]
      rfl
theorem pairs_run (F : Nat) (x0 x1 x2 x3 x4 x5 : Int) (x6 : List (List Int)) {P : List (List Int × List Int)} (hP : Pl F P) (hl : P.length < 4611686018427387904) : ∀ (k i : Nat), i ≤ P.length → P.length - i < k →
    ref17_Check_l6 F k x0 x1 x2 x3 x4 x5 x6 P (i : Int) = if (P.drop i).any odd17 = true then some (.inl ()) else some (.inr ())
  | 0, i, _, hk => by omega
  | k + 1, i, hi, hk => by
    unfold ref17_Check_l6 ref17_Check_l6S
    dsimp only
    by_cases c : i < P.length
    · have hm := hP _ (getD_mem ([], []) c)
      have e : (P.drop i).any odd17 = (odd17 (P.getD i ([], [])) || (P.drop (i + 1)).any odd17) := by
        rw [drop_cons ([], []) c, List.any_cons]
      rw [decide_eq_true (show (i : Int) < ((P.length : Nat) : Int) by omega), cond_true, decide_eq_true (show (0 : Int) ≤ (i : Int) by omega), Bool.and_self, cond_true, Int.toNat_natCast, e, empty17]
      generalize P.getD i ([], []) = p at *
      unfold odd17
      cases p.1 == []
      · rw [cond_false, Bool.false_or]
        generalize hg : IntKind.wrap .i64 (((p.1.length : Nat) : Int) + ((p.2.length : Nat) : Int)) = g
        cases hd : decide ((65535 : Int) < g)
        · rw [cond_false, Bool.or_false]
          have hk8 := key_run F x0 x1 x2 x3 x4 x5 x6 P (i : Int) (K := p.1) p.2 p.1 ((p.1.length : Nat) : Int) p.2 ((p.2.length : Nat) : Int) g false (by omega) F 0 (by omega) (by omega)
          rw [List.drop_zero, show ((0 : Nat) : Int) = 0 from rfl] at hk8
          rw [hk8]
          cases p.1.contains 0
          · rw [if_neg (by decide), obd]
            dsimp only
            rw [Bool.false_or, inc64 (by omega), pairs_run F x0 x1 x2 x3 x4 x5 x6 hP hl k (i + 1) (by omega) (by omega)]
            rfl
          · rfl
        · rw [cond_true, Bool.or_true]
          rfl
      · rfl
    · rw [decide_eq_false (show ¬ (i : Int) < ((P.length : Nat) : Int) by omega), cond_false, List.drop_eq_nil_of_le (by omega)]
      rfl
def ck17 (F : Nat) (f w h lay fac lev : Int) (D : List (List Int)) (P : List (List Int × List Int)) (sd la tx : Int) : Int :=
  if hd17 f w h lay fac lev sd la tx ≠ 0 then hd17 f w h lay fac lev sd la tx else
  cond (data17 F f w.toNat h.toNat lay.toNat fac.toNat lev.toNat D) (cond (P.any odd17) 8 0) 1
theorem tx_lay {w h lay fac lev : Int} (e : (tx17 w h lay fac lev).2 = 0) : lay ≤ 2147483647 := by
  unfold tx17 at e
  by_cases c : w < 1 ∨ h < 1 ∨ lay < 1 ∨ fac < 1 ∨ lev < 1
  · rw [if_pos c] at e
    exact absurd e (by decide)
  · rw [if_neg c] at e
    unfold txN at e
    by_cases d : ts w.toNat h.toNat lev.toNat ≤ 2147483647 ∧ ts w.toNat h.toNat lev.toNat * fac.toNat ≤ 2147483647 ∧ ts w.toNat h.toNat lev.toNat * fac.toNat * lay.toNat ≤ 2147483647
    · have p1 := ts_pos w.toNat h.toNat lev.toNat (by omega)
      have p2 : 1 ≤ ts w.toNat h.toNat lev.toNat * fac.toNat := Nat.mul_pos p1 (by omega)
      have p3 : 1 * lay.toNat ≤ ts w.toNat h.toNat lev.toNat * fac.toNat * lay.toNat := Nat.mul_le_mul_right _ p2
      omega
    · rw [if_neg d] at e
      exact absurd e (by decide)
theorem Check_is {F : Nat} {f w h lay fac lev : Int} (wb : w < 4611686018427387904) (hb : h < 4611686018427387904) (vb : lev < 4611686018427387904) {D : List (List Int)} {P : List (List Int × List Int)} (sd la tx : Int) (hD : D.length < F - 2) (hD2 : D.length < 1099511627776) (hP : Pl F P) (hP1 : P.length < F) (hP2 : P.length < 1099511627776) (hF : 2000 ≤ F) :
    layout_Check F (f, (w, (h, (lay, (fac, (lev, (D, (P, ())))))))) (sd, (la, (tx, ()))) = some (ck17 F f w h lay fac lev D P sd la tx, ()) ∧
    ref17_Check F (f, (w, (h, (lay, (fac, (lev, (D, (P, ())))))))) (sd, (la, (tx, ()))) = some (ck17 F f w h lay fac lev D P sd la tx, ()) := by
  obtain ⟨H1, H2⟩ := Header_is (F := F) (f := f) (lay := lay) (fac := fac) wb hb vb D P sd la tx (by omega)
  unfold layout_Check ref17_Check ck17
  dsimp only
  rw [H1, H2]
  simp only [obd]
  by_cases c : hd17 f w h lay fac lev sd la tx = 0
  rotate_left
  · rw [bneT c, if_pos c]
    exact ⟨rfl, rfl⟩
  have e0 : (hd17 f w h lay fac lev sd la tx != (0 : Int)) = false := by simp [c]
  rw [e0, if_neg (fun q => q c)]
  simp only [cond_false]
  obtain ⟨g1, g2, g3, g4, g5, g6, g7, g8, g9, g10, g11, g12, g13⟩ := hd17_ok c
  have g14 := tx_lay g12
  clear H1 H2 e0 c g7 g9 g10 g11 g12 g13
  rcases Of_num F f with ⟨_, _, r, ho⟩ | ⟨q, _⟩
  rotate_left
  · exact absurd g1 q
  obtain ⟨w, rfl⟩ := Int.eq_ofNat_of_zero_le (show 0 ≤ w by omega)
  obtain ⟨h, rfl⟩ := Int.eq_ofNat_of_zero_le (show 0 ≤ h by omega)
  obtain ⟨lay, rfl⟩ := Int.eq_ofNat_of_zero_le (show 0 ≤ lay by omega)
  obtain ⟨fac, rfl⟩ := Int.eq_ofNat_of_zero_le (show 0 ≤ fac by omega)
  obtain ⟨lev, rfl⟩ := Int.eq_ofNat_of_zero_le (show 0 ≤ lev by omega)
  simp only [Int.toNat_natCast] at *
  have lb := lv17_le (w := w) (h := h) (by omega) (by omega) (by omega) (by omega)
  have D1 := data_is (F := F) (lay := lay) (fac := fac) (lev := lev) ho (w := w) (h := h) (by omega) (by omega) (by omega) (by omega) (by omega) (by omega) (by omega) (by omega) (D := D) (by omega) (by omega) P (by omega)
  obtain ⟨_, S2⟩ := Sizes_is (F := F) ho (w := w) (h := h) (lev := lev) (by omega) (by omega) (by omega) (by omega) (by omega) (by omega) (by omega)
  rw [D1, S2, contains_is F hP hP1 (by omega)]
  simp only [obd]
  constructor
  · cases data17 F f w h lay fac lev D
    · rfl
    · cases P.any odd17 <;> rfl
  · unfold data17
    by_cases s : (sizes17 F f w h lev).2 = 0
    · have hS := sizes17_len s
      have e1 : ((sizes17 F f w h lev).2 != (0 : Int)) = false := by simp [s]
      rw [e1, cond_false, decide_eq_true s, Bool.true_and]
      generalize (sizes17 F f w h lev).1 = S at *
      have hr := rdata0_run F f (w : Int) (h : Int) (lay := lay) (fac := fac) (lev := lev) P (D := D) (S := S) (by omega) (by omega) hS (by omega) (by omega) (by omega) (by omega) (by omega) (by omega) F 0 0 (by omega) (by omega) (by omega) (Nat.zero_mod _) (by omega)
      rw [Nat.sub_zero, Nat.zero_add, show ((0 : Nat) : Int) = 0 from rfl, ← Nat.mul_assoc] at hr
      rw [hr]
      have pr := pairs_run F f (w : Int) (h : Int) (lay : Int) (fac : Int) (lev : Int) D hP (by omega) F 0 (by omega) (by omega)
      rw [List.drop_zero, show ((0 : Nat) : Int) = 0 from rfl] at pr
      by_cases d : D.length = lay * fac * lev
      · rw [decide_eq_true d, Bool.true_and, ← d]
        cases allB (okD D S lev) 0 D.length
        · rfl
        · rw [if_pos rfl, obd]
          dsimp only
          have e2 : (((D.length : Nat) : Int) != ((D.length : Nat) : Int)) = false := by simp
          rw [e2, cond_false, pr]
          cases P.any odd17 <;> rfl
      · rw [decide_eq_false d, Bool.false_and]
        cases hq : allB (okD D S lev) 0 (lay * fac * lev)
        · rfl
        · rw [if_pos rfl, obd]
          dsimp only
          rw [bneT (show ((lay * fac * lev : Nat) : Int) ≠ ((D.length : Nat) : Int) by omega)]
          rfl
    · rw [bneT s, decide_eq_false s, Bool.false_and]
      rfl
end Go.AE.Gn
set_option linter.unusedVariables false
set_option linter.unusedSimpArgs false
namespace Go.AE.Gn
open Go Go.AE
abbrev Tex17 := Int × (Int × (Int × (Int × (Int × (Int × (List (List Int) × (List (List Int × List Int) × Unit)))))))
theorem light0_run (F : Nat) (x0 x1 x2 x3 x4 x5 : Int) (D : List (List Int)) (x7 : List (List Int × List Int)) : ∀ (k i : Nat) (s : Int), i ≤ 400 → 400 - i < k →
    ∃ s' : Int, ref17_Light_l0 F k x0 x1 x2 x3 x4 x5 D x7 s (i : Int) = some (x0, (x1, (x2, (x3, (x4, (x5, (D, (x7, (s', ())))))))))
  | 0, i, s, _, hk => by omega
  | k + 1, i, s, hi, hk => by
    unfold ref17_Light_l0 ref17_Light_l0S
    dsimp only
    by_cases c : i < D.length
    · by_cases c2 : i < 400
      · obtain ⟨s', ih⟩ := light0_run F x0 x1 x2 x3 x4 x5 D x7 k (i + 1) (IntKind.wrap .i64 ((IntKind.wrap .i64 (s + (20 : Int))) + (((List.length (List.getD D (Int.toNat (i : Int)) [])) : Nat) : Int))) (by omega) (by omega)
        refine ⟨s', ?_⟩
        rw [decide_eq_true (show (i : Int) < ((D.length : Nat) : Int) by omega), cond_true, decide_eq_true (show (i : Int) < 400 by omega), cond_true, decide_eq_true (show (0 : Int) ≤ (i : Int) by omega), Bool.and_self, cond_true, inc64 (by omega), ih]
      · refine ⟨s, ?_⟩
        rw [decide_eq_true (show (i : Int) < ((D.length : Nat) : Int) by omega), cond_true, decide_eq_false (show ¬ (i : Int) < 400 by omega), cond_false]
    · refine ⟨s, ?_⟩
      rw [decide_eq_false (show ¬ (i : Int) < ((D.length : Nat) : Int) by omega), cond_false]
theorem light2_run (F : Nat) (x0 x1 x2 x3 x4 x5 : Int) (x6 : List (List Int)) (P : List (List Int × List Int)) : ∀ (k i : Nat) (s : Int), i ≤ 400 → 400 - i < k →
    ∃ s' : Int, ref17_Light_l2 F k x0 x1 x2 x3 x4 x5 x6 P s (i : Int) = some (x0, (x1, (x2, (x3, (x4, (x5, (x6, (P, (s', ())))))))))
  | 0, i, s, _, hk => by omega
  | k + 1, i, s, hi, hk => by
    unfold ref17_Light_l2 ref17_Light_l2S
    dsimp only
    by_cases c : i < P.length
    · by_cases c2 : i < 400
      · obtain ⟨s', ih⟩ := light2_run F x0 x1 x2 x3 x4 x5 x6 P k (i + 1) (IntKind.wrap .i64 ((IntKind.wrap .i64 ((IntKind.wrap .i64 (s + (20 : Int))) + (((List.length (List.getD P (Int.toNat (i : Int)) ([], [])).1) : Nat) : Int))) + (((List.length (List.getD P (Int.toNat (i : Int)) ([], [])).2) : Nat) : Int))) (by omega) (by omega)
        refine ⟨s', ?_⟩
        rw [decide_eq_true (show (i : Int) < ((P.length : Nat) : Int) by omega), cond_true, decide_eq_true (show (i : Int) < 400 by omega), cond_true, decide_eq_true (show (0 : Int) ≤ (i : Int) by omega), Bool.and_self, cond_true, cond_true, inc64 (by omega), ih]
      · refine ⟨s, ?_⟩
        rw [decide_eq_true (show (i : Int) < ((P.length : Nat) : Int) by omega), cond_true, decide_eq_false (show ¬ (i : Int) < 400 by omega), cond_false]
    · refine ⟨s, ?_⟩
      rw [decide_eq_false (show ¬ (i : Int) < ((P.length : Nat) : Int) by omega), cond_false]
theorem Light_is {F : Nat} (hF : 402 ≤ F) (f w h lay fac lev : Int) (D : List (List Int)) (P : List (List Int × List Int)) :
    ∃ b, ref17_Light F (f, (w, (h, (lay, (fac, (lev, (D, (P, ())))))))) = some (b, ()) ∧ (b = true → D.length ≤ 300 ∧ P.length ≤ 100) := by
  obtain ⟨s, h0⟩ := light0_run F f w h lay fac lev D P F 0 0 (by omega) (by omega)
  obtain ⟨s', h2⟩ := light2_run F f w h lay fac lev D P F 0 s (by omega) (by omega)
  rw [show ((0 : Nat) : Int) = 0 from rfl] at h0 h2
  unfold ref17_Light
  dsimp only
  rw [h0, obd]
  dsimp only
  rw [h2, obd]
  dsimp only
  by_cases c : D.length ≤ 300
  · rw [decide_eq_true (show ((D.length : Nat) : Int) ≤ 300 by omega), cond_true]
    by_cases c2 : P.length ≤ 100
    · rw [decide_eq_true (show ((P.length : Nat) : Int) ≤ 100 by omega), cond_true]
      exact ⟨_, rfl, fun _ => ⟨c, c2⟩⟩
    · rw [decide_eq_false (show ¬ ((P.length : Nat) : Int) ≤ 100 by omega), cond_false]
      exact ⟨_, rfl, fun q => nomatch q⟩
  · rw [decide_eq_false (show ¬ ((D.length : Nat) : Int) ≤ 300 by omega), cond_false]
    exact ⟨_, rfl, fun q => nomatch q⟩
theorem fair_is (F : Nat) (f w h lay fac lev : Int) (D : List (List Int)) (P : List (List Int × List Int)) :
    ∃ b, law17_fair F (f, (w, (h, (lay, (fac, (lev, (D, (P, ())))))))) = some (b, ()) ∧ (b = true → w ≤ 1073741824 ∧ h ≤ 1073741824 ∧ lay ≤ 1073741824 ∧ fac ≤ 1073741824 ∧ lev ≤ 1073741824) := by
  unfold law17_fair
  dsimp only
  by_cases c1 : w ≤ 1073741824
  rotate_left
  · rw [decide_eq_false c1, cond_false]
    exact ⟨_, rfl, fun q => nomatch q⟩
  rw [decide_eq_true c1, cond_true]
  by_cases c2 : h ≤ 1073741824
  rotate_left
  · rw [decide_eq_false c2, cond_false]
    exact ⟨_, rfl, fun q => nomatch q⟩
  rw [decide_eq_true c2, cond_true]
  by_cases c3 : lev ≤ 1073741824
  rotate_left
  · rw [decide_eq_false c3, cond_false]
    exact ⟨_, rfl, fun q => nomatch q⟩
  rw [decide_eq_true c3, cond_true]
  by_cases c4 : lay ≤ 1073741824
  rotate_left
  · rw [decide_eq_false c4, cond_false]
    exact ⟨_, rfl, fun q => nomatch q⟩
  rw [decide_eq_true c4, cond_true]
  exact ⟨_, rfl, fun q => ⟨c1, c2, c4, of_decide_eq_true q, c3⟩⟩
theorem same_run (F : Nat) {a b : List Int} (hl : a.length = b.length) (hb : a.length ≤ 9223372036854775807) : ∀ (k i : Nat), i ≤ a.length → a.length - i < k →
    ref01_Same_l0 F k a b (i : Int) = if a.drop i = b.drop i then some (.inr ()) else some (.inl ())
  | 0, i, _, hk => by omega
  | k + 1, i, hi, hk => by
    unfold ref01_Same_l0 ref01_Same_l0S
    dsimp only
    by_cases c : i < a.length
    · rw [decide_eq_true (show (i : Int) < ((a.length : Nat) : Int) by omega), cond_true, decide_eq_true (show (0 : Int) ≤ (i : Int) by omega), Bool.and_self, cond_true, decide_eq_true (show (i : Int) < ((b.length : Nat) : Int) by omega), Bool.and_self, cond_true, Int.toNat_natCast, inc64 (by omega), same_run F hl hb k (i + 1) (by omega) (by omega)]
      rw [drop_cons 0 c, drop_cons 0 (show i < b.length by omega)]
      by_cases q : a.getD i 0 = b.getD i 0
      · have e : (a.getD i 0 != b.getD i 0) = false := by rw [q]; exact bne_self_eq_false _
        rw [e, cond_false]
        by_cases d : a.drop (i + 1) = b.drop (i + 1)
        · rw [if_pos d, if_pos (by rw [q, d])]
        · rw [if_neg d, if_neg (fun h => d (List.cons.inj h).2)]
      · rw [bneT q, cond_true, if_neg (fun h => q (List.cons.inj h).1)]
    · rw [decide_eq_false (show ¬ (i : Int) < ((a.length : Nat) : Int) by omega), cond_false, if_pos]
      rw [List.drop_eq_nil_of_le (by omega), List.drop_eq_nil_of_le (by omega)]
theorem rSame_is {F : Nat} {a b : List Int} (hF : a.length < F) (hb : a.length ≤ 9223372036854775807) : ref01_Same F a b = some (decide (a = b), ()) := by
  unfold ref01_Same
  by_cases c : a.length = b.length
  · have e : (((a.length : Nat) : Int) != ((b.length : Nat) : Int)) = false := by simp [c]
    have hr := same_run F c hb F 0 (by omega) (by omega)
    rw [show ((0 : Nat) : Int) = 0 from rfl, List.drop_zero, List.drop_zero] at hr
    rw [e, cond_false, hr]
    by_cases d : a = b
    · rw [if_pos d, decide_eq_true d]; rfl
    · rw [if_neg d, decide_eq_false d]; rfl
  · rw [bneT (show ((a.length : Nat) : Int) ≠ ((b.length : Nat) : Int) by omega), cond_true, decide_eq_false (fun q => c (by rw [q]))]
theorem eqf_run (F : Nat) {A B : List (List Int)} (hl : A.length = B.length) (hb : A.length < 4611686018427387904) : ∀ (k i : Nat), i ≤ A.length → A.length - i < k →
    slices_EqualFunc_byte_byte_byte_byte_Equal_l0 F k B A ((A.length : Nat) : Int) (i : Int) = if A.drop i = B.drop i then some (.inr ()) else some (.inl ())
  | 0, i, _, hk => by omega
  | k + 1, i, hi, hk => by
    unfold slices_EqualFunc_byte_byte_byte_byte_Equal_l0 slices_EqualFunc_byte_byte_byte_byte_Equal_l0S bytes_Equal
    by_cases c : i < A.length
    · rw [decide_eq_true (show (i : Int) < ((A.length : Nat) : Int) by omega), cond_true, decide_eq_true (show (0 : Int) ≤ (i : Int) by omega), Bool.and_self, cond_true, decide_eq_true (show (i : Int) < ((B.length : Nat) : Int) by omega), Bool.and_self, cond_true, Int.toNat_natCast, inc64 (by omega), obd, eqf_run F hl hb k (i + 1) (by omega) (by omega)]
      rw [drop_cons [] c, drop_cons [] (show i < B.length by omega)]
      dsimp only
      by_cases q : A.getD i [] = B.getD i []
      · have e : (A.getD i [] == B.getD i []) = true := by rw [q]; exact beq_self_eq_true _
        rw [e, Bool.not_true, cond_false]
        by_cases d : A.drop (i + 1) = B.drop (i + 1)
        · rw [if_pos d, if_pos (by rw [q, d])]
        · rw [if_neg d, if_neg (fun h => d (List.cons.inj h).2)]
      · have e : (A.getD i [] == B.getD i []) = false := beq_eq_false_iff_ne.2 q
        rw [e, Bool.not_false, cond_true, if_neg (fun h => q (List.cons.inj h).1)]
    · rw [decide_eq_false (show ¬ (i : Int) < ((A.length : Nat) : Int) by omega), cond_false, if_pos]
      rw [List.drop_eq_nil_of_le (by omega), List.drop_eq_nil_of_le (by omega)]
theorem pair_eq (p q : List Int × List Int) : ((p.1 == q.1) && (p.2 == q.2)) = decide (p = q) := by
  obtain ⟨a, b⟩ := p
  obtain ⟨c, d⟩ := q
  rw [Bool.eq_iff_iff, Bool.and_eq_true, beq_iff_eq, beq_iff_eq, decide_eq_true_eq, Prod.mk.injEq]
theorem eqp_run (F : Nat) {A B : List (List Int × List Int)} (hl : A.length = B.length) (hb : A.length < 4611686018427387904) : ∀ (k i : Nat), i ≤ A.length → A.length - i < k →
    slices_Equal_api_Pair_api_Pair_l0 F k A B ((A.length : Nat) : Int) (i : Int) = if A.drop i = B.drop i then some (.inr ()) else some (.inl ())
  | 0, i, _, hk => by omega
  | k + 1, i, hi, hk => by
    unfold slices_Equal_api_Pair_api_Pair_l0 slices_Equal_api_Pair_api_Pair_l0S
    by_cases c : i < A.length
    · rw [decide_eq_true (show (i : Int) < ((A.length : Nat) : Int) by omega), cond_true, decide_eq_true (show (0 : Int) ≤ (i : Int) by omega), Bool.and_self, cond_true, decide_eq_true (show (i : Int) < ((B.length : Nat) : Int) by omega), Bool.and_self, cond_true, Int.toNat_natCast, inc64 (by omega), eqp_run F hl hb k (i + 1) (by omega) (by omega)]
      rw [drop_cons ([], []) c, drop_cons ([], []) (show i < B.length by omega)]
      dsimp only
      rw [pair_eq]
      by_cases q : A.getD i ([], []) = B.getD i ([], [])
      · rw [decide_eq_true q, Bool.not_true, cond_false]
        by_cases d : A.drop (i + 1) = B.drop (i + 1)
        · rw [if_pos d, if_pos (by rw [q, d])]
        · rw [if_neg d, if_neg (fun h => d (List.cons.inj h).2)]
      · rw [decide_eq_false q, Bool.not_false, cond_true, if_neg (fun h => q (List.cons.inj h).1)]
    · rw [decide_eq_false (show ¬ (i : Int) < ((A.length : Nat) : Int) by omega), cond_false, if_pos]
      rw [List.drop_eq_nil_of_le (by omega), List.drop_eq_nil_of_le (by omega)]
def sm17 (a b : Tex17) : Bool := decide (a.1 = b.1 ∧ a.2.1 = b.2.1 ∧ a.2.2.1 = b.2.2.1 ∧ a.2.2.2.1 = b.2.2.2.1 ∧ a.2.2.2.2.1 = b.2.2.2.2.1 ∧ a.2.2.2.2.2.1 = b.2.2.2.2.2.1 ∧ a.2.2.2.2.2.2.1 = b.2.2.2.2.2.2.1 ∧ a.2.2.2.2.2.2.2.1 = b.2.2.2.2.2.2.2.1)
theorem Same17_is {F : Nat} {a b : Tex17} (hD : a.2.2.2.2.2.2.1.length < F) (hP : a.2.2.2.2.2.2.2.1.length < F) (hD2 : a.2.2.2.2.2.2.1.length < 4611686018427387904) (hP2 : a.2.2.2.2.2.2.2.1.length < 4611686018427387904) :
    layout_Same F a b = some (sm17 a b, ()) := by
  obtain ⟨a1, a2, a3, a4, a5, a6, D, P, _⟩ := a
  obtain ⟨b1, b2, b3, b4, b5, b6, D', P', _⟩ := b
  dsimp only at *
  have hf : slices_EqualFunc_byte_byte_byte_byte_Equal F D D' = some (decide (D = D'), ()) := by
    unfold slices_EqualFunc_byte_byte_byte_byte_Equal
    by_cases c : D.length = D'.length
    · have e : (((D.length : Nat) : Int) != ((D'.length : Nat) : Int)) = false := by simp [c]
      have hr := eqf_run F c hD2 F 0 (by omega) (by omega)
      rw [show ((0 : Nat) : Int) = 0 from rfl, List.drop_zero, List.drop_zero] at hr
      dsimp only
      rw [e, cond_false, hr]
      by_cases d : D = D'
      · rw [if_pos d, decide_eq_true d]; rfl
      · rw [if_neg d, decide_eq_false d]; rfl
    · dsimp only
      rw [bneT (show ((D.length : Nat) : Int) ≠ ((D'.length : Nat) : Int) by omega), cond_true, decide_eq_false (fun q => c (by rw [q]))]
  have hp : slices_Equal_api_Pair_api_Pair F P P' = some (decide (P = P'), ()) := by
    unfold slices_Equal_api_Pair_api_Pair
    by_cases c : P.length = P'.length
    · have e : (((P.length : Nat) : Int) != ((P'.length : Nat) : Int)) = false := by simp [c]
      have hr := eqp_run F c hP2 F 0 (by omega) (by omega)
      rw [show ((0 : Nat) : Int) = 0 from rfl, List.drop_zero, List.drop_zero] at hr
      dsimp only
      rw [e, cond_false, hr]
      by_cases d : P = P'
      · rw [if_pos d, decide_eq_true d]; rfl
      · rw [if_neg d, decide_eq_false d]; rfl
    · dsimp only
      rw [bneT (show ((P.length : Nat) : Int) ≠ ((P'.length : Nat) : Int) by omega), cond_true, decide_eq_false (fun q => c (by rw [q]))]
  unfold layout_Same layout_Same_c1 sm17
  dsimp only
  rw [obd, obd, hf, hp]
  dsimp only
  by_cases c : ([a1, a2, a3, a4, a5, a6] : List Int) = [b1, b2, b3, b4, b5, b6]
  · have e : (([a1, a2, a3, a4, a5, a6] : List Int) == [b1, b2, b3, b4, b5, b6]) = true := by rw [c]; exact beq_self_eq_true _
    rw [e, cond_true, obd]
    injection c with c1 c
    injection c with c2 c
    injection c with c3 c
    injection c with c4 c
    injection c with c5 c
    injection c with c6 c
    dsimp only
    by_cases d : D = D'
    · rw [decide_eq_true d, cond_true, obd]
      congr 2
      exact decide_eq_decide.2 ⟨fun q => ⟨c1, c2, c3, c4, c5, c6, d, q⟩, fun q => q.2.2.2.2.2.2.2⟩
    · rw [decide_eq_false d, cond_false, decide_eq_false (fun q => d q.2.2.2.2.2.2.1)]
  · have e : (([a1, a2, a3, a4, a5, a6] : List Int) == [b1, b2, b3, b4, b5, b6]) = false := beq_eq_false_iff_ne.2 c
    rw [e, cond_false, decide_eq_false]
    rintro ⟨rfl, rfl, rfl, rfl, rfl, rfl, _⟩
    exact c rfl
theorem rs0_run (F : Nat) (x0 x1 x2 x3 x4 x5 : Int) (x7 : List (List Int × List Int)) (x8 x9 x10 x11 x12 x13 : Int) (x15 : List (List Int × List Int)) {A B : List (List Int)} (hl : A.length = B.length) (hb : A.length < 4611686018427387904) (hA : ∀ x ∈ A, x.length < F ∧ x.length ≤ 9223372036854775807) : ∀ (k i : Nat), i ≤ A.length → A.length - i < k →
    ref17_Same_l0 F k x0 x1 x2 x3 x4 x5 A x7 x8 x9 x10 x11 x12 x13 B x15 (i : Int) = if A.drop i = B.drop i then some (.inr (x0, (x1, (x2, (x3, (x4, (x5, (A, (x7, (x8, (x9, (x10, (x11, (x12, (x13, (B, (x15, ()))))))))))))))))) else some (.inl ())
  | 0, i, _, hk => by omega
  | k + 1, i, hi, hk => by
    unfold ref17_Same_l0 ref17_Same_l0S
    dsimp only
    by_cases c : i < A.length
    · have hm := hA _ (getD_mem [] c)
      rw [decide_eq_true (show (i : Int) < ((A.length : Nat) : Int) by omega), cond_true, decide_eq_true (show (0 : Int) ≤ (i : Int) by omega), Bool.and_self, cond_true, decide_eq_true (show (i : Int) < ((B.length : Nat) : Int) by omega), Bool.and_self, cond_true, Int.toNat_natCast, inc64 (by omega), rSame_is hm.1 hm.2, obd, rs0_run F x0 x1 x2 x3 x4 x5 x7 x8 x9 x10 x11 x12 x13 x15 hl hb hA k (i + 1) (by omega) (by omega)]
      rw [drop_cons [] c, drop_cons [] (show i < B.length by omega)]
      dsimp only
      by_cases q : A.getD i [] = B.getD i []
      · rw [decide_eq_true q, Bool.not_true, cond_false]
        by_cases d : A.drop (i + 1) = B.drop (i + 1)
        · rw [if_pos d, if_pos (by rw [q, d])]
        · rw [if_neg d, if_neg (fun h => d (List.cons.inj h).2)]
      · rw [decide_eq_false q, Bool.not_false, cond_true, if_neg (fun h => q (List.cons.inj h).1)]
    · rw [decide_eq_false (show ¬ (i : Int) < ((A.length : Nat) : Int) by omega), cond_false, if_pos]
      rw [List.drop_eq_nil_of_le (by omega), List.drop_eq_nil_of_le (by omega)]
theorem rs2_run (F : Nat) (x0 x1 x2 x3 x4 x5 : Int) (x6 x14 : List (List Int)) (x8 x9 x10 x11 x12 x13 : Int) {A B : List (List Int × List Int)} (hl : A.length = B.length) (hb : A.length < 4611686018427387904) : ∀ (k i : Nat), i ≤ A.length → A.length - i < k →
    ref17_Same_l2 F k x0 x1 x2 x3 x4 x5 x6 A x8 x9 x10 x11 x12 x13 x14 B (i : Int) = if A.drop i = B.drop i then some (.inr ()) else some (.inl ())
  | 0, i, _, hk => by omega
  | k + 1, i, hi, hk => by
    unfold ref17_Same_l2 ref17_Same_l2S
    dsimp only
    by_cases c : i < A.length
    · rw [decide_eq_true (show (i : Int) < ((A.length : Nat) : Int) by omega), cond_true, decide_eq_true (show (0 : Int) ≤ (i : Int) by omega), Bool.and_self, cond_true, decide_eq_true (show (i : Int) < ((B.length : Nat) : Int) by omega), Bool.and_self, cond_true, Int.toNat_natCast, inc64 (by omega), rs2_run F x0 x1 x2 x3 x4 x5 x6 x14 x8 x9 x10 x11 x12 x13 hl hb k (i + 1) (by omega) (by omega)]
      rw [drop_cons ([], []) c, drop_cons ([], []) (show i < B.length by omega)]
      rw [pair_eq]
      by_cases q : A.getD i ([], []) = B.getD i ([], [])
      · rw [decide_eq_true q, Bool.not_true, cond_false]
        by_cases d : A.drop (i + 1) = B.drop (i + 1)
        · rw [if_pos d, if_pos (by rw [q, d])]
        · rw [if_neg d, if_neg (fun h => d (List.cons.inj h).2)]
      · rw [decide_eq_false q, Bool.not_false, cond_true, if_neg (fun h => q (List.cons.inj h).1)]
    · rw [decide_eq_false (show ¬ (i : Int) < ((A.length : Nat) : Int) by omega), cond_false, if_pos]
      rw [List.drop_eq_nil_of_le (by omega), List.drop_eq_nil_of_le (by omega)]
theorem rSame17_is {F : Nat} {a b : Tex17} (hD : a.2.2.2.2.2.2.1.length < F) (hP : a.2.2.2.2.2.2.2.1.length < F) (hD2 : a.2.2.2.2.2.2.1.length < 4611686018427387904) (hP2 : a.2.2.2.2.2.2.2.1.length < 4611686018427387904) (hA : ∀ x ∈ a.2.2.2.2.2.2.1, x.length < F ∧ x.length ≤ 9223372036854775807) :
    ref17_Same F a b = some (sm17 a b, ()) := by
  obtain ⟨a1, a2, a3, a4, a5, a6, D, P, _⟩ := a
  obtain ⟨b1, b2, b3, b4, b5, b6, D', P', _⟩ := b
  dsimp only at *
  unfold ref17_Same sm17
  dsimp only
  by_cases c1 : a1 = b1
  rotate_left
  · rw [bneT c1, cond_true, decide_eq_false (fun q => c1 q.1)]
  have ee : ∀ x y : Int, x = y → (x != y) = false := fun x y q => by simp [q]
  rw [ee _ _ c1, cond_false]
  by_cases c2 : a2 = b2
  rotate_left
  · rw [bneT c2, cond_true, decide_eq_false (fun q => c2 q.2.1)]
  rw [ee _ _ c2, cond_false]
  by_cases c3 : a3 = b3
  rotate_left
  · rw [bneT c3, cond_true, decide_eq_false (fun q => c3 q.2.2.1)]
  rw [ee _ _ c3, cond_false]
  by_cases c4 : a4 = b4
  rotate_left
  · rw [bneT c4, cond_true, decide_eq_false (fun q => c4 q.2.2.2.1)]
  rw [ee _ _ c4, cond_false]
  by_cases c5 : a5 = b5
  rotate_left
  · rw [bneT c5, cond_true, decide_eq_false (fun q => c5 q.2.2.2.2.1)]
  rw [ee _ _ c5, cond_false]
  by_cases c6 : a6 = b6
  rotate_left
  · rw [bneT c6, cond_true, decide_eq_false (fun q => c6 q.2.2.2.2.2.1)]
  rw [ee _ _ c6, cond_false]
  by_cases l1 : D.length = D'.length
  rotate_left
  · rw [bneT (show ((D.length : Nat) : Int) ≠ ((D'.length : Nat) : Int) by omega), cond_true, decide_eq_false (fun q => l1 (by rw [q.2.2.2.2.2.2.1]))]
  rw [ee _ _ (show ((D.length : Nat) : Int) = ((D'.length : Nat) : Int) by omega), cond_false]
  by_cases l2 : P.length = P'.length
  rotate_left
  · rw [bneT (show ((P.length : Nat) : Int) ≠ ((P'.length : Nat) : Int) by omega), cond_true, decide_eq_false (fun q => l2 (by rw [q.2.2.2.2.2.2.2]))]
  rw [ee _ _ (show ((P.length : Nat) : Int) = ((P'.length : Nat) : Int) by omega), cond_false]
  have h0 := rs0_run F a1 a2 a3 a4 a5 a6 P b1 b2 b3 b4 b5 b6 P' l1 hD2 hA F 0 (by omega) (by omega)
  have h2 := rs2_run F a1 a2 a3 a4 a5 a6 D D' b1 b2 b3 b4 b5 b6 l2 hP2 F 0 (by omega) (by omega)
  rw [show ((0 : Nat) : Int) = 0 from rfl, List.drop_zero, List.drop_zero] at h0 h2
  rw [h0]
  by_cases d : D = D'
  · rw [if_pos d, obd]
    dsimp only
    rw [h2]
    by_cases e : P = P'
    · rw [if_pos e, decide_eq_true ⟨c1, c2, c3, c4, c5, c6, d, e⟩]
      rfl
    · rw [if_neg e, decide_eq_false (fun q => e q.2.2.2.2.2.2.2)]
      rfl
  · rw [if_neg d, decide_eq_false (fun q => d q.2.2.2.2.2.2.1)]
    rfl
end Go.AE.Gn
set_option linter.unusedVariables false
set_option linter.unusedSimpArgs false
namespace Go.AE.Gn
open Go Go.AE
theorem awake17 (G : Nat) : law17_awake (G + 3000) = some (true, ()) := by kernel_rfl
theorem bound_len {α : Type} (f : α → Nat) : ∀ l : List α, ∃ n, ∀ x ∈ l, f x < n
  | [] => ⟨0, fun x hx => nomatch hx⟩
  | a :: r => by
    obtain ⟨n, h⟩ := bound_len f r
    refine ⟨n + f a + 1, fun x hx => ?_⟩
    rcases List.mem_cons.1 hx with rfl | hx
    · omega
    · have := h x hx
      omega
abbrev tex2C : List CTy := [.int .i64, .int .i64, .int .i64, .int .i64, .int .i64, .int .i64, .dsl (.row .u8 1), .dsl (.pair), .int .i64, .int .i64, .int .i64, .int .i64, .int .i64, .int .i64, .dsl (.row .u8 1), .dsl (.pair)]
abbrev limC : List CTy := [.int .i64, .int .i64, .int .i64]
theorem len_of_has {n : Nat} (h : IntKind.i64.has (n : Int)) : n ≤ 9223372036854775807 := by
  rw [has_iff] at h
  simp only [loB, hiB] at h
  omega
theorem law17_LayoutTells_true (a0 : DC tex2C) (a1 : DC limC) (f0 : wfD tex2C a0) (f1 : wfD limC a1) : ∃ F, law17_LayoutTells F a0 a1 = some (true, ()) := by
  obtain ⟨x1, x2, x3, x4, x5, x6, D, P, y1, y2, y3, y4, y5, y6, D', P', _⟩ := a0
  obtain ⟨sd, la, tx, _⟩ := a1
  obtain ⟨_, _, _, _, _, _, ⟨wl, wD⟩, ⟨wl2, wP⟩, _⟩ := f0
  obtain ⟨n1, hn1⟩ := bound_len List.length (D : List (List Int))
  obtain ⟨n2, hn2⟩ := bound_len (fun p : List Int × List Int => p.1.length) (P : List (List Int × List Int))
  refine ⟨(n1 + n2) + 3000, ?_⟩
  have aw := awake17 (n1 + n2)
  generalize hF : (n1 + n2) + 3000 = F at *
  unfold law17_LayoutTells
  dsimp only
  obtain ⟨b1, L1, M1⟩ := Light_is (F := F) (by omega) x1 x2 x3 x4 x5 x6 D P
  obtain ⟨b2, L2, _⟩ := Light_is (F := F) (by omega) y1 y2 y3 y4 y5 y6 D' P'
  obtain ⟨b3, R1, N1⟩ := fair_is F x1 x2 x3 x4 x5 x6 D P
  rw [aw, L1, L2, R1]
  simp only [obd]
  cases b1
  · rfl
  cases b2
  · rfl
  cases b3
  · rfl
  obtain ⟨m1, m2⟩ := M1 rfl
  obtain ⟨q1, q2, q3, q4, q5⟩ := N1 rfl
  simp only [Bool.not_true, cond_false]
  have hA : ∀ x ∈ (D : List (List Int)), x.length < F ∧ x.length ≤ 9223372036854775807 := fun x hx => ⟨by have := hn1 x hx; omega, len_of_has ((wD x hx).2 rfl)⟩
  have hP : Pl F P := fun p hp => ⟨by have := hn2 p hp; omega, len_of_has (wP p hp).1.2⟩
  obtain ⟨T1, T2⟩ := Texels_is (F := F) x1 (w := x2) (h := x3) (lay := x4) (fac := x5) (lev := x6) (by omega) (by omega) (by omega) D P (by omega)
  obtain ⟨H1, H2⟩ := Header_is (F := F) (f := x1) (w := x2) (h := x3) (lay := x4) (fac := x5) (lev := x6) (by omega) (by omega) (by omega) D P sd la tx (by omega)
  obtain ⟨C1, C2⟩ := Check_is (F := F) (f := x1) (w := x2) (h := x3) (lay := x4) (fac := x5) (lev := x6) (by omega) (by omega) (by omega) (D := D) (P := P) sd la tx (by omega) (by omega) hP (by omega) (by omega) (by omega)
  have S1 := Same17_is (F := F) (a := (x1, x2, x3, x4, x5, x6, D, P, ())) (b := (y1, y2, y3, y4, y5, y6, D', P', ())) (by dsimp only; omega) (by dsimp only; omega) (by dsimp only; omega) (by dsimp only; omega)
  have S2 := rSame17_is (F := F) (a := (x1, x2, x3, x4, x5, x6, D, P, ())) (b := (y1, y2, y3, y4, y5, y6, D', P', ())) (by dsimp only; omega) (by dsimp only; omega) (by dsimp only; omega) (by dsimp only; omega) hA
  rw [T1, T2, H1, H2, C1, C2, S1, S2]
  simp only [obd]
  rw [beqT rfl, cond_true, cond_true, beqT rfl, cond_true, beqT rfl, cond_true, beqT rfl, cond_true]
  generalize sm17 _ _ = q
  cases q <;> rfl
end Go.AE.Gn

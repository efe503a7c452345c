/- A part of the proof, put together of my texts: Pure17d, Pure17e, Pure17f, Pure17g, Pure17h, Pure17i, Pure17j. -/
import Derived.KernelRfl
import Derived.Test.YtcjfigcbloploaaRowLayoutWholeP4
set_option linter.unusedVariables false
set_option linter.unusedSimpArgs false
namespace Go.AE.Gn
open Go Go.AE
theorem Texels_is {F : Nat} (f : Int) {w h lay fac lev : Int} (wb : w < 4611686018427387904) (hb : h < 4611686018427387904) (vb : lev < 4611686018427387904) (D : List (List Int)) (P : List (List Int × List Int)) (hF : 600 ≤ F) :
    layout_Texels F (f, (w, (h, (lay, (fac, (lev, (D, (P, ())))))))) = some ((tx17 w h lay fac lev).1, ((tx17 w h lay fac lev).2, ())) ∧
    ref17_Texels F (f, (w, (h, (lay, (fac, (lev, (D, (P, ())))))))) = some ((tx17 w h lay fac lev).1, ((tx17 w h lay fac lev).2, ())) := by
  by_cases c : w < 1 ∨ h < 1 ∨ lay < 1 ∨ fac < 1 ∨ lev < 1
  · unfold tx17
    rw [if_pos c]
    constructor
    · unfold layout_Texels
      dsimp only
      rw [decide_eq_true (show min (min (min (min w h) lay) fac) lev < 1 by omega), cond_true]
    · unfold ref17_Texels
      dsimp only
      by_cases c1 : w < 1
      · rw [decide_eq_true c1, cond_true]
      rw [decide_eq_false c1, cond_false]
      by_cases c2 : h < 1
      · rw [decide_eq_true c2, cond_true]
      rw [decide_eq_false c2, cond_false]
      by_cases c3 : lay < 1
      · rw [decide_eq_true c3, cond_true]
      rw [decide_eq_false c3, cond_false]
      by_cases c4 : fac < 1
      · rw [decide_eq_true c4, cond_true]
      rw [decide_eq_false c4, cond_false, decide_eq_true (show lev < 1 by omega), cond_true]
  · unfold tx17
    rw [if_neg c]
    obtain ⟨w, rfl⟩ := Int.eq_ofNat_of_zero_le (show 0 ≤ w by omega)
    obtain ⟨h, rfl⟩ := Int.eq_ofNat_of_zero_le (show 0 ≤ h by omega)
    obtain ⟨lay, rfl⟩ := Int.eq_ofNat_of_zero_le (show 0 ≤ lay by omega)
    obtain ⟨fac, rfl⟩ := Int.eq_ofNat_of_zero_le (show 0 ≤ fac by omega)
    obtain ⟨lev, rfl⟩ := Int.eq_ofNat_of_zero_le (show 0 ≤ lev by omega)
    exact TexelsN f (by omega) (by omega) (by omega) (by omega) (by omega) (by omega) (by omega) (by omega) D P hF
def hd17 (f w h lay fac lev sd la tx : Int) : Int :=
  if ¬ (1 ≤ f ∧ f ≤ 12) then 5 else
  if w < 1 ∨ h < 1 ∨ lay < 1 ∨ lev < 1 ∨ (fac ≠ 1 ∧ fac ≠ 6) then 1 else
  if (fac = 6 ∧ w ≠ h) ∨ ((lv17 w.toNat h.toNat + 1 : Nat) : Int) < lev then 1 else
  if sd < w ∨ sd < h ∨ la < lay ∨ (tx17 w h lay fac lev).2 ≠ 0 ∨ tx < (tx17 w h lay fac lev).1 then 6 else 0
theorem Of_num (F : Nat) (f : Int) : (1 ≤ f ∧ f ≤ 12 ∧ ∃ r, format_Of F f = some (r, (0, ()))) ∨ (¬ (1 ≤ f ∧ f ≤ 12) ∧ format_Of F f = some ((0, (0, (false, ()))), (5, ()))) := by
  by_cases h : 1 ≤ f ∧ f ≤ 12
  · obtain ⟨k, hk, rfl⟩ := fmt_of h
    exact .inl ⟨h.1, h.2, _, Of_is F hk⟩
  · exact .inr ⟨h, Of_bad F h⟩
theorem Levels_I {F : Nat} {w h : Int} (w1 : ¬ w < 1) (h1 : ¬ h < 1) (wb : w < 4611686018427387904) (hb : h < 4611686018427387904) (hF : 62 ≤ F) :
    mip_Levels F w h = some (((lv17 w.toNat h.toNat + 1 : Nat) : Int), ()) ∧ ref05_Levels F w h = some (((lv17 w.toNat h.toNat + 1 : Nat) : Int), ()) := by
  obtain ⟨w, rfl⟩ := Int.eq_ofNat_of_zero_le (show 0 ≤ w by omega)
  obtain ⟨h, rfl⟩ := Int.eq_ofNat_of_zero_le (show 0 ≤ h by omega)
  exact Levels17 (by omega) (by omega) (by omega) (by omega) hF
theorem Header_is {F : Nat} {f w h lay fac lev : Int} (wb : w < 4611686018427387904) (hb : h < 4611686018427387904) (vb : lev < 4611686018427387904) (D : List (List Int)) (P : List (List Int × List Int)) (sd la tx : Int) (hF : 600 ≤ F) :
    layout_Header F (f, (w, (h, (lay, (fac, (lev, (D, (P, ())))))))) (sd, (la, (tx, ()))) = some (hd17 f w h lay fac lev sd la tx, ()) ∧
    ref17_Header F (f, (w, (h, (lay, (fac, (lev, (D, (P, ())))))))) (sd, (la, (tx, ()))) = some (hd17 f w h lay fac lev sd la tx, ()) := by
  obtain ⟨T1, T2⟩ := Texels_is (F := F) f (w := w) (h := h) (lay := lay) (fac := fac) (lev := lev) wb hb vb D P hF
  unfold layout_Header ref17_Header hd17
  dsimp only
  rw [(rOf_is F f).1, T1, T2]
  rcases Of_num F f with ⟨g1, g2, r, ho⟩ | ⟨g, ho⟩
  rotate_left
  · rw [ho, if_pos g]
    exact ⟨rfl, rfl⟩
  rw [ho, if_neg (show ¬ ¬ (1 ≤ f ∧ f ≤ 12) from fun q => q ⟨g1, g2⟩)]
  simp only [obd]
  simp only [bne_self_eq_false, cond_false]
  by_cases c1 : w < 1
  · rw [decide_eq_true (show min (min (min w h) lay) lev < 1 by omega), decide_eq_true c1, if_pos (.inl c1)]
    exact ⟨rfl, rfl⟩
  by_cases c2 : h < 1
  · rw [decide_eq_true (show min (min (min w h) lay) lev < 1 by omega), decide_eq_false c1, decide_eq_true c2, if_pos (.inr (.inl c2))]
    exact ⟨rfl, rfl⟩
  by_cases c3 : lay < 1
  · rw [decide_eq_true (show min (min (min w h) lay) lev < 1 by omega), decide_eq_false c1, decide_eq_false c2, decide_eq_true c3, if_pos (.inr (.inr (.inl c3)))]
    exact ⟨rfl, rfl⟩
  by_cases c4 : lev < 1
  · rw [decide_eq_true (show min (min (min w h) lay) lev < 1 by omega), decide_eq_false c1, decide_eq_false c2, decide_eq_false c3, decide_eq_true c4, if_pos (.inr (.inr (.inr (.inl c4))))]
    exact ⟨rfl, rfl⟩
  rw [decide_eq_false (show ¬ min (min (min w h) lay) lev < 1 by omega), decide_eq_false c1, decide_eq_false c2, decide_eq_false c3, decide_eq_false c4]
  simp only [cond_false]
  obtain ⟨L1, L2⟩ := Levels_I (F := F) c1 c2 wb hb (by omega)
  rw [L1, L2]
  simp only [obd]
  generalize lv17 w.toNat h.toNat + 1 = m
  generalize tx17 w h lay fac lev = t
  by_cases c5 : fac = 1
  · subst c5
    rw [if_neg (show ¬ (w < 1 ∨ h < 1 ∨ lay < 1 ∨ lev < 1 ∨ ((1 : Int) ≠ 1 ∧ (1 : Int) ≠ 6)) by omega)]
    have e1 : ((1 : Int) != 1) = false := rfl
    have e2 : ((1 : Int) == 6) = false := rfl
    rw [e1, e2]
    simp only [cond_false]
    by_cases d1 : (m : Int) < lev
    · rw [decide_eq_true d1, if_pos (.inr d1)]
      exact ⟨rfl, rfl⟩
    rw [decide_eq_false d1, if_neg (by omega)]
    simp only [cond_false]
    by_cases d2 : sd < w
    · rw [decide_eq_true d2, if_pos (.inl d2)]; exact ⟨rfl, rfl⟩
    by_cases d3 : sd < h
    · rw [decide_eq_false d2, decide_eq_true d3, if_pos (.inr (.inl d3))]; exact ⟨rfl, rfl⟩
    by_cases d4 : la < lay
    · rw [decide_eq_false d2, decide_eq_false d3, decide_eq_true d4, if_pos (.inr (.inr (.inl d4)))]; exact ⟨rfl, rfl⟩
    rw [decide_eq_false d2, decide_eq_false d3, decide_eq_false d4]
    simp only [cond_false]
    by_cases d5 : t.2 = 0
    · have e : (t.2 != (0 : Int)) = false := by simp [d5]
      rw [e, cond_false]
      by_cases d6 : tx < t.1
      · rw [decide_eq_true d6, if_pos (.inr (.inr (.inr (.inr d6))))]; exact ⟨rfl, rfl⟩
      · rw [decide_eq_false d6, if_neg (by omega)]; exact ⟨rfl, rfl⟩
    · rw [bneT d5, if_pos (.inr (.inr (.inr (.inl d5))))]; exact ⟨rfl, rfl⟩
  by_cases c6 : fac = 6
  · subst c6
    rw [if_neg (show ¬ (w < 1 ∨ h < 1 ∨ lay < 1 ∨ lev < 1 ∨ ((6 : Int) ≠ 1 ∧ (6 : Int) ≠ 6)) by omega)]
    have e1 : ((6 : Int) != 1) = true := rfl
    have e2 : ((6 : Int) == 6) = true := rfl
    have e3 : ((6 : Int) != 6) = false := rfl
    rw [e1, e2, e3]
    simp only [cond_false, cond_true]
    by_cases d0 : w = h
    rotate_left
    · rw [bneT d0, if_pos (.inl ⟨by first | rfl | trivial, d0⟩)]
      exact ⟨rfl, rfl⟩
    have e4 : (w != h) = false := by simp [d0]
    rw [e4]
    simp only [cond_false]
    by_cases d1 : (m : Int) < lev
    · rw [decide_eq_true d1, if_pos (.inr d1)]
      exact ⟨rfl, rfl⟩
    rw [decide_eq_false d1, if_neg (by omega)]
    simp only [cond_false]
    by_cases d2 : sd < w
    · rw [decide_eq_true d2, if_pos (.inl d2)]; exact ⟨rfl, rfl⟩
    by_cases d3 : sd < h
    · rw [decide_eq_false d2, decide_eq_true d3, if_pos (.inr (.inl d3))]; exact ⟨rfl, rfl⟩
    by_cases d4 : la < lay
    · rw [decide_eq_false d2, decide_eq_false d3, decide_eq_true d4, if_pos (.inr (.inr (.inl d4)))]; exact ⟨rfl, rfl⟩
    rw [decide_eq_false d2, decide_eq_false d3, decide_eq_false d4]
    simp only [cond_false]
    by_cases d5 : t.2 = 0
    · have e : (t.2 != (0 : Int)) = false := by simp [d5]
      rw [e, cond_false]
      by_cases d6 : tx < t.1
      · rw [decide_eq_true d6, if_pos (.inr (.inr (.inr (.inr d6))))]; exact ⟨rfl, rfl⟩
      · rw [decide_eq_false d6, if_neg (by omega)]; exact ⟨rfl, rfl⟩
    · rw [bneT d5, if_pos (.inr (.inr (.inr (.inl d5))))]; exact ⟨rfl, rfl⟩
  rw [if_pos (.inr (.inr (.inr (.inr ⟨c5, c6⟩)))), bneT c5, bneT c6]
  exact ⟨rfl, rfl⟩
theorem hd17_ok {f w h lay fac lev sd la tx : Int} (e : hd17 f w h lay fac lev sd la tx = 0) :
    (1 ≤ f ∧ f ≤ 12) ∧ 1 ≤ w ∧ 1 ≤ h ∧ 1 ≤ lay ∧ 1 ≤ lev ∧ (fac = 1 ∨ fac = 6) ∧ (fac = 6 → w = h) ∧ lev ≤ ((lv17 w.toNat h.toNat + 1 : Nat) : Int) ∧ w ≤ sd ∧ h ≤ sd ∧ lay ≤ la ∧ (tx17 w h lay fac lev).2 = 0 ∧ (tx17 w h lay fac lev).1 ≤ tx := by
  unfold hd17 at e
  by_cases c1 : ¬ (1 ≤ f ∧ f ≤ 12)
  · rw [if_pos c1] at e; exact absurd e (by decide)
  rw [if_neg c1] at e
  by_cases c2 : w < 1 ∨ h < 1 ∨ lay < 1 ∨ lev < 1 ∨ (fac ≠ 1 ∧ fac ≠ 6)
  · rw [if_pos c2] at e; exact absurd e (by decide)
  rw [if_neg c2] at e
  by_cases c3 : (fac = 6 ∧ w ≠ h) ∨ ((lv17 w.toNat h.toNat + 1 : Nat) : Int) < lev
  · rw [if_pos c3] at e; exact absurd e (by decide)
  rw [if_neg c3] at e
  by_cases c4 : sd < w ∨ sd < h ∨ la < lay ∨ (tx17 w h lay fac lev).2 ≠ 0 ∨ tx < (tx17 w h lay fac lev).1
  · rw [if_pos c4] at e; exact absurd e (by decide)
  generalize tx17 w h lay fac lev = t at *
  generalize lv17 w.toNat h.toNat + 1 = m at *
  refine ⟨by omega, by omega, by omega, by omega, by omega, by omega, by omega, by omega, by omega, by omega, by omega, by omega, by omega⟩
end Go.AE.Gn
set_option linter.unusedVariables false
set_option linter.unusedSimpArgs false
namespace Go.AE.Gn
open Go Go.AE
def allB (p : Nat → Bool) : Nat → Nat → Bool
  | _, 0 => true
  | s, m + 1 => p s && allB p (s + 1) m
theorem allB_iff {p : Nat → Bool} : ∀ {m s : Nat}, allB p s m = true ↔ ∀ n, s ≤ n → n < s + m → p n = true
  | 0, s => ⟨fun _ n h1 h2 => absurd h2 (by omega), fun _ => rfl⟩
  | m + 1, s => by
    unfold allB
    rw [Bool.and_eq_true, allB_iff (m := m)]
    constructor
    · rintro ⟨a, b⟩ n h1 h2
      rcases Nat.lt_or_ge s n with c | c
      · exact b n (by omega) (by omega)
      · rw [show n = s by omega]; exact a
    · intro h
      exact ⟨h s (by omega) (by omega), fun n h1 h2 => h n (by omega) (by omega)⟩
theorem allB_add (p : Nat → Bool) : ∀ (m s k : Nat), allB p s (m + k) = (allB p s m && allB p (s + m) k)
  | 0, s, k => by rw [Nat.zero_add]; rfl
  | m + 1, s, k => by
    rw [show m + 1 + k = (m + k) + 1 by omega]
    show (p s && allB p (s + 1) (m + k)) = ((p s && allB p (s + 1) m) && allB p (s + (m + 1)) k)
    rw [allB_add p m (s + 1) k, show s + 1 + m = s + (m + 1) by omega, Bool.and_assoc]
theorem inc64 {i : Nat} (h : i < 9223372036854775807) : IntKind.wrap .i64 ((i : Int) + 1) = ((i + 1 : Nat) : Int) := by
  rw [w64 (by omega) (by omega)]
  omega
theorem go17_len {F : Nat} {f : Int} {w h : Nat} : ∀ {l : List Nat} {acc a : List Int}, go17 F f w h l acc = .inl a → a.length = acc.length + l.length
  | [], acc, a, e => by
    unfold go17 at e
    cases e
    rfl
  | j :: r, acc, a, e => by
    unfold go17 at e
    by_cases c : (B17 F f (sd w j : Nat) (sd h j : Nat)).2 = 0
    · rw [if_pos c] at e
      have := go17_len e
      simp at this
      simp
      omega
    · rw [if_neg c] at e
      cases e
theorem go17_err {F : Nat} {f : Int} {w h : Nat} : ∀ {l : List Nat} {acc : List Int} {e : Int}, go17 F f w h l acc = .inr e → e ≠ 0
  | [], acc, e, q => by
    unfold go17 at q
    cases q
  | j :: r, acc, e, q => by
    unfold go17 at q
    by_cases c : (B17 F f (sd w j : Nat) (sd h j : Nat)).2 = 0
    · rw [if_pos c] at q
      exact go17_err q
    · rw [if_neg c] at q
      cases q
      exact c
theorem sizes17_len {F : Nat} {f : Int} {w h lev : Nat} (e : (sizes17 F f w h lev).2 = 0) : (sizes17 F f w h lev).1.length = lev := by
  unfold sizes17 at e ⊢
  cases hg : go17 F f w h (List.range' 0 lev) [] with
  | inl a =>
    have := go17_len hg
    simpa using this
  | inr q =>
    rw [hg] at e
    exact absurd e (go17_err hg)
def okD (D : List (List Int)) (S : List Int) (lev n : Nat) : Bool := decide (n < D.length) && ((((D.getD n []).length : Nat) : Int) == S.getD (n % lev) 0)
theorem tmodN (a b : Nat) : Int.tmod (a : Int) (b : Int) = ((a % b : Nat) : Int) := rfl
theorem ltB {a b : Nat} (h : a < b) : ((decide ((0 : Int) ≤ (a : Int))) && (decide ((a : Int) < ((b : Nat) : Int)))) = true := by
  rw [decide_eq_true (show (0 : Int) ≤ (a : Int) by omega), decide_eq_true (show (a : Int) < (b : Int) by omega)]
  rfl
theorem bne_eq {a b : Int} : (a != b) = !(a == b) := rfl
theorem data_run (F : Nat) (x0 x1 x2 x3 x4 : Int) {lev : Nat} (x6 : List (List Int)) (x7 : List (List Int × List Int)) {D : List (List Int)} {S : List Int} (v1 : 1 ≤ lev) (hS : S.length = lev) (hD : D.length < 4611686018427387904) : ∀ (k i : Nat), i ≤ D.length → D.length - i < k →
    layout_data_l0 F k x0 x1 x2 x3 x4 (lev : Int) x6 x7 S D ((D.length : Nat) : Int) (i : Int) = if allB (okD D S lev) i (D.length - i) = true then some (.inr ()) else some (.inl ())
  | 0, i, _, hk => by omega
  | k + 1, i, hi, hk => by
    unfold layout_data_l0 layout_data_l0S
    by_cases c : i < D.length
    · rw [decide_eq_true (show (i : Int) < ((D.length : Nat) : Int) by omega), cond_true, decide_eq_true (show (0 : Int) ≤ (i : Int) by omega), Bool.and_self, cond_true, beqF (show (lev : Int) ≠ 0 by omega), Bool.not_false, cond_true]
      rw [tmodN, ltB (show i % lev < S.length by rw [hS]; exact Nat.mod_lt _ (by omega)), cond_true, inc64 (by omega), Int.toNat_natCast, Int.toNat_natCast, bne_eq]
      rw [show D.length - i = (D.length - (i + 1)) + 1 by omega]
      unfold allB
      rw [data_run F x0 x1 x2 x3 x4 x6 x7 v1 hS hD k (i + 1) (by omega) (by omega)]
      have e : okD D S lev i = ((((D.getD i []).length : Nat) : Int) == S.getD (i % lev) 0) := by
        unfold okD
        rw [decide_eq_true c, Bool.true_and]
      rw [e]
      generalize ((((D.getD i []).length : Nat) : Int) == S.getD (i % lev) 0) = q
      cases q
      · rfl
      · rfl
    · rw [decide_eq_false (show ¬ (i : Int) < ((D.length : Nat) : Int) by omega), cond_false, show D.length - i = 0 by omega]
      rfl
theorem rdata4_run (F : Nat) (x0 x1 x2 x3 x4 : Int) {lev : Nat} (x7 : List (List Int × List Int)) {D : List (List Int)} {S : List Int} (hS : S.length = lev) (hD : D.length < 4611686018427387904) (hl : lev ≤ 4611686018427387904) (x10 x11 : Int) : ∀ (k j n : Nat), j ≤ lev → lev - j < k → (j < lev → n % lev = j) →
    ref17_Check_l4 F k x0 x1 x2 x3 x4 (lev : Int) D x7 S (n : Int) x10 x11 (j : Int) = if allB (okD D S lev) n (lev - j) = true then some (.inr (x0, (x1, (x2, (x3, (x4, ((lev : Int), (D, (x7, (S, (((n + (lev - j) : Nat) : Int), (x10, (x11, ()))))))))))))) else some (.inl ())
  | 0, j, n, _, hk, _ => by omega
  | k + 1, j, n, hj, hk, hn => by
    unfold ref17_Check_l4 ref17_Check_l4S
    by_cases c : j < lev
    · rw [decide_eq_true (show (j : Int) < (lev : Int) by omega), cond_true]
      rw [show lev - j = (lev - (j + 1)) + 1 by omega]
      unfold allB
      by_cases c2 : n < D.length
      · dsimp only
        rw [decide_eq_false (show ¬ ((D.length : Nat) : Int) ≤ (n : Int) by omega), cond_false, ltB c2, cond_true, ltB (show j < S.length by omega), cond_true, inc64 (by omega), inc64 (by omega), Int.toNat_natCast, Int.toNat_natCast, bne_eq]
        rw [rdata4_run F x0 x1 x2 x3 x4 x7 hS hD hl x10 x11 k (j + 1) (n + 1) (by omega) (by omega) (fun q => by
          have := hn c
          have e1 := Nat.div_add_mod n lev
          rw [this] at e1
          have e2 : n + 1 = (j + 1) + lev * (n / lev) := by omega
          rw [e2, Nat.add_mul_mod_self_left, Nat.mod_eq_of_lt q])]
        have e : okD D S lev n = ((((D.getD n []).length : Nat) : Int) == S.getD j 0) := by
          unfold okD
          rw [decide_eq_true c2, Bool.true_and, hn c]
        rw [e, show n + 1 + (lev - (j + 1)) = n + (lev - (j + 1) + 1) by omega]
        generalize ((((D.getD n []).length : Nat) : Int) == S.getD j 0) = q
        cases q
        · rfl
        · rfl
      · have e : okD D S lev n = false := by
          unfold okD
          rw [decide_eq_false c2, Bool.false_and]
        dsimp only
        rw [decide_eq_true (show ((D.length : Nat) : Int) ≤ (n : Int) by omega), cond_true, e, Bool.false_and, if_neg (by decide)]
    · rw [decide_eq_false (show ¬ (j : Int) < (lev : Int) by omega), cond_false, show lev - j = 0 by omega]
      rfl
theorem rdata2_run (F : Nat) (x0 x1 x2 x3 : Int) {fac lev : Nat} (x7 : List (List Int × List Int)) {D : List (List Int)} {S : List Int} (v1 : 1 ≤ lev) (hS : S.length = lev) (hD : D.length < 4611686018427387904) (hl : lev < F) (hl2 : lev ≤ 4611686018427387904) (hf : fac ≤ 1000) (x10 : Int) : ∀ (k j n : Nat), j ≤ fac → fac - j < k → n % lev = 0 →
    ref17_Check_l2 F k x0 x1 x2 x3 (fac : Int) (lev : Int) D x7 S (n : Int) x10 (j : Int) = if allB (okD D S lev) n ((fac - j) * lev) = true then some (.inr (x0, (x1, (x2, (x3, ((fac : Int), ((lev : Int), (D, (x7, (S, (((n + (fac - j) * lev : Nat) : Int), (x10, ())))))))))))) else some (.inl ())
  | 0, j, n, _, hk, _ => by omega
  | k + 1, j, n, hj, hk, hn => by
    unfold ref17_Check_l2 ref17_Check_l2S
    by_cases c : j < fac
    · rw [decide_eq_true (show (j : Int) < (fac : Int) by omega), cond_true]
      have h4 := rdata4_run F x0 x1 x2 x3 (fac : Int) x7 hS hD hl2 x10 (j : Int) F 0 n (by omega) (by omega) (fun _ => hn)
      rw [Nat.sub_zero, show ((0 : Nat) : Int) = 0 from rfl] at h4
      rw [h4, show (fac - j) * lev = lev + (fac - (j + 1)) * lev by rw [show fac - j = (fac - (j + 1)) + 1 by omega, Nat.succ_mul, Nat.add_comm], allB_add]
      cases hq : allB (okD D S lev) n lev
      · rw [if_neg (by decide), obd, Bool.false_and, if_neg (by decide)]
      · rw [if_pos rfl, obd, Bool.true_and]
        dsimp only
        rw [inc64 (by omega), rdata2_run F x0 x1 x2 x3 x7 v1 hS hD hl hl2 hf x10 k (j + 1) (n + lev) (by omega) (by omega) (by rw [Nat.add_mod_right]; exact hn)]
        rw [Nat.add_assoc]
    · rw [decide_eq_false (show ¬ (j : Int) < (fac : Int) by omega), cond_false, show fac - j = 0 by omega, Nat.zero_mul]
      rfl
theorem rdata0_run (F : Nat) (x0 x1 x2 : Int) {lay fac lev : Nat} (x7 : List (List Int × List Int)) {D : List (List Int)} {S : List Int} (v1 : 1 ≤ lev) (f1 : 1 ≤ fac) (hS : S.length = lev) (hD : D.length < 4611686018427387904) (hl : lev < F) (hl2 : lev ≤ 4611686018427387904) (hf : fac ≤ 1000) (hfF : fac < F) (hy : lay < 4611686018427387904) : ∀ (k a n : Nat), a ≤ lay → 1 ≤ k → D.length + 2 ≤ k + a → n % lev = 0 → a ≤ n →
    ref17_Check_l0 F k x0 x1 x2 (lay : Int) (fac : Int) (lev : Int) D x7 S (n : Int) (a : Int) = if allB (okD D S lev) n ((lay - a) * (fac * lev)) = true then some (.inr (x0, (x1, (x2, ((lay : Int), ((fac : Int), ((lev : Int), (D, (x7, (((n + (lay - a) * (fac * lev) : Nat) : Int), ())))))))))) else some (.inl ())
  | 0, a, n, _, hk, _, _, _ => by omega
  | k + 1, a, n, ha, _, hk, hn, han => by
    unfold ref17_Check_l0 ref17_Check_l0S
    by_cases c : a < lay
    · rw [decide_eq_true (show (a : Int) < (lay : Int) by omega), cond_true]
      have h2 := rdata2_run F x0 x1 x2 (lay : Int) x7 v1 hS hD hl hl2 hf (a : Int) F 0 n (by omega) (by omega) hn
      rw [Nat.sub_zero, show ((0 : Nat) : Int) = 0 from rfl] at h2
      rw [h2, show (lay - a) * (fac * lev) = fac * lev + (lay - (a + 1)) * (fac * lev) by rw [show lay - a = (lay - (a + 1)) + 1 by omega, Nat.succ_mul, Nat.add_comm], allB_add]
      have fl : 1 ≤ fac * lev := Nat.mul_pos f1 v1
      cases hq : allB (okD D S lev) n (fac * lev)
      · rw [if_neg (by decide), obd, Bool.false_and, if_neg (by decide)]
      · rw [if_pos rfl, obd, Bool.true_and]
        dsimp only
        have hlt : n < D.length := by
          have := allB_iff.1 hq n (by omega) (by omega)
          unfold okD at this
          rw [Bool.and_eq_true] at this
          exact of_decide_eq_true this.1
        rw [inc64 (by omega), rdata0_run F x0 x1 x2 x7 v1 f1 hS hD hl hl2 hf hfF hy k (a + 1) (n + fac * lev) (by omega) (by omega) (by omega) (by rw [Nat.add_mul_mod_self_right]; exact hn) (by omega)]
        rw [Nat.add_assoc]
    · rw [decide_eq_false (show ¬ (a : Int) < (lay : Int) by omega), cond_false, show lay - a = 0 by omega, Nat.zero_mul]
      rfl
def data17 (F : Nat) (f : Int) (w h lay fac lev : Nat) (D : List (List Int)) : Bool :=
  decide ((sizes17 F f w h lev).2 = 0) && (decide (D.length = lay * fac * lev) && allB (okD D (sizes17 F f w h lev).1 lev) 0 D.length)
theorem data_is {F : Nat} {f : Int} {w h lay fac lev : Nat} {r : Int × (Int × (Bool × Unit))} (ho : format_Of F f = some (r, (0, ()))) (w1 : 1 ≤ w) (h1 : 1 ≤ h) (wb : w < 4611686018427387904) (hb : h < 4611686018427387904) (l1 : 1 ≤ lev) (l2 : lev ≤ lv17 w h + 1) (hy : lay < 4294967296) (hf : fac ≤ 6) {D : List (List Int)} (hD : D.length < F) (hD2 : D.length < 4611686018427387904) (P : List (List Int × List Int)) (hF : 600 ≤ F) :
    layout_data F (f, ((w : Int), ((h : Int), ((lay : Int), ((fac : Int), ((lev : Int), (D, (P, ())))))))) = some (data17 F f w h lay fac lev D, ()) := by
  obtain ⟨s1, _⟩ := Sizes_is ho w1 h1 wb hb l1 l2 hF
  unfold layout_data data17
  dsimp only
  rw [s1, obd]
  dsimp only
  generalize hs : sizes17 F f w h lev = S
  by_cases c : S.2 = 0
  · have hS : S.1.length = lev := by rw [← hs] at c ⊢; exact sizes17_len c
    rw [decide_eq_true c, Bool.true_and]
    have e0 : (S.2 != (0 : Int)) = false := by simp [c]
    rw [e0, cond_false, beqF (show (lev : Int) ≠ 0 by omega), Bool.not_false, cond_true, cond_true, tmodN]
    have pl : lay * fac ≤ 4294967296 * 6 := Nat.mul_le_mul (by omega) hf
    have e1 : (lay : Int) * (fac : Int) = ((lay * fac : Nat) : Int) := by rw [Int.natCast_mul]
    have e2 : Int.tdiv ((D.length : Nat) : Int) (lev : Int) = ((D.length / lev : Nat) : Int) := rfl
    have q2 : D.length / lev ≤ D.length := Nat.div_le_self _ _
    rw [e1, e2]
    have e3 : (D.length = lay * fac * lev) ↔ (D.length % lev = 0 ∧ D.length / lev = lay * fac) := by
      constructor
      · intro q
        rw [q]
        exact ⟨Nat.mul_mod_left _ _, Nat.mul_div_cancel _ (by omega)⟩
      · rintro ⟨q1, q2⟩
        have := Nat.div_add_mod D.length lev
        rw [q1, q2, Nat.add_zero, Nat.mul_comm] at this
        exact this.symm
    generalize D.length / lev = dv at *
    generalize D.length % lev = dm at *
    rw [w64 (by omega) (by omega), w64 (by omega) (by omega)]
    by_cases d1 : dm = 0
    · rw [d1]
      have e4 : (((0 : Nat) : Int) != (0 : Int)) = false := rfl
      rw [e4, cond_false]
      by_cases d2 : dv = lay * fac
      · rw [d2, decide_eq_true (e3.2 ⟨d1, d2⟩), Bool.true_and]
        have e5 : (((lay * fac : Nat) : Int) != ((lay * fac : Nat) : Int)) = false := by simp
        rw [e5, cond_false]
        have hr := data_run F f (w : Int) (h : Int) (lay : Int) (fac : Int) D P l1 hS hD2 F 0 (by omega) (by omega)
        rw [Nat.sub_zero, show ((0 : Nat) : Int) = 0 from rfl] at hr
        rw [hr]
        cases allB (okD D S.1 lev) 0 D.length <;> rfl
      · rw [decide_eq_false (fun q => d2 (e3.1 q).2), Bool.false_and, bneT (show ((dv : Nat) : Int) ≠ ((lay * fac : Nat) : Int) by omega)]
        rfl
    · rw [decide_eq_false (fun q => d1 (e3.1 q).1), Bool.false_and, bneT (show ((dm : Nat) : Int) ≠ 0 by omega)]
      rfl
  · rw [decide_eq_false c, Bool.false_and, bneT c]
    rfl
end Go.AE.Gn
set_option linter.unusedVariables false
set_option linter.unusedSimpArgs false
namespace Go.AE.Gn
open Go Go.AE
def odd17 (p : List Int × List Int) : Bool := p.1 == [] || (p.1.contains 0 || decide ((65535 : Int) < IntKind.wrap .i64 (((p.1.length : Nat) : Int) + ((p.2.length : Nat) : Int))))
theorem idxB_is (c : Int) : ∀ (l : List Int) (i : Int), 0 ≤ i → (decide ((0 : Int) ≤ idxB c l i)) = l.contains c
  | [], i, _ => rfl
  | x :: r, i, hi => by
    unfold idxB
    by_cases h : x = c
    · subst h
      rw [beqT rfl, cond_true, decide_eq_true hi]
      simp
    · rw [beqF h, cond_false, idxB_is c r (i + 1) (by omega)]
      have : (c == x) = false := beqF (Ne.symm h)
      rw [List.contains_cons, this, Bool.false_or]
def Pl (F : Nat) (P : List (List Int × List Int)) : Prop := ∀ p ∈ P, p.1.length < F ∧ p.1.length ≤ 9223372036854775807
theorem empty17 : (bytesL (ByteArray.mk (List.toArray []))) = [] := rfl
theorem odd_is (F : Nat) {p : List Int × List Int} : layout_Check_c1 F (p.1, (p.2, ())) = some (odd17 p, ()) := by
  unfold layout_Check_c1 odd17 strings_IndexByte internal_stringslite_IndexByte
  dsimp only
  rw [empty17]
  cases p.1 == []
  · rw [cond_false, obd, obd, idxB_is _ _ _ (by decide), Bool.false_or]
    cases p.1.contains 0
    · rw [cond_false, Bool.false_or]
    · rfl
  · rfl
theorem drop_cons {α : Type} {l : List α} {i : Nat} (d : α) (h : i < l.length) : l.drop i = l.getD i d :: l.drop (i + 1) := by
  rw [List.drop_eq_getElem_cons h]
  congr 1
  rw [List.getD_eq_getElem?_getD, List.getElem?_eq_getElem h]
  rfl
theorem getD_mem {α : Type} {l : List α} {i : Nat} (d : α) (h : i < l.length) : l.getD i d ∈ l := by
  rw [List.getD_eq_getElem?_getD, List.getElem?_eq_getElem h]
  exact List.getElem_mem h
theorem index_run (F : Nat) {P : List (List Int × List Int)} (hP : Pl F P) (hl : P.length < 4611686018427387904) : ∀ (k i : Nat), i ≤ P.length → P.length - i < k →
    ∃ j : Nat, slices_IndexFunc_api_Pair_api_Pair_Check_c1_l0 F k P ((P.length : Nat) : Int) (i : Int) = if (P.drop i).any odd17 = true then some (.inl ((j : Int), ())) else some (.inr ())
  | 0, i, _, hk => by omega
  | k + 1, i, hi, hk => by
    by_cases c : i < P.length
    · obtain ⟨j, ih⟩ := index_run F hP hl k (i + 1) (by omega) (by omega)
      have hm := hP _ (getD_mem ([], []) c)
      have e : (P.drop i).any odd17 = (odd17 (P.getD i ([], [])) || (P.drop (i + 1)).any odd17) := by
        rw [drop_cons ([], []) c, List.any_cons]
      cases q : odd17 (P.getD i ([], []))
      · refine ⟨j, ?_⟩
        unfold slices_IndexFunc_api_Pair_api_Pair_Check_c1_l0 slices_IndexFunc_api_Pair_api_Pair_Check_c1_l0S
        rw [decide_eq_true (show (i : Int) < ((P.length : Nat) : Int) by omega), cond_true, decide_eq_true (show (0 : Int) ≤ (i : Int) by omega), Bool.and_self, cond_true, Int.toNat_natCast]
        dsimp only
        rw [odd_is F, obd, e, q, Bool.false_or, cond_false, inc64 (by omega), ih]
      · refine ⟨i, ?_⟩
        unfold slices_IndexFunc_api_Pair_api_Pair_Check_c1_l0 slices_IndexFunc_api_Pair_api_Pair_Check_c1_l0S
        rw [decide_eq_true (show (i : Int) < ((P.length : Nat) : Int) by omega), cond_true, decide_eq_true (show (0 : Int) ≤ (i : Int) by omega), Bool.and_self, cond_true, Int.toNat_natCast]
        dsimp only
        rw [odd_is F, obd, e, q, Bool.true_or, cond_true, if_pos rfl]
    · refine ⟨0, ?_⟩
      unfold slices_IndexFunc_api_Pair_api_Pair_Check_c1_l0 slices_IndexFunc_api_Pair_api_Pair_Check_c1_l0S
      rw [decide_eq_false (show ¬ (i : Int) < ((P.length : Nat) : Int) by omega), cond_false, List.drop_eq_nil_of_le (by omega)]
      rfl
theorem contains_is (F : Nat) {P : List (List Int × List Int)} (hP : Pl F P) (hl : P.length < F) (hl2 : P.length < 4611686018427387904) :
    slices_ContainsFunc_api_Pair_api_Pair_Check_c1 F P = some (P.any odd17, ()) := by
  obtain ⟨j, h⟩ := index_run F hP hl2 F 0 (by omega) (by omega)
  rw [List.drop_zero, show ((0 : Nat) : Int) = 0 from rfl] at h
  unfold slices_ContainsFunc_api_Pair_api_Pair_Check_c1 slices_IndexFunc_api_Pair_api_Pair_Check_c1
  rw [h]
  cases P.any odd17
  · rfl
  · rw [if_pos rfl, obd, obd]
    dsimp only
    rw [decide_eq_true (show (0 : Int) ≤ (j : Int) by omega)]
theorem key_run (F : Nat) (x0 x1 x2 x3 x4 x5 : Int) (x6 : List (List Int)) (x7 : List (List Int × List Int)) (x8 : Int) {K : List Int} (x10 x12 : List Int) (x13 : Int) (x14 : List Int) (x15 x16 : Int) (x17 : Bool) (hK : K.length ≤ 9223372036854775807) : ∀ (k i : Nat), i ≤ K.length → K.length - i < k →
    ref17_Check_l8 F k x0 x1 x2 x3 x4 x5 x6 x7 x8 K x10 (i : Int) x12 x13 x14 x15 x16 x17 = if (K.drop i).contains 0 = true then some (.inl ()) else some (.inr (x0, (x1, (x2, (x3, (x4, (x5, (x6, (x7, (x8, (K, (x10, (x12, (x13, (x14, (x15, (x16, (x17, ()))))))))))))))))))
  | 0, i, _, hk => by omega
  | k + 1, i, hi, hk => by
    unfold ref17_Check_l8 ref17_Check_l8S
    dsimp only
    by_cases c : i < K.length
    · rw [decide_eq_true (show (i : Int) < ((K.length : Nat) : Int) by omega), cond_true, decide_eq_true (show (0 : Int) ≤ (i : Int) by omega), Bool.and_self, cond_true, Int.toNat_natCast]
      rw [drop_cons 0 c, List.contains_cons]
      by_cases q : K.getD i 0 = 0
      · rw [q, beqT rfl, cond_true, Bool.true_or, if_pos rfl]
      · rw [beqF q, cond_false, beqF (Ne.symm q), Bool.false_or, inc64 (by omega), key_run F x0 x1 x2 x3 x4 x5 x6 x7 x8 x10 x12 x13 x14 x15 x16 x17 hK k (i + 1) (by omega) (by omega)]
    · rw [decide_eq_false (show ¬ (i : Int) < ((K.length : Nat) : Int) by omega), cond_false, List.drop_eq_nil_of_le (by omega)]
      rfl
theorem pairs_run (F : Nat) (x0 x1 x2 x3 x4 x5 : Int) (x6 : List (List Int)) {P : List (List Int × List Int)} (hP : Pl F P) (hl : P.length < 4611686018427387904) : ∀ (k i : Nat), i ≤ P.length → P.length - i < k →
    ref17_Check_l6 F k x0 x1 x2 x3 x4 x5 x6 P (i : Int) = if (P.drop i).any odd17 = true then some (.inl ()) else some (.inr ())
  | 0, i, _, hk => by omega
  | k + 1, i, hi, hk => by
    unfold ref17_Check_l6 ref17_Check_l6S
    dsimp only
    by_cases c : i < P.length
    · have hm := hP _ (getD_mem ([], []) c)
      have e : (P.drop i).any odd17 = (odd17 (P.getD i ([], [])) || (P.drop (i + 1)).any odd17) := by
        rw [drop_cons ([], []) c, List.any_cons]
      rw [decide_eq_true (show (i : Int) < ((P.length : Nat) : Int) by omega), cond_true, decide_eq_true (show (0 : Int) ≤ (i : Int) by omega), Bool.and_self, cond_true, Int.toNat_natCast, e, empty17]
      generalize P.getD i ([], []) = p at *
      unfold odd17
      cases p.1 == []
      · rw [cond_false, Bool.false_or]
        generalize hg : IntKind.wrap .i64 (((p.1.length : Nat) : Int) + ((p.2.length : Nat) : Int)) = g
        cases hd : decide ((65535 : Int) < g)
        · rw [cond_false, Bool.or_false]
          have hk8 := key_run F x0 x1 x2 x3 x4 x5 x6 P (i : Int) (K := p.1) p.2 p.1 ((p.1.length : Nat) : Int) p.2 ((p.2.length : Nat) : Int) g false (by omega) F 0 (by omega) (by omega)
          rw [List.drop_zero, show ((0 : Nat) : Int) = 0 from rfl] at hk8
          rw [hk8]
          cases p.1.contains 0
          · rw [if_neg (by decide), obd]
            dsimp only
            rw [Bool.false_or, inc64 (by omega), pairs_run F x0 x1 x2 x3 x4 x5 x6 hP hl k (i + 1) (by omega) (by omega)]
            rfl
          · rfl
        · rw [cond_true, Bool.or_true]
          rfl
      · rfl
    · rw [decide_eq_false (show ¬ (i : Int) < ((P.length : Nat) : Int) by omega), cond_false, List.drop_eq_nil_of_le (by omega)]
      rfl
def ck17 (F : Nat) (f w h lay fac lev : Int) (D : List (List Int)) (P : List (List Int × List Int)) (sd la tx : Int) : Int :=
  if hd17 f w h lay fac lev sd la tx ≠ 0 then hd17 f w h lay fac lev sd la tx else
  cond (data17 F f w.toNat h.toNat lay.toNat fac.toNat lev.toNat D) (cond (P.any odd17) 8 0) 1
theorem tx_lay {w h lay fac lev : Int} (e : (tx17 w h lay fac lev).2 = 0) : lay ≤ 2147483647 := by
  unfold tx17 at e
  by_cases c : w < 1 ∨ h < 1 ∨ lay < 1 ∨ fac < 1 ∨ lev < 1
  · rw [if_pos c] at e
    exact absurd e (by decide)
  · rw [if_neg c] at e
    unfold txN at e
    by_cases d : ts w.toNat h.toNat lev.toNat ≤ 2147483647 ∧ ts w.toNat h.toNat lev.toNat * fac.toNat ≤ 2147483647 ∧ ts w.toNat h.toNat lev.toNat * fac.toNat * lay.toNat ≤ 2147483647
    · have p1 := ts_pos w.toNat h.toNat lev.toNat (by omega)
      have p2 : 1 ≤ ts w.toNat h.toNat lev.toNat * fac.toNat := Nat.mul_pos p1 (by omega)
      have p3 : 1 * lay.toNat ≤ ts w.toNat h.toNat lev.toNat * fac.toNat * lay.toNat := Nat.mul_le_mul_right _ p2
      omega
    · rw [if_neg d] at e
      exact absurd e (by decide)
theorem Check_is {F : Nat} {f w h lay fac lev : Int} (wb : w < 4611686018427387904) (hb : h < 4611686018427387904) (vb : lev < 4611686018427387904) {D : List (List Int)} {P : List (List Int × List Int)} (sd la tx : Int) (hD : D.length < F - 2) (hD2 : D.length < 1099511627776) (hP : Pl F P) (hP1 : P.length < F) (hP2 : P.length < 1099511627776) (hF : 2000 ≤ F) :
    layout_Check F (f, (w, (h, (lay, (fac, (lev, (D, (P, ())))))))) (sd, (la, (tx, ()))) = some (ck17 F f w h lay fac lev D P sd la tx, ()) ∧
    ref17_Check F (f, (w, (h, (lay, (fac, (lev, (D, (P, ())))))))) (sd, (la, (tx, ()))) = some (ck17 F f w h lay fac lev D P sd la tx, ()) := by
  obtain ⟨H1, H2⟩ := Header_is (F := F) (f := f) (lay := lay) (fac := fac) wb hb vb D P sd la tx (by omega)
  unfold layout_Check ref17_Check ck17
  dsimp only
  rw [H1, H2]
  simp only [obd]
  by_cases c : hd17 f w h lay fac lev sd la tx = 0
  rotate_left
  · rw [bneT c, if_pos c]
    exact ⟨rfl, rfl⟩
  have e0 : (hd17 f w h lay fac lev sd la tx != (0 : Int)) = false := by simp [c]
  rw [e0, if_neg (fun q => q c)]
  simp only [cond_false]
  obtain ⟨g1, g2, g3, g4, g5, g6, g7, g8, g9, g10, g11, g12, g13⟩ := hd17_ok c
  have g14 := tx_lay g12
  clear H1 H2 e0 c g7 g9 g10 g11 g12 g13
  rcases Of_num F f with ⟨_, _, r, ho⟩ | ⟨q, _⟩
  rotate_left
  · exact absurd g1 q
  obtain ⟨w, rfl⟩ := Int.eq_ofNat_of_zero_le (show 0 ≤ w by omega)
  obtain ⟨h, rfl⟩ := Int.eq_ofNat_of_zero_le (show 0 ≤ h by omega)
  obtain ⟨lay, rfl⟩ := Int.eq_ofNat_of_zero_le (show 0 ≤ lay by omega)
  obtain ⟨fac, rfl⟩ := Int.eq_ofNat_of_zero_le (show 0 ≤ fac by omega)
  obtain ⟨lev, rfl⟩ := Int.eq_ofNat_of_zero_le (show 0 ≤ lev by omega)
  simp only [Int.toNat_natCast] at *
  have lb := lv17_le (w := w) (h := h) (by omega) (by omega) (by omega) (by omega)
  have D1 := data_is (F := F) (lay := lay) (fac := fac) (lev := lev) ho (w := w) (h := h) (by omega) (by omega) (by omega) (by omega) (by omega) (by omega) (by omega) (by omega) (D := D) (by omega) (by omega) P (by omega)
  obtain ⟨_, S2⟩ := Sizes_is (F := F) ho (w := w) (h := h) (lev := lev) (by omega) (by omega) (by omega) (by omega) (by omega) (by omega) (by omega)
  rw [D1, S2, contains_is F hP hP1 (by omega)]
  simp only [obd]
  constructor
  · cases data17 F f w h lay fac lev D
    · rfl
    · cases P.any odd17 <;> rfl
  · unfold data17
    by_cases s : (sizes17 F f w h lev).2 = 0
    · have hS := sizes17_len s
      have e1 : ((sizes17 F f w h lev).2 != (0 : Int)) = false := by simp [s]
      rw [e1, cond_false, decide_eq_true s, Bool.true_and]
      generalize (sizes17 F f w h lev).1 = S at *
      have hr := rdata0_run F f (w : Int) (h : Int) (lay := lay) (fac := fac) (lev := lev) P (D := D) (S := S) (by omega) (by omega) hS (by omega) (by omega) (by omega) (by omega) (by omega) (by omega) F 0 0 (by omega) (by omega) (by omega) (Nat.zero_mod _) (by omega)
      rw [Nat.sub_zero, Nat.zero_add, show ((0 : Nat) : Int) = 0 from rfl, ← Nat.mul_assoc] at hr
      rw [hr]
      have pr := pairs_run F f (w : Int) (h : Int) (lay : Int) (fac : Int) (lev : Int) D hP (by omega) F 0 (by omega) (by omega)
      rw [List.drop_zero, show ((0 : Nat) : Int) = 0 from rfl] at pr
      by_cases d : D.length = lay * fac * lev
      · rw [decide_eq_true d, Bool.true_and, ← d]
        cases allB (okD D S lev) 0 D.length
        · rfl
        · rw [if_pos rfl, obd]
          dsimp only
          have e2 : (((D.length : Nat) : Int) != ((D.length : Nat) : Int)) = false := by simp
          rw [e2, cond_false, pr]
          cases P.any odd17 <;> rfl
      · rw [decide_eq_false d, Bool.false_and]
        cases hq : allB (okD D S lev) 0 (lay * fac * lev)
        · rfl
        · rw [if_pos rfl, obd]
          dsimp only
          rw [bneT (show ((lay * fac * lev : Nat) : Int) ≠ ((D.length : Nat) : Int) by omega)]
          rfl
    · rw [bneT s, decide_eq_false s, Bool.false_and]
      rfl
end Go.AE.Gn
set_option linter.unusedVariables false
set_option linter.unusedSimpArgs false
namespace Go.AE.Gn
open Go Go.AE
theorem light0_run (F : Nat) (x0 x1 x2 x3 x4 x5 : Int) (D : List (List Int)) (x7 : List (List Int × List Int)) : ∀ (k i : Nat) (s : Int), i ≤ 400 → 400 - i < k →
    ∃ s' : Int, ref17_Light_l0 F k x0 x1 x2 x3 x4 x5 D x7 s (i : Int) = some (x0, (x1, (x2, (x3, (x4, (x5, (D, (x7, (s', ())))))))))
  | 0, i, s, _, hk => by omega
  | k + 1, i, s, hi, hk => by
    unfold ref17_Light_l0 ref17_Light_l0S
    dsimp only
    by_cases c : i < D.length
    · by_cases c2 : i < 400
      · obtain ⟨s', ih⟩ := light0_run F x0 x1 x2 x3 x4 x5 D x7 k (i + 1) (IntKind.wrap .i64 ((IntKind.wrap .i64 (s + (20 : Int))) + (((List.length (List.getD D (Int.toNat (i : Int)) [])) : Nat) : Int))) (by omega) (by omega)
        refine ⟨s', ?_⟩
        rw [decide_eq_true (show (i : Int) < ((D.length : Nat) : Int) by omega), cond_true, decide_eq_true (show (i : Int) < 400 by omega), cond_true, decide_eq_true (show (0 : Int) ≤ (i : Int) by omega), Bool.and_self, cond_true, inc64 (by omega), ih]
      · refine ⟨s, ?_⟩
        rw [decide_eq_true (show (i : Int) < ((D.length : Nat) : Int) by omega), cond_true, decide_eq_false (show ¬ (i : Int) < 400 by omega), cond_false]
    · refine ⟨s, ?_⟩
      rw [decide_eq_false (show ¬ (i : Int) < ((D.length : Nat) : Int) by omega), cond_false]
theorem light2_run (F : Nat) (x0 x1 x2 x3 x4 x5 : Int) (x6 : List (List Int)) (P : List (List Int × List Int)) : ∀ (k i : Nat) (s : Int), i ≤ 400 → 400 - i < k →
    ∃ s' : Int, ref17_Light_l2 F k x0 x1 x2 x3 x4 x5 x6 P s (i : Int) = some (x0, (x1, (x2, (x3, (x4, (x5, (x6, (P, (s', ())))))))))
  | 0, i, s, _, hk => by omega
  | k + 1, i, s, hi, hk => by
    unfold ref17_Light_l2 ref17_Light_l2S
    dsimp only
    by_cases c : i < P.length
    · by_cases c2 : i < 400
      · obtain ⟨s', ih⟩ := light2_run F x0 x1 x2 x3 x4 x5 x6 P k (i + 1) (IntKind.wrap .i64 ((IntKind.wrap .i64 ((IntKind.wrap .i64 (s + (20 : Int))) + (((List.length (List.getD P (Int.toNat (i : Int)) ([], [])).1) : Nat) : Int))) + (((List.length (List.getD P (Int.toNat (i : Int)) ([], [])).2) : Nat) : Int))) (by omega) (by omega)
        refine ⟨s', ?_⟩
        rw [decide_eq_true (show (i : Int) < ((P.length : Nat) : Int) by omega), cond_true, decide_eq_true (show (i : Int) < 400 by omega), cond_true, decide_eq_true (show (0 : Int) ≤ (i : Int) by omega), Bool.and_self, cond_true, cond_true, inc64 (by omega), ih]
      · refine ⟨s, ?_⟩
        rw [decide_eq_true (show (i : Int) < ((P.length : Nat) : Int) by omega), cond_true, decide_eq_false (show ¬ (i : Int) < 400 by omega), cond_false]
    · refine ⟨s, ?_⟩
      rw [decide_eq_false (show ¬ (i : Int) < ((P.length : Nat) : Int) by omega), cond_false]
theorem Light_is {F : Nat} (hF : 402 ≤ F) (f w h lay fac lev : Int) (D : List (List Int)) (P : List (List Int × List Int)) :
    ∃ b, ref17_Light F (f, (w, (h, (lay, (fac, (lev, (D, (P, ())))))))) = some (b, ()) ∧ (b = true → D.length ≤ 300 ∧ P.length ≤ 100) := by
  obtain ⟨s, h0⟩ := light0_run F f w h lay fac lev D P F 0 0 (by omega) (by omega)
  obtain ⟨s', h2⟩ := light2_run F f w h lay fac lev D P F 0 s (by omega) (by omega)
  rw [show ((0 : Nat) : Int) = 0 from rfl] at h0 h2
  unfold ref17_Light
  dsimp only
  rw [h0, obd]
  dsimp only
  rw [h2, obd]
  dsimp only
  by_cases c : D.length ≤ 300
  · rw [decide_eq_true (show ((D.length : Nat) : Int) ≤ 300 by omega), cond_true]
    by_cases c2 : P.length ≤ 100
    · rw [decide_eq_true (show ((P.length : Nat) : Int) ≤ 100 by omega), cond_true]
      exact ⟨_, rfl, fun _ => ⟨c, c2⟩⟩
    · rw [decide_eq_false (show ¬ ((P.length : Nat) : Int) ≤ 100 by omega), cond_false]
      exact ⟨_, rfl, fun q => nomatch q⟩
  · rw [decide_eq_false (show ¬ ((D.length : Nat) : Int) ≤ 300 by omega), cond_false]
    exact ⟨_, rfl, fun q => nomatch q⟩
theorem fair_is (F : Nat) (f w h lay fac lev : Int) (D : List (List Int)) (P : List (List Int × List Int)) :
    ∃ b, law17_fair F (f, (w, (h, (lay, (fac, (lev, (D, (P, ())))))))) = some (b, ()) ∧ (b = true → w ≤ 1073741824 ∧ h ≤ 1073741824 ∧ lay ≤ 1073741824 ∧ fac ≤ 1073741824 ∧ lev ≤ 1073741824) := by
  unfold law17_fair
  dsimp only
  by_cases c1 : w ≤ 1073741824
  rotate_left
  · rw [decide_eq_false c1, cond_false]
    exact ⟨_, rfl, fun q => nomatch q⟩
  rw [decide_eq_true c1, cond_true]
  by_cases c2 : h ≤ 1073741824
  rotate_left
  · rw [decide_eq_false c2, cond_false]
    exact ⟨_, rfl, fun q => nomatch q⟩
  rw [decide_eq_true c2, cond_true]
  by_cases c3 : lev ≤ 1073741824
  rotate_left
  · rw [decide_eq_false c3, cond_false]
    exact ⟨_, rfl, fun q => nomatch q⟩
  rw [decide_eq_true c3, cond_true]
  by_cases c4 : lay ≤ 1073741824
  rotate_left
  · rw [decide_eq_false c4, cond_false]
    exact ⟨_, rfl, fun q => nomatch q⟩
  rw [decide_eq_true c4, cond_true]
  exact ⟨_, rfl, fun q => ⟨c1, c2, c4, of_decide_eq_true q, c3⟩⟩
theorem same_run (F : Nat) {a b : List Int} (hl : a.length = b.length) (hb : a.length ≤ 9223372036854775807) : ∀ (k i : Nat), i ≤ a.length → a.length - i < k →
    ref01_Same_l0 F k a b (i : Int) = if a.drop i = b.drop i then some (.inr ()) else some (.inl ())
  | 0, i, _, hk => by omega
  | k + 1, i, hi, hk => by
    unfold ref01_Same_l0 ref01_Same_l0S
    dsimp only
    by_cases c : i < a.length
    · rw [decide_eq_true (show (i : Int) < ((a.length : Nat) : Int) by omega), cond_true, decide_eq_true (show (0 : Int) ≤ (i : Int) by omega), Bool.and_self, cond_true, decide_eq_true (show (i : Int) < ((b.length : Nat) : Int) by omega), Bool.and_self, cond_true, Int.toNat_natCast, inc64 (by omega), same_run F hl hb k (i + 1) (by omega) (by omega)]
      rw [drop_cons 0 c, drop_cons 0 (show i < b.length by omega)]
      by_cases q : a.getD i 0 = b.getD i 0
      · have e : (a.getD i 0 != b.getD i 0) = false := by rw [q]; exact bne_self_eq_false _
        rw [e, cond_false]
        by_cases d : a.drop (i + 1) = b.drop (i + 1)
        · rw [if_pos d, if_pos (by rw [q, d])]
        · rw [if_neg d, if_neg (fun h => d (List.cons.inj h).2)]
      · rw [bneT q, cond_true, if_neg (fun h => q (List.cons.inj h).1)]
    · rw [decide_eq_false (show ¬ (i : Int) < ((a.length : Nat) : Int) by omega), cond_false, if_pos]
      rw [List.drop_eq_nil_of_le (by omega), List.drop_eq_nil_of_le (by omega)]
theorem rSame_is {F : Nat} {a b : List Int} (hF : a.length < F) (hb : a.length ≤ 9223372036854775807) : ref01_Same F a b = some (decide (a = b), ()) := by
  unfold ref01_Same
  by_cases c : a.length = b.length
  · have e : (((a.length : Nat) : Int) != ((b.length : Nat) : Int)) = false := by simp [c]
    have hr := same_run F c hb F 0 (by omega) (by omega)
    rw [show ((0 : Nat) : Int) = 0 from rfl, List.drop_zero, List.drop_zero] at hr
    rw [e, cond_false, hr]
    by_cases d : a = b
    · rw [if_pos d, decide_eq_true d]; rfl
    · rw [if_neg d, decide_eq_false d]; rfl
  · rw [bneT (show ((a.length : Nat) : Int) ≠ ((b.length : Nat) : Int) by omega), cond_true, decide_eq_false (fun q => c (by rw [q]))]
end Go.AE.Gn
set_option linter.unusedVariables false
set_option linter.unusedSimpArgs false
namespace Go.AE.Gn
open Go Go.AE
theorem awake17 (G : Nat) : law17_awake (G + 3000) = some (true, ()) := by kernel_rfl
theorem bound_len {α : Type} (f : α → Nat) : ∀ l : List α, ∃ n, ∀ x ∈ l, f x < n
  | [] => ⟨0, fun x hx => nomatch hx⟩
  | a :: r => by
    obtain ⟨n, h⟩ := bound_len f r
    refine ⟨n + f a + 1, fun x hx => ?_⟩
    rcases List.mem_cons.1 hx with rfl | hx
    · omega
    · have := h x hx
      omega
abbrev texC : List CTy := [.int .i64, .int .i64, .int .i64, .int .i64, .int .i64, .int .i64, .dsl (.row .u8 1), .dsl (.pair)]
theorem len_of_has {n : Nat} (h : IntKind.i64.has (n : Int)) : n ≤ 9223372036854775807 := by
  rw [has_iff] at h
  simp only [loB, hiB] at h
  omega
theorem ck17_ok {F : Nat} {f w h lay fac lev : Int} {D : List (List Int)} {P : List (List Int × List Int)} {sd la tx : Int} (e : ck17 F f w h lay fac lev D P sd la tx = 0) :
    hd17 f w h lay fac lev sd la tx = 0 ∧ data17 F f w.toNat h.toNat lay.toNat fac.toNat lev.toNat D = true ∧ P.any odd17 = false := by
  unfold ck17 at e
  by_cases c : hd17 f w h lay fac lev sd la tx = 0
  · rw [if_neg (fun q => q c)] at e
    refine ⟨c, ?_⟩
    cases d : data17 F f w.toNat h.toNat lay.toNat fac.toNat lev.toNat D
    · rw [d, cond_false] at e
      exact absurd e (by decide)
    · rw [d, cond_true] at e
      cases d2 : P.any odd17
      · exact ⟨rfl, rfl⟩
      · rw [d2, cond_true] at e
        exact absurd e (by decide)
  · rw [if_pos c] at e
    exact absurd e c
end Go.AE.Gn
set_option linter.unusedVariables false
set_option linter.unusedSimpArgs false
namespace Go.AE.Gn
open Go Go.AE
theorem wNat {n : Nat} (h : n ≤ 9223372036854775807) : IntKind.wrap .i64 (n : Int) = (n : Int) := w64 (by omega) (by omega)
def tl (n : Nat) : Nat := (n - 1) / 4 + 1
theorem tl_pos (n : Nat) : 1 ≤ tl n := by unfold tl; omega
theorem Tiles_is (F : Nat) {w h : Nat} (w1 : 1 ≤ w) (h1 : 1 ≤ h) (wb : w < 4611686018427387904) (hb : h < 4611686018427387904) : image_Tiles F (w : Int) (h : Int) = some (((tl w : Nat) : Int), (((tl h : Nat) : Int), ())) := by
  have one : ∀ n : Nat, 1 ≤ n → n < 4611686018427387904 → IntKind.wrap .i64 ((IntKind.wrap .i64 (Int.tdiv (IntKind.wrap .i64 ((n : Int) - (1 : Int))) (4 : Int))) + (1 : Int)) = ((tl n : Nat) : Int) := by
    intro n h1 h2
    have e : (n : Int) - 1 = ((n - 1 : Nat) : Int) := by omega
    have d : Int.tdiv ((n - 1 : Nat) : Int) 4 = (((n - 1) / 4 : Nat) : Int) := rfl
    have e2 : (((n - 1) / 4 : Nat) : Int) + 1 = ((tl n : Nat) : Int) := by unfold tl; omega
    rw [e, wNat (by omega), d, wNat (by omega), e2, wNat (by unfold tl; omega)]
  unfold image_Tiles
  rw [decide_eq_false (show ¬ (w : Int) < 1 by omega), cond_false, decide_eq_false (show ¬ (h : Int) < 1 by omega), cond_false, one w w1 wb, one h h1 hb]
theorem B17_val (F : Nat) {k : Nat} (hk : Fmt k) {w h : Nat} (w1 : 1 ≤ w) (h1 : 1 ≤ h) (wb : w ≤ 4096) (hb : h ≤ 4096) : B17 F (k : Int) (w : Int) (h : Int) = (((tl w * tl h * bytes13 k : Nat) : Int), 0) := by
  have e : format_Bytes F (k : Int) (w : Int) (h : Int) = some (((tl w * tl h * bytes13 k : Nat) : Int), ((0 : Int), ())) := by
    have b1 : tl w ≤ 1024 := by unfold tl; omega
    have b2 : tl h ≤ 1024 := by unfold tl; omega
    have b3 : tl w * tl h ≤ 1024 * 1024 := Nat.mul_le_mul b1 b2
    obtain ⟨c1, c2⟩ := bytes13_ge k
    have b4 : tl w * tl h * bytes13 k ≤ 1024 * 1024 * 16 := Nat.mul_le_mul b3 c2
    unfold format_Bytes
    rw [Of_is F hk, obd]
    dsimp only
    rw [bne_self_eq_false, cond_false, decide_eq_false (show ¬ (w : Int) < 1 by omega), cond_false, decide_eq_false (show ¬ (h : Int) < 1 by omega), cond_false, Tiles_is F w1 h1 (by omega) (by omega), obd]
    dsimp only
    rw [times_is F (tl_pos h) (by omega), obd, if_pos (by omega)]
    dsimp only
    rw [bne_self_eq_false, cond_false, times_is F (by omega) (by omega), obd, if_pos (by omega)]
  unfold B17
  rw [e]
theorem go17_val {F : Nat} {f : Int} {w h : Nat} : ∀ {m s : Nat} {acc a : List Int}, go17 F f w h (List.range' s m) acc = .inl a → a = acc ++ (List.range' s m).map fun j => (B17 F f ((sd w j : Nat) : Int) ((sd h j : Nat) : Int)).1
  | 0, s, acc, a, e => by
    cases e
    simp
  | m + 1, s, acc, a, e => by
    rw [List.range'_succ] at e ⊢
    unfold go17 at e
    by_cases c : (B17 F f (sd w s : Nat) (sd h s : Nat)).2 = 0
    · rw [if_pos c] at e
      have := go17_val e
      rw [this, List.map_cons, List.append_assoc]
      rfl
    · rw [if_neg c] at e
      cases e
theorem sizes17_get {F k w h lev : Nat} (hk : Fmt k) (w1 : 1 ≤ w) (h1 : 1 ≤ h) (wb : w ≤ 4096) (hb : h ≤ 4096) (e : (sizes17 F (k : Int) w h lev).2 = 0) {j : Nat} (hj : j < lev) : (sizes17 F (k : Int) w h lev).1.getD j 0 = ((tl (sd w j) * tl (sd h j) * bytes13 k : Nat) : Int) := by
  unfold sizes17 at e ⊢
  cases hg : go17 F (k : Int) w h (List.range' 0 lev) [] with
  | inl a =>
    have := go17_val hg
    dsimp only
    rw [this, List.nil_append]
    have b1 := sd_le w j w1
    have b2 := sd_le h j h1
    rw [List.getD_eq_getElem?_getD, List.getElem?_map, List.getElem?_range' hj]
    show (B17 F (k : Int) ((sd w (0 + 1 * j) : Nat) : Int) ((sd h (0 + 1 * j) : Nat) : Int)).1 = _
    rw [Nat.zero_add, Nat.one_mul, B17_val F hk (sd_pos w j) (sd_pos h j) (by omega) (by omega)]
  | inr q =>
    rw [hg] at e
    exact absurd e (go17_err hg)
theorem in_is (F : Nat) {a b : Nat} (h : a < b) : layout_in F (a : Int) (b : Int) = some (true, ()) := by
  unfold layout_in
  rw [decide_eq_true (show (0 : Int) ≤ (a : Int) by omega), cond_true, decide_eq_true (show (a : Int) < (b : Int) by omega)]
theorem Part_is (F : Nat) {b : List Int} {at_ n : Nat} (h : at_ + n ≤ b.length) (hb : b.length ≤ 1099511627776) : field_Part F b (at_ : Int) (n : Int) = some ((b.drop at_).take n, ((0 : Int), ())) := by
  unfold field_Part field_room
  have e : (at_ : Int) + (n : Int) = ((at_ + n : Nat) : Int) := by omega
  have e2 : ((b.length : Nat) : Int) - (at_ : Int) = ((b.length - at_ : Nat) : Int) := by omega
  rw [decide_eq_false (show ¬ (at_ : Int) < 0 by omega), cond_false, decide_eq_false (show ¬ (n : Int) < 0 by omega), cond_false]
  dsimp only
  rw [decide_eq_true (show (at_ : Int) ≤ ((b.length : Nat) : Int) by omega), cond_true, obd, e2, w64 (by omega) (by omega), e, w64 (by omega) (by omega)]
  dsimp only
  rw [decide_eq_true (show (n : Int) ≤ ((b.length - at_ : Nat) : Int) by omega), Bool.not_true, cond_false]
  rw [Int.toNat_natCast, Int.toNat_natCast, decide_eq_true (show (0 : Int) ≤ (at_ : Int) by omega), decide_eq_true (show (0 : Int) ≤ ((at_ + n : Nat) : Int) by omega), decide_eq_true (show at_ ≤ at_ + n by omega), decide_eq_true h, decide_eq_true (show at_ + n = at_ + n from rfl)]
  rw [psub_eq, show at_ + n - at_ = n by omega]
  have hc : slices_Clone_byte_byte F (List.take n (List.drop at_ b)) = some (List.take n (List.drop at_ b), ()) := by
    unfold slices_Clone_byte_byte
    exact cloneF_is (by rw [List.length_take, List.length_drop]; omega)
  rw [hc]
  rfl
section
variable {F k w h lay fac lev : Nat} {D : List (List Int)} {P : List (List Int × List Int)}
structure Tx (F k w h lay fac lev : Nat) (D : List (List Int)) : Prop where
  hF : 600 ≤ F
  hk : Fmt k
  w1 : 1 ≤ w
  h1 : 1 ≤ h
  wb : w ≤ 4096
  hb : h ≤ 4096
  y1 : 1 ≤ lay
  yb : lay ≤ 100
  f1 : 1 ≤ fac
  fb : fac ≤ 6
  v1 : 1 ≤ lev
  vb : lev ≤ 62
  hD : D.length = lay * fac * lev
  each : ∀ n, n < D.length → (D.getD n []).length = tl (sd w (n % lev)) * tl (sd h (n % lev)) * bytes13 k
theorem Tx.bound (T : Tx F k w h lay fac lev D) {n : Nat} (hn : n < D.length) : (D.getD n []).length ≤ 1024 * 1024 * 16 ∧ tl (sd w (n % lev)) * tl (sd h (n % lev)) ≤ 1024 * 1024 := by
  have b1 : tl (sd w (n % lev)) ≤ 1024 := by have := sd_le w (n % lev) T.w1; have := T.wb; unfold tl; omega
  have b2 : tl (sd h (n % lev)) ≤ 1024 := by have := sd_le h (n % lev) T.h1; have := T.hb; unfold tl; omega
  have b3 : tl (sd w (n % lev)) * tl (sd h (n % lev)) ≤ 1024 * 1024 := Nat.mul_le_mul b1 b2
  rw [T.each n hn]
  exact ⟨Nat.mul_le_mul b3 (bytes13_ge k).2, b3⟩
theorem Tx.place (T : Tx F k w h lay fac lev D) {y c v : Nat} (hy : y < lay) (hc : c < fac) (hv : v < lev) : (y * fac + c) * lev + v < D.length ∧ ((y * fac + c) * lev + v) % lev = v := by
  have a1 : y * fac + c < lay * fac := by
    have : (y + 1) * fac ≤ lay * fac := Nat.mul_le_mul_right _ hy
    rw [Nat.succ_mul] at this
    omega
  have a2 : (y * fac + c + 1) * lev ≤ lay * fac * lev := Nat.mul_le_mul_right _ a1
  rw [Nat.succ_mul] at a2
  rw [T.hD]
  refine ⟨by omega, ?_⟩
  rw [Nat.add_comm, Nat.add_mul_mod_self_right, Nat.mod_eq_of_lt hv]
theorem Tx.index (T : Tx F k w h lay fac lev D) {y c v : Nat} (hy : y < lay) (hc : c < fac) (hv : v < lev) (x0 x1 x2 x3 : Int) (x6 : List (List Int)) (x7 : List (List Int × List Int)) :
    layout_Index F (x0, (x1, (x2, (x3, ((fac : Int), ((lev : Int), (x6, (x7, ())))))))) (y : Int) (c : Int) (v : Int) = some ((((y * fac + c) * lev + v : Nat) : Int), ()) := by
  obtain ⟨p1, _⟩ := T.place hy hc hv
  have := T.hD
  have q1 : lay * fac ≤ 100 * 6 := Nat.mul_le_mul T.yb T.fb
  have q2 : lay * fac * lev ≤ 100 * 6 * 62 := Nat.mul_le_mul q1 T.vb
  have q3 : y * fac + c ≤ (y * fac + c) * lev := Nat.le_mul_of_pos_right _ T.v1
  unfold layout_Index
  dsimp only
  have e1 : (y : Int) * (fac : Int) = ((y * fac : Nat) : Int) := by rw [Int.natCast_mul]
  rw [e1, wNat (by omega)]
  have e2 : ((y * fac : Nat) : Int) + (c : Int) = ((y * fac + c : Nat) : Int) := by omega
  rw [e2, wNat (by omega)]
  have e3 : ((y * fac + c : Nat) : Int) * (lev : Int) = (((y * fac + c) * lev : Nat) : Int) := by rw [Int.natCast_mul]
  rw [e3, wNat (by omega)]
  have e4 : (((y * fac + c) * lev : Nat) : Int) + (v : Int) = (((y * fac + c) * lev + v : Nat) : Int) := by omega
  rw [e4, wNat (by omega)]
theorem Tx.block (T : Tx F k w h lay fac lev D) {y c v : Nat} (hy : y < lay) (hc : c < fac) (hv : v < lev) {i : Nat} (hi : i < tl (sd w v) * tl (sd h v)) :
    layout_Block F ((k : Int), ((w : Int), ((h : Int), ((lay : Int), ((fac : Int), ((lev : Int), (D, (P, ())))))))) (y : Int) (c : Int) (v : Int) ((i % tl (sd w v) : Nat) : Int) ((i / tl (sd w v) : Nat) : Int) = some (((D.getD ((y * fac + c) * lev + v) []).drop (i * bytes13 k)).take (bytes13 k), ((0 : Int), ())) := by
  obtain ⟨p1, p2⟩ := T.place hy hc hv
  obtain ⟨p3, p4⟩ := T.bound p1
  have p5 := T.each _ p1
  rw [p2] at p4 p5
  have T0 := T
  obtain ⟨hF, hk, w1, h1, wb, hb, y1, yb, f1, fb, v1, vb, hD, each⟩ := T
  have bw := sd_le w v w1
  have bh := sd_le h v h1
  unfold layout_Block
  dsimp only
  rw [in_is F hy, obd]
  dsimp only
  rw [Bool.not_true, cond_false, in_is F hc, obd]
  dsimp only
  rw [Bool.not_true, cond_false, in_is F hv, obd]
  dsimp only
  rw [Bool.not_true, cond_false, side_is w1 (by omega) (by omega) (by omega), obd, side_is h1 (by omega) (by omega) (by omega), obd]
  dsimp only
  rw [Tiles_is F (sd_pos w v) (sd_pos h v) (by omega) (by omega), obd, T0.index hy hc hv, obd]
  dsimp only
  have tp := tl_pos (sd w v)
  have m1 : i % tl (sd w v) < tl (sd w v) := Nat.mod_lt _ (by omega)
  have m2 : i / tl (sd w v) < tl (sd h v) := (Nat.div_lt_iff_lt_mul (by omega)).2 (by rw [Nat.mul_comm]; exact hi)
  rw [in_is F m1, obd]
  dsimp only
  rw [Bool.not_true, cond_false, in_is F m2, obd]
  dsimp only
  generalize hn : (y * fac + c) * lev + v = n at *
  rw [Bool.not_true, cond_false, decide_eq_false (show ¬ ((D.length : Nat) : Int) ≤ (n : Int) by omega), cond_false, Of_is F hk, obd, ltB p1, cond_true, Int.toNat_natCast]
  dsimp only
  have dm := Nat.div_add_mod i (tl (sd w v))
  have e1 : ((i / tl (sd w v) : Nat) : Int) * ((tl (sd w v) : Nat) : Int) = ((i / tl (sd w v) * tl (sd w v) : Nat) : Int) := by rw [Int.natCast_mul]
  have e2 : i / tl (sd w v) * tl (sd w v) + i % tl (sd w v) = i := by rw [Nat.mul_comm]; exact dm
  have q1 : i / tl (sd w v) * tl (sd w v) ≤ i := by omega
  obtain ⟨c1, c2⟩ := bytes13_ge k
  have q2 : (i + 1) * bytes13 k ≤ tl (sd w v) * tl (sd h v) * bytes13 k := Nat.mul_le_mul_right _ hi
  rw [Nat.succ_mul] at q2
  have q3 : i * bytes13 k ≤ 1048576 * 16 := Nat.mul_le_mul (by omega) c2
  rw [e1, wNat (by omega)]
  have e3 : ((i / tl (sd w v) * tl (sd w v) : Nat) : Int) + ((i % tl (sd w v) : Nat) : Int) = (i : Int) := by omega
  rw [e3, wNat (by omega)]
  have e4 : (i : Int) * ((bytes13 k : Nat) : Int) = ((i * bytes13 k : Nat) : Int) := by rw [Int.natCast_mul]
  rw [e4, wNat (by omega), Part_is F (by omega) (by omega), obd]
  rfl
end
end Go.AE.Gn
set_option linter.unusedVariables false
set_option linter.unusedSimpArgs false
namespace Go.AE.Gn
open Go Go.AE
section
variable {F k w h lay fac lev : Nat} {D : List (List Int)} {P : List (List Int × List Int)}
theorem Tx.l6 (T : Tx F k w h lay fac lev D) (x8 : Bool) (x10 : Int) (x11 : Bool) (x12 : Int) {y c v : Nat} (hy : y < lay) (hc : c < fac) (hv : v < lev) (x20 : Int) (x21 : List (List Int)) (x22 : Int) (x23 : Bool) : ∀ (m i : Nat), i ≤ tl (sd w v) * tl (sd h v) → tl (sd w v) * tl (sd h v) - i < m →
    law17_LayoutWhole_l6 F m (k : Int) (w : Int) (h : Int) (lay : Int) (fac : Int) (lev : Int) D P x8 ((bytes13 k : Nat) : Int) x10 x11 x12 (y : Int) (c : Int) (v : Int) ((D.getD ((y * fac + c) * lev + v) []).take (i * bytes13 k)) ((tl (sd w v) : Nat) : Int) ((tl (sd h v) : Nat) : Int) (i : Int) x20 x21 x22 x23 =
      some (.inr ((k : Int), ((w : Int), ((h : Int), ((lay : Int), ((fac : Int), ((lev : Int), (D, (P, (x8, (((bytes13 k : Nat) : Int), (x10, (x11, (x12, ((y : Int), ((c : Int), ((v : Int), (D.getD ((y * fac + c) * lev + v) [], (x20, (x21, (x22, (x23, ()))))))))))))))))))))))
  | 0, i, _, hm => by omega
  | m + 1, i, hi, hm => by
    obtain ⟨p1, p2⟩ := T.place hy hc hv
    obtain ⟨p3, p4⟩ := T.bound p1
    have p5 := T.each _ p1
    rw [p2] at p4 p5
    obtain ⟨c1, c2⟩ := bytes13_ge k
    have tp := tl_pos (sd w v)
    unfold law17_LayoutWhole_l6 law17_LayoutWhole_l6S
    dsimp only
    have e0 : ((tl (sd w v) : Nat) : Int) * ((tl (sd h v) : Nat) : Int) = ((tl (sd w v) * tl (sd h v) : Nat) : Int) := by rw [Int.natCast_mul]
    rw [e0, wNat (by omega)]
    by_cases q : i < tl (sd w v) * tl (sd h v)
    · have B := T.block (P := P) hy hc hv q
      have d0 : Int.tdiv (i : Int) ((tl (sd w v) : Nat) : Int) = ((i / tl (sd w v) : Nat) : Int) := rfl
      have dl : i / tl (sd w v) ≤ i := Nat.div_le_self _ _
      rw [decide_eq_true (show (i : Int) < ((tl (sd w v) * tl (sd h v) : Nat) : Int) by omega), cond_true, beqF (show ((tl (sd w v) : Nat) : Int) ≠ 0 by omega), Bool.not_false, cond_true, cond_true, d0, wNat (by omega), tmodN, B, obd]
      generalize hn : (y * fac + c) * lev + v = n at *
      have q2 : (i + 1) * bytes13 k ≤ tl (sd w v) * tl (sd h v) * bytes13 k := Nat.mul_le_mul_right _ q
      rw [Nat.succ_mul] at q2
      have bl : (((D.getD n []).drop (i * bytes13 k)).take (bytes13 k)).length = bytes13 k := by
        rw [List.length_take, List.length_drop]
        omega
      have ap : (D.getD n []).take (i * bytes13 k) ++ ((D.getD n []).drop (i * bytes13 k)).take (bytes13 k) = (D.getD n []).take ((i + 1) * bytes13 k) := by
        rw [Nat.succ_mul, List.take_add]
      have tln : ((D.getD n []).take (i * bytes13 k)).length = i * bytes13 k := by rw [List.length_take]; omega
      dsimp only
      rw [bl, tln, bne_self_eq_false, cond_false, bne_self_eq_false, cond_false, decide_eq_true (show i * bytes13 k + bytes13 k ≤ 1099511627776 by omega), Bool.and_self, cond_true, ap, inc64 (by omega)]
      have ih := T.l6 x8 x10 x11 x12 hy hc hv x20 x21 x22 x23 m (i + 1) (by omega) (by omega)
      rw [hn] at ih
      exact ih
    · rw [decide_eq_false (show ¬ (i : Int) < ((tl (sd w v) * tl (sd h v) : Nat) : Int) by omega), cond_false]
      have : i = tl (sd w v) * tl (sd h v) := by omega
      rw [this, List.take_of_length_le (by omega)]
theorem Tx.l4 (T : Tx F k w h lay fac lev D) (hF2 : 1100000 ≤ F) (hF3 : ∀ n, n < D.length → (D.getD n []).length < F) (x8 : Bool) (x10 : Int) (x11 : Bool) {y c : Nat} (hy : y < lay) (hc : c < fac) : ∀ (m v : Nat), v ≤ lev → lev - v < m →
    law17_LayoutWhole_l4 F m (k : Int) (w : Int) (h : Int) (lay : Int) (fac : Int) (lev : Int) D P x8 ((bytes13 k : Nat) : Int) x10 x11 (((y * fac + c) * lev + v : Nat) : Int) (y : Int) (c : Int) (v : Int) =
      some (.inr ((k : Int), ((w : Int), ((h : Int), ((lay : Int), ((fac : Int), ((lev : Int), (D, (P, (x8, (((bytes13 k : Nat) : Int), (x10, (x11, ((((y * fac + c) * lev + lev : Nat) : Int), ((y : Int), ((c : Int), ()))))))))))))))))
  | 0, v, _, hm => by omega
  | m + 1, v, hv, hm => by
    unfold law17_LayoutWhole_l4 law17_LayoutWhole_l4S
    dsimp only
    by_cases q : v < lev
    · obtain ⟨p1, p2⟩ := T.place hy hc q
      obtain ⟨p3, p4⟩ := T.bound p1
      have p5 := T.each _ p1
      have p6 := hF3 _ p1
      rw [p2] at p4 p5
      have := T.w1; have := T.h1; have := T.wb; have := T.hb; have := T.vb
      have bw := sd_le w v T.w1
      have bh := sd_le h v T.h1
      have hd := T.hD
      have q1 : lay * fac ≤ 100 * 6 := Nat.mul_le_mul T.yb T.fb
      have q2 : lay * fac * lev ≤ 100 * 6 * 62 := Nat.mul_le_mul q1 T.vb
      rw [decide_eq_true (show (v : Int) < (lev : Int) by omega), cond_true, T.index hy hc q, obd]
      dsimp only
      rw [bne_self_eq_false, cond_false]
      have f0 : decide (((D.length : Nat) : Int) ≤ (((y * fac + c) * lev + v : Nat) : Int)) = false := decide_eq_false (by omega)
      rw [f0, cond_false, side_is T.w1 (by omega) (by omega) (by omega), obd, side_is T.h1 (by omega) (by omega) (by omega), obd]
      dsimp only
      rw [Tiles_is F (sd_pos w v) (sd_pos h v) (by omega) (by omega), obd]
      dsimp only
      have h6 := T.l6 (P := P) x8 x10 x11 ((((y * fac + c) * lev + v : Nat) : Int)) hy hc q ((((y * fac + c) * lev + v : Nat) : Int)) D ((D.length : Nat) : Int) false F 0 (by omega) (by omega)
      rw [Nat.zero_mul, List.take_zero, show ((0 : Nat) : Int) = 0 from rfl] at h6
      rw [h6, obd]
      dsimp only
      rw [ltB p1, cond_true, Int.toNat_natCast, rSame_is p6 (by omega), obd]
      dsimp only
      rw [decide_eq_true (show D.getD ((y * fac + c) * lev + v) [] = D.getD ((y * fac + c) * lev + v) [] from rfl), Bool.not_true, cond_false, inc64 (by omega), inc64 (by omega)]
      exact T.l4 hF2 hF3 x8 x10 x11 hy hc m (v + 1) (by omega) (by omega)
    · rw [decide_eq_false (show ¬ (v : Int) < (lev : Int) by omega), cond_false, show v = lev by omega]
theorem Tx.l2 (T : Tx F k w h lay fac lev D) (hF2 : 1100000 ≤ F) (hF3 : ∀ n, n < D.length → (D.getD n []).length < F) (x8 : Bool) (x10 : Int) (x11 : Bool) {y : Nat} (hy : y < lay) : ∀ (m c : Nat), c ≤ fac → fac - c < m →
    law17_LayoutWhole_l2 F m (k : Int) (w : Int) (h : Int) (lay : Int) (fac : Int) (lev : Int) D P x8 ((bytes13 k : Nat) : Int) x10 x11 (((y * fac + c) * lev : Nat) : Int) (y : Int) (c : Int) =
      some (.inr ((k : Int), ((w : Int), ((h : Int), ((lay : Int), ((fac : Int), ((lev : Int), (D, (P, (x8, (((bytes13 k : Nat) : Int), (x10, (x11, ((((y * fac + fac) * lev : Nat) : Int), ((y : Int), ())))))))))))))))
  | 0, c, _, hm => by omega
  | m + 1, c, hc, hm => by
    unfold law17_LayoutWhole_l2 law17_LayoutWhole_l2S
    by_cases q : c < fac
    · have := T.vb; have := T.fb
      have h4 := T.l4 (P := P) hF2 hF3 x8 x10 x11 hy q F 0 (by omega) (by omega)
      rw [Nat.add_zero, show ((0 : Nat) : Int) = 0 from rfl] at h4
      rw [decide_eq_true (show (c : Int) < (fac : Int) by omega), cond_true, h4, obd]
      dsimp only
      have ih := T.l2 hF2 hF3 x8 x10 x11 hy m (c + 1) (by omega) (by omega)
      rw [← Nat.add_assoc, Nat.succ_mul] at ih
      rw [inc64 (by omega)]
      exact ih
    · rw [decide_eq_false (show ¬ (c : Int) < (fac : Int) by omega), cond_false, show c = fac by omega]
theorem Tx.l0 (T : Tx F k w h lay fac lev D) (hF2 : 1100000 ≤ F) (hF3 : ∀ n, n < D.length → (D.getD n []).length < F) (x8 : Bool) (x10 : Int) (x11 : Bool) : ∀ (m y : Nat), y ≤ lay → lay - y < m →
    law17_LayoutWhole_l0 F m (k : Int) (w : Int) (h : Int) (lay : Int) (fac : Int) (lev : Int) D P x8 ((bytes13 k : Nat) : Int) x10 x11 ((y * fac * lev : Nat) : Int) (y : Int) =
      some (.inr ((k : Int), ((w : Int), ((h : Int), ((lay : Int), ((fac : Int), ((lev : Int), (D, (P, (x8, (((lay * fac * lev : Nat) : Int), ())))))))))))
  | 0, y, _, hm => by omega
  | m + 1, y, hy, hm => by
    unfold law17_LayoutWhole_l0 law17_LayoutWhole_l0S
    by_cases q : y < lay
    · have := T.yb; have := T.fb
      have h2 := T.l2 (P := P) hF2 hF3 x8 x10 x11 q F 0 (by omega) (by omega)
      rw [Nat.add_zero, show ((0 : Nat) : Int) = 0 from rfl] at h2
      rw [decide_eq_true (show (y : Int) < (lay : Int) by omega), cond_true, h2, obd]
      dsimp only
      have ih := T.l0 hF2 hF3 x8 x10 x11 m (y + 1) (by omega) (by omega)
      rw [Nat.succ_mul] at ih
      rw [inc64 (by omega)]
      exact ih
    · rw [decide_eq_false (show ¬ (y : Int) < (lay : Int) by omega), cond_false, show y = lay by omega]
end
theorem awake17w (G : Nat) : law17_awake (G + 1100000) = some (true, ()) := by
  have := awake17 (G + 1097000)
  rw [show G + 1097000 + 3000 = G + 1100000 by omega] at this
  exact this
theorem whole17 (x1 x2 x3 x4 x5 x6 : Int) (D : List (List Int)) (P : List (List Int × List Int)) (wP : ∀ p ∈ P, p.1.length ≤ 9223372036854775807) : ∃ F, law17_LayoutWhole F (x1, (x2, (x3, (x4, (x5, (x6, (D, (P, ())))))))) = some (true, ()) := by
  obtain ⟨n1, hn1⟩ := bound_len List.length (D : List (List Int))
  obtain ⟨n2, hn2⟩ := bound_len (fun p : List Int × List Int => p.1.length) (P : List (List Int × List Int))
  refine ⟨(n1 + n2) + 1100000, ?_⟩
  have aw := awake17w (n1 + n2)
  obtain ⟨F, hF⟩ : ∃ F, F = (n1 + n2) + 1100000 := ⟨_, rfl⟩
  rw [← hF] at aw ⊢
  unfold law17_LayoutWhole ref17_Wide
  dsimp only
  obtain ⟨b1, L1, M1⟩ := Light_is (F := F) (by omega) x1 x2 x3 x4 x5 x6 D P
  obtain ⟨b3, R1, N1⟩ := fair_is F x1 x2 x3 x4 x5 x6 D P
  rw [aw, L1, R1]
  simp only [obd]
  cases b1
  · rfl
  cases b3
  · rfl
  obtain ⟨m1, m2⟩ := M1 rfl
  obtain ⟨q1, q2, q3, q4, q5⟩ := N1 rfl
  simp only [Bool.not_true, cond_false]
  have hP : Pl F P := fun p hp => ⟨by have := hn2 p hp; omega, wP p hp⟩
  have C1 := fun sd la tx => (Check_is (F := F) (f := x1) (w := x2) (h := x3) (lay := x4) (fac := x5) (lev := x6) (by omega) (by omega) (by omega) (D := D) (P := P) sd la tx (by omega) (by omega) hP (by omega) (by omega) (by omega)).1
  rw [C1, obd]
  by_cases c : ck17 F x1 x2 x3 x4 x5 x6 D P 4096 100 1000000 = 0
  rotate_left
  · rw [bneT c]
    rfl
  have ee : ∀ x y : Int, x = y → (x != y) = false := fun x y q => by simp [q]
  rw [ee _ _ c, cond_false]
  obtain ⟨k1, k2, k3⟩ := ck17_ok c
  obtain ⟨g1, g2, g3, g4, g5, g6, g7, g8, g9, g10, g11, g12, g13⟩ := hd17_ok k1
  clear k1 k3 g12 g13 c C1
  obtain ⟨k, hk, rfl⟩ := fmt_of g1
  obtain ⟨w, rfl⟩ := Int.eq_ofNat_of_zero_le (show 0 ≤ x2 by omega)
  obtain ⟨h, rfl⟩ := Int.eq_ofNat_of_zero_le (show 0 ≤ x3 by omega)
  obtain ⟨lay, rfl⟩ := Int.eq_ofNat_of_zero_le (show 0 ≤ x4 by omega)
  obtain ⟨fac, rfl⟩ := Int.eq_ofNat_of_zero_le (show 0 ≤ x5 by omega)
  obtain ⟨lev, rfl⟩ := Int.eq_ofNat_of_zero_le (show 0 ≤ x6 by omega)
  simp only [Int.toNat_natCast] at k2 g8
  have lb := lv17_le (w := w) (h := h) (by omega) (by omega) (by omega) (by omega)
  unfold data17 at k2
  rw [Bool.and_eq_true, Bool.and_eq_true, decide_eq_true_eq, decide_eq_true_eq] at k2
  obtain ⟨s1, s2, s3⟩ := k2
  have T : Tx F k w h lay fac lev D := ⟨by omega, hk, by omega, by omega, by omega, by omega, by omega, by omega, by omega, by omega, by omega, by omega, s2, fun n hn => by
    have o := allB_iff.1 s3 n (by omega) (by omega)
    unfold okD at o
    rw [Bool.and_eq_true, beq_iff_eq, sizes17_get hk (by omega) (by omega) (by omega) (by omega) s1 (Nat.mod_lt _ (by omega))] at o
    exact Int.ofNat.inj o.2⟩
  rw [Of_is F hk, obd]
  have h0 := T.l0 (P := P) (by omega) (fun n hn => by have := hn1 _ (getD_mem [] hn); omega) true (mask13 k) (wide13 k) F 0 (by omega) (by omega)
  rw [Nat.zero_mul, Nat.zero_mul, show ((0 : Nat) : Int) = 0 from rfl] at h0
  dsimp only
  rw [h0, obd]
  dsimp only
  rw [cond_true, ← s2, beqT rfl]
theorem law17_LayoutWhole_true (a0 : DC texC) (f0 : wfD texC a0) : ∃ F, law17_LayoutWhole F a0 = some (true, ()) := by
  obtain ⟨x1, x2, x3, x4, x5, x6, D, P, _⟩ := a0
  obtain ⟨_, _, _, _, _, _, _, ⟨wl2, wP⟩, _⟩ := f0
  exact whole17 x1 x2 x3 x4 x5 x6 D P fun p hp => len_of_has (wP p hp).1.2
end Go.AE.Gn

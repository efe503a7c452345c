/- A part of the proof, put together of my texts: Pure17f, Pure17g, Pure17h. -/
import Derived.KernelRfl
import Derived.Test.YtcjfigcbloploaaRowLayoutLimitsP4
set_option linter.unusedVariables false
set_option linter.unusedSimpArgs false
namespace Go.AE.Gn
open Go Go.AE
def odd17 (p : List Int × List Int) : Bool := p.1 == [] || (p.1.contains 0 || decide ((65535 : Int) < IntKind.wrap .i64 (((p.1.length : Nat) : Int) + ((p.2.length : Nat) : Int))))
theorem idxB_is (c : Int) : ∀ (l : List Int) (i : Int), 0 ≤ i → (decide ((0 : Int) ≤ idxB c l i)) = l.contains c
  | [], i, _ => rfl
  | x :: r, i, hi => by
    unfold idxB
    by_cases h : x = c
    · subst h
      rw [beqT rfl, cond_true, decide_eq_true hi]
      simp
    · rw [beqF h, cond_false, idxB_is c r (i + 1) (by omega)]
      have : (c == x) = false := beqF (Ne.symm h)
      rw [List.contains_cons, this, Bool.false_or]
def Pl (F : Nat) (P : List (List Int × List Int)) : Prop := ∀ p ∈ P, p.1.length < F ∧ p.1.length ≤ 9223372036854775807
theorem empty17 : (bytesL (ByteArray.mk (List.toArray []))) = [] := rfl
theorem odd_is (F : Nat) {p : List Int × List Int} : layout_Check_c1 F (p.1, (p.2, ())) = some (odd17 p, ()) := by
  unfold layout_Check_c1 odd17 strings_IndexByte internal_stringslite_IndexByte
  dsimp only
  rw [empty17]
  cases p.1 == []
  · rw [cond_false, obd, obd, idxB_is _ _ _ (by decide), Bool.false_or]
    cases p.1.contains 0
    · rw [cond_false, Bool.false_or]
    · rfl
  · rfl
theorem drop_cons {α : Type} {l : List α} {i : Nat} (d : α) (h : i < l.length) : l.drop i = l.getD i d :: l.drop (i + 1) := by
  rw [List.drop_eq_getElem_cons h]
  congr 1
  rw [List.getD_eq_getElem?_getD, List.getElem?_eq_getElem h]
  rfl
theorem getD_mem {α : Type} {l : List α} {i : Nat} (d : α) (h : i < l.length) : l.getD i d ∈ l := by
  rw [List.getD_eq_getElem?_getD, List.getElem?_eq_getElem h]
  exact List.getElem_mem h
theorem index_run (F : Nat) {P : List (List Int × List Int)} (hP : Pl F P) (hl : P.length < 4611686018427387904) : ∀ (k i : Nat), i ≤ P.length → P.length - i < k →
    ∃ j : Nat, slices_IndexFunc_api_Pair_api_Pair_Check_c1_l0 F k P ((P.length : Nat) : Int) (i : Int) = if (P.drop i).any odd17 = true then some (.inl ((j : Int), ())) else some (.inr ())
  | 0, i, _, hk => by omega
  | k + 1, i, hi, hk => by
    by_cases c : i < P.length
    · obtain ⟨j, ih⟩ := index_run F hP hl k (i + 1) (by omega) (by omega)
      have hm := hP _ (getD_mem ([], []) c)
      have e : (P.drop i).any odd17 = (odd17 (P.getD i ([], [])) || (P.drop (i + 1)).any odd17) := by
        rw [drop_cons ([], []) c, List.any_cons]
      cases q : odd17 (P.getD i ([], []))
      · refine ⟨j, ?_⟩
        unfold slices_IndexFunc_api_Pair_api_Pair_Check_c1_l0 slices_IndexFunc_api_Pair_api_Pair_Check_c1_l0S
        rw [decide_eq_true (show (i : Int) < ((P.length : Nat) : Int) by omega), cond_true, decide_eq_true (show (0 : Int) ≤ (i : Int) by omega), Bool.and_self, cond_true, Int.toNat_natCast]
        dsimp only
        rw [odd_is F, obd, e, q, Bool.false_or, cond_false, inc64 (by omega), ih]
      · refine ⟨i, ?_⟩
        unfold slices_IndexFunc_api_Pair_api_Pair_Check_c1_l0 slices_IndexFunc_api_Pair_api_Pair_Check_c1_l0S
        rw [decide_eq_true (show (i : Int) < ((P.length : Nat) : Int) by omega), cond_true, decide_eq_true (show (0 : Int) ≤ (i : Int) by omega), Bool.and_self, cond_true, Int.toNat_natCast]
        dsimp only
        rw [odd_is F, obd, e, q, Bool.true_or, cond_true, if_pos rfl]
    · refine ⟨0, ?_⟩
      unfold slices_IndexFunc_api_Pair_api_Pair_Check_c1_l0 slices_IndexFunc_api_Pair_api_Pair_Check_c1_l0S
      rw [decide_eq_false (show ¬ (i : Int) < ((P.length : Nat) : Int) by omega), cond_false, List.drop_eq_nil_of_le (by omega)]
      rfl
theorem contains_is (F : Nat) {P : List (List Int × List Int)} (hP : Pl F P) (hl : P.length < F) (hl2 : P.length < 4611686018427387904) :
    slices_ContainsFunc_api_Pair_api_Pair_Check_c1 F P = some (P.any odd17, ()) := by
  obtain ⟨j, h⟩ := index_run F hP hl2 F 0 (by omega) (by omega)
  rw [List.drop_zero, show ((0 : Nat) : Int) = 0 from rfl] at h
  unfold slices_ContainsFunc_api_Pair_api_Pair_Check_c1 slices_IndexFunc_api_Pair_api_Pair_Check_c1
  rw [h]
  cases P.any odd17
  · rfl
  · rw [if_pos rfl, obd, obd]
    dsimp only
    rw [decide_eq_true (show (0 : Int) ≤ (j : Int) by omega)]
theorem key_run (F : Nat) (x0 x1 x2 x3 x4 x5 : Int) (x6 : List (List Int)) (x7 : List (List Int × List Int)) (x8 : Int) {K : List Int} (x10 x12 : List Int) (x13 : Int) (x14 : List Int) (x15 x16 : Int) (x17 : Bool) (hK : K.length ≤ 9223372036854775807) : ∀ (k i : Nat), i ≤ K.length → K.length - i < k →
    ref17_Check_l8 F k x0 x1 x2 x3 x4 x5 x6 x7 x8 K x10 (i : Int) x12 x13 x14 x15 x16 x17 = if (K.drop i).contains 0 = true then some (.inl ()) else some (.inr (x0, (x1, (x2, (x3, (x4, (x5, (x6, (x7, (x8, (K, (x10, (x12, (x13, (x14, (x15, (x16, (x17, ()))))))))))))))))))
  | 0, i, _, hk => by omega
  | k + 1, i, hi, hk => by
    unfold ref17_Check_l8 ref17_Check_l8S
    dsimp only
    by_cases c : i < K.length
    · rw [decide_eq_true (show (i : Int) < ((K.length : Nat) : Int) by omega), cond_true, decide_eq_true (show (0 : Int) ≤ (i : Int) by omega), Bool.and_self, cond_true, Int.toNat_natCast]
      rw [drop_cons 0 c, List.contains_cons]
      by_cases q : K.getD i 0 = 0
      · rw [q, beqT rfl, cond_true, Bool.true_or, if_pos rfl]
      · rw [beqF q, cond_false, beqF (Ne.symm q), Bool.false_or, inc64 (by omega), key_run F x0 x1 x2 x3 x4 x5 x6 x7 x8 x10 x12 x13 x14 x15 x16 x17 hK k (i + 1) (by omega) (by omega)]
    · rw [decide_eq_false (show ¬ (i : Int) < ((K.length : Nat) : Int) by omega), cond_false, List.drop_eq_nil_of_le (by omega)]
      rfl
theorem pairs_run (F : Nat) (x0 x1 x2 x3 x4 x5 : Int) (x6 : List (List Int)) {P : List (List Int × List Int)} (hP : Pl F P) (hl : P.length < 4611686018427387904) : ∀ (k i : Nat), i ≤ P.length → P.length - i < k →
    ref17_Check_l6 F k x0 x1 x2 x3 x4 x5 x6 P (i : Int) = if (P.drop i).any odd17 = true then some (.inl ()) else some (.inr ())
  | 0, i, _, hk => by omega
  | k + 1, i, hi, hk => by
    unfold ref17_Check_l6 ref17_Check_l6S
    dsimp only
    by_cases c : i < P.length
    · have hm := hP _ (getD_mem ([], []) c)
      have e : (P.drop i).any odd17 = (odd17 (P.getD i ([], [])) || (P.drop (i + 1)).any odd17) := by
        rw [drop_cons ([], []) c, List.any_cons]
      rw [decide_eq_true (show (i : Int) < ((P.length : Nat) : Int) by omega), cond_true, decide_eq_true (show (0 : Int) ≤ (i : Int) by omega), Bool.and_self, cond_true, Int.toNat_natCast, e, empty17]
      generalize P.getD i ([], []) = p at *
      unfold odd17
      cases p.1 == []
      · rw [cond_false, Bool.false_or]
        generalize hg : IntKind.wrap .i64 (((p.1.length : Nat) : Int) + ((p.2.length : Nat) : Int)) = g
        cases hd : decide ((65535 : Int) < g)
        · rw [cond_false, Bool.or_false]
          have hk8 := key_run F x0 x1 x2 x3 x4 x5 x6 P (i : Int) (K := p.1) p.2 p.1 ((p.1.length : Nat) : Int) p.2 ((p.2.length : Nat) : Int) g false (by omega) F 0 (by omega) (by omega)
          rw [List.drop_zero, show ((0 : Nat) : Int) = 0 from rfl] at hk8
          rw [hk8]
          cases p.1.contains 0
          · rw [if_neg (by decide), obd]
            dsimp only
            rw [Bool.false_or, inc64 (by omega), pairs_run F x0 x1 x2 x3 x4 x5 x6 hP hl k (i + 1) (by omega) (by omega)]
            rfl
          · rfl
        · rw [cond_true, Bool.or_true]
          rfl
      · rfl
    · rw [decide_eq_false (show ¬ (i : Int) < ((P.length : Nat) : Int) by omega), cond_false, List.drop_eq_nil_of_le (by omega)]
      rfl
def ck17 (F : Nat) (f w h lay fac lev : Int) (D : List (List Int)) (P : List (List Int × List Int)) (sd la tx : Int) : Int :=
  if hd17 f w h lay fac lev sd la tx ≠ 0 then hd17 f w h lay fac lev sd la tx else
  cond (data17 F f w.toNat h.toNat lay.toNat fac.toNat lev.toNat D) (cond (P.any odd17) 8 0) 1
theorem tx_lay {w h lay fac lev : Int} (e : (tx17 w h lay fac lev).2 = 0) : lay ≤ 2147483647 := by
  unfold tx17 at e
  by_cases c : w < 1 ∨ h < 1 ∨ lay < 1 ∨ fac < 1 ∨ lev < 1
  · rw [if_pos c] at e
    exact absurd e (by decide)
  · rw [if_neg c] at e
    unfold txN at e
    by_cases d : ts w.toNat h.toNat lev.toNat ≤ 2147483647 ∧ ts w.toNat h.toNat lev.toNat * fac.toNat ≤ 2147483647 ∧ ts w.toNat h.toNat lev.toNat * fac.toNat * lay.toNat ≤ 2147483647
    · have p1 := ts_pos w.toNat h.toNat lev.toNat (by omega)
      have p2 : 1 ≤ ts w.toNat h.toNat lev.toNat * fac.toNat := Nat.mul_pos p1 (by omega)
      have p3 : 1 * lay.toNat ≤ ts w.toNat h.toNat lev.toNat * fac.toNat * lay.toNat := Nat.mul_le_mul_right _ p2
      omega
    · rw [if_neg d] at e
      exact absurd e (by decide)
theorem Check_is {F : Nat} {f w h lay fac lev : Int} (wb : w < 4611686018427387904) (hb : h < 4611686018427387904) (vb : lev < 4611686018427387904) {D : List (List Int)} {P : List (List Int × List Int)} (sd la tx : Int) (hD : D.length < F - 2) (hD2 : D.length < 1099511627776) (hP : Pl F P) (hP1 : P.length < F) (hP2 : P.length < 1099511627776) (hF : 2000 ≤ F) :
    layout_Check F (f, (w, (h, (lay, (fac, (lev, (D, (P, ())))))))) (sd, (la, (tx, ()))) = some (ck17 F f w h lay fac lev D P sd la tx, ()) ∧
    ref17_Check F (f, (w, (h, (lay, (fac, (lev, (D, (P, ())))))))) (sd, (la, (tx, ()))) = some (ck17 F f w h lay fac lev D P sd la tx, ()) := by
  obtain ⟨H1, H2⟩ := Header_is (F := F) (f := f) (lay := lay) (fac := fac) wb hb vb D P sd la tx (by omega)
  unfold layout_Check ref17_Check ck17
  dsimp only
  rw [H1, H2]
  simp only [obd]
  by_cases c : hd17 f w h lay fac lev sd la tx = 0
  rotate_left
  · rw [bneT c, if_pos c]
    exact ⟨rfl, rfl⟩
  have e0 : (hd17 f w h lay fac lev sd la tx != (0 : Int)) = false := by simp [c]
  rw [e0, if_neg (fun q => q c)]
  simp only [cond_false]
  obtain ⟨g1, g2, g3, g4, g5, g6, g7, g8, g9, g10, g11, g12, g13⟩ := hd17_ok c
  have g14 := tx_lay g12
  clear H1 H2 e0 c g7 g9 g10 g11 g12 g13
  rcases Of_num F f with ⟨_, _, r, ho⟩ | ⟨q, _⟩
  rotate_left
  · exact absurd g1 q
  obtain ⟨w, rfl⟩ := Int.eq_ofNat_of_zero_le (show 0 ≤ w by omega)
  obtain ⟨h, rfl⟩ := Int.eq_ofNat_of_zero_le (show 0 ≤ h by omega)
  obtain ⟨lay, rfl⟩ := Int.eq_ofNat_of_zero_le (show 0 ≤ lay by omega)
  obtain ⟨fac, rfl⟩ := Int.eq_ofNat_of_zero_le (show 0 ≤ fac by omega)
  obtain ⟨lev, rfl⟩ := Int.eq_ofNat_of_zero_le (show 0 ≤ lev by omega)
  simp only [Int.toNat_natCast] at *
  have lb := lv17_le (w := w) (h := h) (by omega) (by omega) (by omega) (by omega)
  have D1 := data_is (F := F) (lay := lay) (fac := fac) (lev := lev) ho (w := w) (h := h) (by omega) (by omega) (by omega) (by omega) (by omega) (by omega) (by omega) (by omega) (D := D) (by omega) (by omega) P (by omega)
  obtain ⟨_, S2⟩ := Sizes_is (F := F) ho (w := w) (h := h) (lev := lev) (by omega) (by omega) (by omega) (by omega) (by omega) (by omega) (by omega)
  rw [D1, S2, contains_is F hP hP1 (by omega)]
  simp only [obd]
  constructor
  · cases data17 F f w h lay fac lev D
    · rfl
    · cases P.any odd17 <;> rfl
  · unfold data17
    by_cases s : (sizes17 F f w h lev).2 = 0
    · have hS := sizes17_len s
      have e1 : ((sizes17 F f w h lev).2 != (0 : Int)) = false := by simp [s]
      rw [e1, cond_false, decide_eq_true s, Bool.true_and]
      generalize (sizes17 F f w h lev).1 = S at *
      have hr := rdata0_run F f (w : Int) (h : Int) (lay := lay) (fac := fac) (lev := lev) P (D := D) (S := S) (by omega) (by omega) hS (by omega) (by omega) (by omega) (by omega) (by omega) (by omega) F 0 0 (by omega) (by omega) (by omega) (Nat.zero_mod _) (by omega)
      rw [Nat.sub_zero, Nat.zero_add, show ((0 : Nat) : Int) = 0 from rfl, ← Nat.mul_assoc] at hr
      rw [hr]
      have pr := pairs_run F f (w : Int) (h : Int) (lay : Int) (fac : Int) (lev : Int) D hP (by omega) F 0 (by omega) (by omega)
      rw [List.drop_zero, show ((0 : Nat) : Int) = 0 from rfl] at pr
      by_cases d : D.length = lay * fac * lev
      · rw [decide_eq_true d, Bool.true_and, ← d]
        cases allB (okD D S lev) 0 D.length
        · rfl
        · rw [if_pos rfl, obd]
          dsimp only
          have e2 : (((D.length : Nat) : Int) != ((D.length : Nat) : Int)) = false := by simp
          rw [e2, cond_false, pr]
          cases P.any odd17 <;> rfl
      · rw [decide_eq_false d, Bool.false_and]
        cases hq : allB (okD D S lev) 0 (lay * fac * lev)
        · rfl
        · rw [if_pos rfl, obd]
          dsimp only
          rw [bneT (show ((lay * fac * lev : Nat) : Int) ≠ ((D.length : Nat) : Int) by omega)]
          rfl
    · rw [bneT s, decide_eq_false s, Bool.false_and]
      rfl
end Go.AE.Gn
set_option linter.unusedVariables false
set_option linter.unusedSimpArgs false
namespace Go.AE.Gn
open Go Go.AE
theorem light0_run (F : Nat) (x0 x1 x2 x3 x4 x5 : Int) (D : List (List Int)) (x7 : List (List Int × List Int)) : ∀ (k i : Nat) (s : Int), i ≤ 400 → 400 - i < k →
    ∃ s' : Int, ref17_Light_l0 F k x0 x1 x2 x3 x4 x5 D x7 s (i : Int) = some (x0, (x1, (x2, (x3, (x4, (x5, (D, (x7, (s', ())))))))))
  | 0, i, s, _, hk => by omega
  | k + 1, i, s, hi, hk => by
    unfold ref17_Light_l0 ref17_Light_l0S
    dsimp only
    by_cases c : i < D.length
    · by_cases c2 : i < 400
      · obtain ⟨s', ih⟩ := light0_run F x0 x1 x2 x3 x4 x5 D x7 k (i + 1) (IntKind.wrap .i64 ((IntKind.wrap .i64 (s + (20 : Int))) + (((List.length (List.getD D (Int.toNat (i : Int)) [])) : Nat) : Int))) (by omega) (by omega)
        refine ⟨s', ?_⟩
        rw [decide_eq_true (show (i : Int) < ((D.length : Nat) : Int) by omega), cond_true, decide_eq_true (show (i : Int) < 400 by omega), cond_true, decide_eq_true (show (0 : Int) ≤ (i : Int) by omega), Bool.and_self, cond_true, inc64 (by omega), ih]
      · refine ⟨s, ?_⟩
        rw [decide_eq_true (show (i : Int) < ((D.length : Nat) : Int) by omega), cond_true, decide_eq_false (show ¬ (i : Int) < 400 by omega), cond_false]
    · refine ⟨s, ?_⟩
      rw [decide_eq_false (show ¬ (i : Int) < ((D.length : Nat) : Int) by omega), cond_false]
theorem light2_run (F : Nat) (x0 x1 x2 x3 x4 x5 : Int) (x6 : List (List Int)) (P : List (List Int × List Int)) : ∀ (k i : Nat) (s : Int), i ≤ 400 → 400 - i < k →
    ∃ s' : Int, ref17_Light_l2 F k x0 x1 x2 x3 x4 x5 x6 P s (i : Int) = some (x0, (x1, (x2, (x3, (x4, (x5, (x6, (P, (s', ())))))))))
  | 0, i, s, _, hk => by omega
  | k + 1, i, s, hi, hk => by
    unfold ref17_Light_l2 ref17_Light_l2S
    dsimp only
    by_cases c : i < P.length
    · by_cases c2 : i < 400
      · obtain ⟨s', ih⟩ := light2_run F x0 x1 x2 x3 x4 x5 x6 P k (i + 1) (IntKind.wrap .i64 ((IntKind.wrap .i64 ((IntKind.wrap .i64 (s + (20 : Int))) + (((List.length (List.getD P (Int.toNat (i : Int)) ([], [])).1) : Nat) : Int))) + (((List.length (List.getD P (Int.toNat (i : Int)) ([], [])).2) : Nat) : Int))) (by omega) (by omega)
        refine ⟨s', ?_⟩
        rw [decide_eq_true (show (i : Int) < ((P.length : Nat) : Int) by omega), cond_true, decide_eq_true (show (i : Int) < 400 by omega), cond_true, decide_eq_true (show (0 : Int) ≤ (i : Int) by omega), Bool.and_self, cond_true, cond_true, inc64 (by omega), ih]
      · refine ⟨s, ?_⟩
        rw [decide_eq_true (show (i : Int) < ((P.length : Nat) : Int) by omega), cond_true, decide_eq_false (show ¬ (i : Int) < 400 by omega), cond_false]
    · refine ⟨s, ?_⟩
      rw [decide_eq_false (show ¬ (i : Int) < ((P.length : Nat) : Int) by omega), cond_false]
theorem Light_is {F : Nat} (hF : 402 ≤ F) (f w h lay fac lev : Int) (D : List (List Int)) (P : List (List Int × List Int)) :
    ∃ b, ref17_Light F (f, (w, (h, (lay, (fac, (lev, (D, (P, ())))))))) = some (b, ()) ∧ (b = true → D.length ≤ 300 ∧ P.length ≤ 100) := by
  obtain ⟨s, h0⟩ := light0_run F f w h lay fac lev D P F 0 0 (by omega) (by omega)
  obtain ⟨s', h2⟩ := light2_run F f w h lay fac lev D P F 0 s (by omega) (by omega)
  rw [show ((0 : Nat) : Int) = 0 from rfl] at h0 h2
  unfold ref17_Light
  dsimp only
  rw [h0, obd]
  dsimp only
  rw [h2, obd]
  dsimp only
  by_cases c : D.length ≤ 300
  · rw [decide_eq_true (show ((D.length : Nat) : Int) ≤ 300 by omega), cond_true]
    by_cases c2 : P.length ≤ 100
    · rw [decide_eq_true (show ((P.length : Nat) : Int) ≤ 100 by omega), cond_true]
      exact ⟨_, rfl, fun _ => ⟨c, c2⟩⟩
    · rw [decide_eq_false (show ¬ ((P.length : Nat) : Int) ≤ 100 by omega), cond_false]
      exact ⟨_, rfl, fun q => nomatch q⟩
  · rw [decide_eq_false (show ¬ ((D.length : Nat) : Int) ≤ 300 by omega), cond_false]
    exact ⟨_, rfl, fun q => nomatch q⟩
theorem fair_is (F : Nat) (f w h lay fac lev : Int) (D : List (List Int)) (P : List (List Int × List Int)) :
    ∃ b, law17_fair F (f, (w, (h, (lay, (fac, (lev, (D, (P, ())))))))) = some (b, ()) ∧ (b = true → w ≤ 1073741824 ∧ h ≤ 1073741824 ∧ lay ≤ 1073741824 ∧ fac ≤ 1073741824 ∧ lev ≤ 1073741824) := by
  unfold law17_fair
  dsimp only
  by_cases c1 : w ≤ 1073741824
  rotate_left
  · rw [decide_eq_false c1, cond_false]
    exact ⟨_, rfl, fun q => nomatch q⟩
  rw [decide_eq_true c1, cond_true]
  by_cases c2 : h ≤ 1073741824
  rotate_left
  · rw [decide_eq_false c2, cond_false]
    exact ⟨_, rfl, fun q => nomatch q⟩
  rw [decide_eq_true c2, cond_true]
  by_cases c3 : lev ≤ 1073741824
  rotate_left
  · rw [decide_eq_false c3, cond_false]
    exact ⟨_, rfl, fun q => nomatch q⟩
  rw [decide_eq_true c3, cond_true]
  by_cases c4 : lay ≤ 1073741824
  rotate_left
  · rw [decide_eq_false c4, cond_false]
    exact ⟨_, rfl, fun q => nomatch q⟩
  rw [decide_eq_true c4, cond_true]
  exact ⟨_, rfl, fun q => ⟨c1, c2, c4, of_decide_eq_true q, c3⟩⟩
end Go.AE.Gn
set_option linter.unusedVariables false
set_option linter.unusedSimpArgs false
namespace Go.AE.Gn
open Go Go.AE
theorem awake17 (G : Nat) : law17_awake (G + 3000) = some (true, ()) := by kernel_rfl
theorem bound_len {α : Type} (f : α → Nat) : ∀ l : List α, ∃ n, ∀ x ∈ l, f x < n
  | [] => ⟨0, fun x hx => nomatch hx⟩
  | a :: r => by
    obtain ⟨n, h⟩ := bound_len f r
    refine ⟨n + f a + 1, fun x hx => ?_⟩
    rcases List.mem_cons.1 hx with rfl | hx
    · omega
    · have := h x hx
      omega
abbrev texC : List CTy := [.int .i64, .int .i64, .int .i64, .int .i64, .int .i64, .int .i64, .dsl (.row .u8 1), .dsl (.pair)]
abbrev limC : List CTy := [.int .i64, .int .i64, .int .i64]
theorem len_of_has {n : Nat} (h : IntKind.i64.has (n : Int)) : n ≤ 9223372036854775807 := by
  rw [has_iff] at h
  simp only [loB, hiB] at h
  omega
theorem ck17_ok {F : Nat} {f w h lay fac lev : Int} {D : List (List Int)} {P : List (List Int × List Int)} {sd la tx : Int} (e : ck17 F f w h lay fac lev D P sd la tx = 0) :
    hd17 f w h lay fac lev sd la tx = 0 ∧ data17 F f w.toNat h.toNat lay.toNat fac.toNat lev.toNat D = true ∧ P.any odd17 = false := by
  unfold ck17 at e
  by_cases c : hd17 f w h lay fac lev sd la tx = 0
  · rw [if_neg (fun q => q c)] at e
    refine ⟨c, ?_⟩
    cases d : data17 F f w.toNat h.toNat lay.toNat fac.toNat lev.toNat D
    · rw [d, cond_false] at e
      exact absurd e (by decide)
    · rw [d, cond_true] at e
      cases d2 : P.any odd17
      · exact ⟨rfl, rfl⟩
      · rw [d2, cond_true] at e
        exact absurd e (by decide)
  · rw [if_pos c] at e
    exact absurd e c
theorem ck17_of {F : Nat} {f w h lay fac lev : Int} {D : List (List Int)} {P : List (List Int × List Int)} {sd la tx : Int} (e1 : data17 F f w.toNat h.toNat lay.toNat fac.toNat lev.toNat D = true) (e2 : P.any odd17 = false) :
    ck17 F f w h lay fac lev D P sd la tx = hd17 f w h lay fac lev sd la tx := by
  unfold ck17
  rw [e1, e2]
  by_cases c : hd17 f w h lay fac lev sd la tx = 0
  · rw [if_neg (fun q => q c), c]
    rfl
  · rw [if_pos c]
theorem no6 {sd la tx w h lay a b : Int} (h1 : w ≤ sd) (h2 : h ≤ sd) (h3 : lay ≤ la) (h4 : b = 0) (h5 : a ≤ tx) : ¬ (sd < w ∨ sd < h ∨ la < lay ∨ b ≠ 0 ∨ tx < a) := by omega
theorem wsub1 {a : Int} (h : 0 ≤ a) (h2 : a ≤ 2147483647) : IntKind.wrap .i64 (a - 1) = a - 1 := w64 (by omega) (by omega)
theorem sub1 (a : Int) : a - 1 < a := by omega
theorem law17_LayoutLimits_true (a0 : DC texC) (a1 a2 : DC limC) (f0 : wfD texC a0) (f1 : wfD limC a1) (f2 : wfD limC a2) : ∃ F, law17_LayoutLimits F a0 a1 a2 = some (true, ()) := by
  obtain ⟨x1, x2, x3, x4, x5, x6, D, P, _⟩ := a0
  obtain ⟨sd, la, tx, _⟩ := a1
  obtain ⟨sd', la', tx', _⟩ := a2
  obtain ⟨_, _, _, _, _, _, ⟨wl, wD⟩, ⟨wl2, wP⟩, _⟩ := f0
  obtain ⟨n2, hn2⟩ := bound_len (fun p : List Int × List Int => p.1.length) (P : List (List Int × List Int))
  refine ⟨n2 + 3000, ?_⟩
  have aw := awake17 n2
  generalize hF : n2 + 3000 = F at *
  unfold law17_LayoutLimits
  dsimp only
  obtain ⟨b1, L1, M1⟩ := Light_is (F := F) (by omega) x1 x2 x3 x4 x5 x6 D P
  obtain ⟨b3, R1, N1⟩ := fair_is F x1 x2 x3 x4 x5 x6 D P
  rw [aw, L1, R1]
  simp only [obd]
  cases b1
  · rfl
  cases b3
  · rfl
  obtain ⟨m1, m2⟩ := M1 rfl
  obtain ⟨q1, q2, q3, q4, q5⟩ := N1 rfl
  simp only [Bool.not_true, cond_false]
  have hP : Pl F P := fun p hp => ⟨by have := hn2 p hp; omega, len_of_has (wP p hp).1.2⟩
  obtain ⟨T1, _⟩ := Texels_is (F := F) x1 (w := x2) (h := x3) (lay := x4) (fac := x5) (lev := x6) (by omega) (by omega) (by omega) D P (by omega)
  have C1 := fun sd la tx => (Check_is (F := F) (f := x1) (w := x2) (h := x3) (lay := x4) (fac := x5) (lev := x6) (by omega) (by omega) (by omega) (D := D) (P := P) sd la tx (by omega) (by omega) hP (by omega) (by omega) (by omega)).1
  rw [C1, obd]
  by_cases c : ck17 F x1 x2 x3 x4 x5 x6 D P sd la tx = 0
  rotate_left
  · rw [bneT c]
    rfl
  have ee : ∀ x y : Int, x = y → (x != y) = false := fun x y q => by simp [q]
  rw [ee _ _ c, cond_false, T1, obd]
  obtain ⟨k1, k2, k3⟩ := ck17_ok c
  obtain ⟨g1, g2, g3, g4, g5, g6, g7, g8, g9, g10, g11, g12, g13⟩ := hd17_ok k1
  have hh := fun sd la tx => hd17_of (sd := sd) (la := la) (tx := tx) g1 g2 g3 g4 g5 g6 g7 g8
  have t0 : 0 ≤ (tx17 x2 x3 x4 x5 x6).1 ∧ (tx17 x2 x3 x4 x5 x6).1 ≤ 2147483647 := by
    unfold tx17
    rw [if_neg (by omega)]
    unfold txN
    split
    · rename_i hq
      dsimp only
      omega
    · exact ⟨by decide, by decide⟩
  dsimp only
  rw [ee _ _ g12, cond_false, decide_eq_false (Int.not_lt.2 g13), cond_false]
  rw [C1, obd, ck17_of k2 k3, hh, if_neg (no6 g9 g10 g11 g12 (Int.le_refl _))]
  dsimp only
  rw [ee _ _ rfl, cond_false]
  rw [C1, obd, ck17_of k2 k3, hh, wsub1 t0.1 t0.2, if_pos (.inr (.inr (.inr (.inr (sub1 _)))))]
  dsimp only
  rw [ee _ _ rfl, cond_false]
  by_cases e1 : sd' < sd
  · rw [decide_eq_true e1]; rfl
  by_cases e2 : la' < la
  · rw [decide_eq_false e1, decide_eq_true e2]; rfl
  by_cases e3 : tx' < tx
  · rw [decide_eq_false e1, decide_eq_false e2, decide_eq_true e3]; rfl
  rw [decide_eq_false e1, decide_eq_false e2, decide_eq_false e3]
  simp only [cond_false, cond_true]
  rw [C1, obd, ck17_of k2 k3, hh, if_neg (no6 (Int.le_trans g9 (Int.not_lt.1 e1)) (Int.le_trans g10 (Int.not_lt.1 e1)) (Int.le_trans g11 (Int.not_lt.1 e2)) g12 (Int.le_trans g13 (Int.not_lt.1 e3)))]
  rfl
end Go.AE.Gn

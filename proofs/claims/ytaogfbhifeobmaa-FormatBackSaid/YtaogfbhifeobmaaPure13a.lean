/- Layer 13: format. The numbers of formats: the law is true of what the functions come to. -/
import Derived.Test.YtaogfbhifeobmaaE13defs
import Derived.Test.YtaogfbhifeobmaaPureLib
set_option linter.unusedSimpArgs false
set_option linter.unusedVariables false
namespace Go.AE.Gn
open Go Go.AE

theorem awake13 : law13_awake 600 = some (true, ()) := by kernel_rfl

theorem condL {c : Bool} {X R : Option (List Int ⊕ List Int)} {l : List Int} {p : Prop} (hX : X = some (.inl l) → p) (hR : R = some (.inl l) → p) (h : cond c X R = some (.inl l)) : p := by
  cases c
  · exact hR h
  · exact hX h
theorem codeF1_inl {x y : Int} {l : List Int} : codeF1 x y = some (.inl l) → l = [0, 1] ∨ l = [0, 5] := by
  have e1 : some (Sum.inl (β := List Int) [(0 : Int), 1]) = some (.inl l) → l = [0, 1] ∨ l = [0, 5] := fun h => by cases h; exact .inl rfl
  have X : (cond (y != 1) (cond (y != 2) (some (.inl [0, 1])) (some (.inr [x, y]))) (some (.inr [x, y])) : Option (List Int ⊕ List Int)) = some (.inl l) → l = [0, 1] ∨ l = [0, 5] := condL (condL e1 (fun h => by cases h)) (fun h => by cases h)
  exact condL X (condL X (condL X (condL X (condL X (condL X (condL X (condL X (condL X (condL X (condL X (condL X fun h => by cases h; exact .inr rfl)))))))))))
theorem condN {c : Bool} {X R : Option (List Int ⊕ List Int)} (hX : X ≠ none) (hR : R ≠ none) : cond c X R ≠ none := by
  cases c
  · exact hR
  · exact hX
theorem codeF1_some (x y : Int) : codeF1 x y ≠ none := by
  have X : (cond (y != 1) (cond (y != 2) (some (.inl [0, 1])) (some (.inr [x, y]))) (some (.inr [x, y])) : Option (List Int ⊕ List Int)) ≠ none := condN (condN (by simp) (by simp)) (by simp)
  exact condN X (condN X (condN X (condN X (condN X (condN X (condN X (condN X (condN X (condN X (condN X (condN X (by simp))))))))))))

theorem codeL_some {x y v : Int} (h : codeL x y = some v) : ∃ e ∈ codesT, e.1 = x ∧ e.2.1 = y ∧ e.2.2 = v := by
  unfold codeL at h
  rw [Option.map_eq_some_iff] at h
  obtain ⟨e, he, rfl⟩ := h
  have h1 := List.find?_some he
  simp only [Bool.and_eq_true, beq_iff_eq] at h1
  exact ⟨e, List.mem_of_find?_eq_some he, h1.1, h1.2, rfl⟩

theorem codeF_cases (x y : Int) : (∃ e, (e = 1 ∨ e = 5 ∨ e = 9) ∧ codeF x y = some (0, e, ())) ∨ ∃ q ∈ codesT, q.1 = x ∧ q.2.1 = y ∧ codeF x y = some (q.2.2, 0, ()) := by
  cases hF : codeF1 x y with
  | none => exact absurd hF (codeF1_some x y)
  | some r =>
    cases r with
    | inl l =>
      rcases codeF1_inl hF with rfl | rfl
      · exact .inl ⟨1, .inl rfl, by simp only [codeF, hF]; rfl⟩
      · exact .inl ⟨5, .inr (.inl rfl), by simp only [codeF, hF]; rfl⟩
    | inr l =>
      cases hL : codeL x y with
      | none => exact .inl ⟨9, .inr (.inr rfl), by simp only [codeF, hF, hL]; rfl⟩
      | some v =>
        obtain ⟨q, h1, h2, h3, rfl⟩ := codeL_some hL
        exact .inr ⟨q, h1, h2, h3, by simp only [codeF, hF, hL]; rfl⟩

theorem back13_closed : codesT.all (fun q => formatF q.2.2 q.2.1 == some (q.1, 0, ()) && decide (0 < q.2.2)) = true := by decide +kernel

theorem law13_FormatBack_true (a0 a1 : Int) (h0 : IntKind.i64.has a0) (h1 : IntKind.i64.has a1) : ∃ F, law13_FormatBack F a0 a1 = some (true, ()) := by
  refine ⟨600, ?_⟩
  unfold law13_FormatBack
  rw [awake13]
  unfold format_Code format_Format
  rcases codeF_cases a0 a1 with ⟨e, he, h⟩ | ⟨q, hq, rfl, rfl, h⟩
  · rw [h]
    rcases he with rfl | rfl | rfl <;> rfl
  · rw [h]
    have hb := List.all_eq_true.1 back13_closed q hq
    simp only [Bool.and_eq_true, beq_iff_eq, decide_eq_true_eq] at hb
    simp only [Option.bind_some, bne_self_eq_false, cond_false, hb.1, cond_true, beq_self_eq_true, hb.2, decide_true]

end Go.AE.Gn

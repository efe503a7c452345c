/- The framework AE, part 3: cells of aggregates; abstract memory read and written. -/
import Derived.Test.YtaogfbhifeobmaaFw2
import Derived.Laws.CopyRow
set_option linter.unusedVariables false
set_option linter.unusedSimpArgs false
namespace Go.AE
open Go Go.RowKit

def width : AV → Nat
  | .is _ n _ => n
  | _ => 1

theorem RelX_length {M : List Place} {x : AV} {a : List Value} (h : RelX M x a) : a.length = width x := by
  cases x <;> simp only [RelX] at h
  case undef => obtain ⟨v, rfl⟩ := h; rfl
  case int => rw [h.1]; rfl
  case bool => rw [h.1]; rfl
  case nilp | nils | nilf | niface => rw [h]; rfl
  case str => rw [h.1]; rfl
  case ptr => obtain ⟨pl, _, _, e, _⟩ := h; rw [e]; rfl
  case rptr => obtain ⟨pl, _, _, e, _⟩ := h; rw [e]; rfl
  case sl => obtain ⟨pl, A, cap, _, e, _⟩ := h; rw [e]; rfl
  case fn => obtain ⟨_, _, e, _⟩ := h; rw [e]; rfl
  case agg => obtain ⟨_, e, _⟩ := h; rw [e]; rfl
  case is => rw [h.2.1]; simp [h.1, width]
  case tup => obtain ⟨_, e, _⟩ := h; rw [e]; rfl
  case iface | fsl | dsl => obtain ⟨_, e, _⟩ := h; rw [e]; rfl
  case fref | dref => obtain ⟨_, _, _, _, _, e, _⟩ := h; rw [e]; rfl
  case mapc => obtain ⟨_, _, _, e, _⟩ := h; rw [e]; rfl
  case mp | itr => rw [h]; rfl

theorem RelC_nil {M : List Place} {vs : List Value} : RelC M [] vs ↔ vs = [] := by simp only [RelC]
theorem RelC_cons {M : List Place} {x : AV} {xs : List AV} {vs : List Value} : RelC M (x :: xs) vs ↔ ∃ a r, vs = a ++ r ∧ RelX M x a ∧ RelC M xs r := by simp only [RelC]
theorem RelL_nil {M : List Place} {vs : List Value} : RelL M [] vs ↔ vs = [] := by simp only [RelL]
theorem RelL_cons {M : List Place} {x : AV} {xs : List AV} {vs : List Value} : RelL M (x :: xs) vs ↔ ∃ v r, vs = v :: r ∧ RelX M x [v] ∧ RelL M xs r := by simp only [RelL]
theorem RelX_is {M : List Place} {k : IntKind} {n : Nat} {l : List Int} {a : List Value} : RelX M (.is k n l) a ↔ l.length = n ∧ a = l.map (.int k) ∧ ∀ x ∈ l, k.has x := by simp only [RelX]
theorem RelX_int {M : List Place} {k : IntKind} {lit : Option Int} {x : Int} {a : List Value} : RelX M (.int k lit x) a ↔ a = [.int k x] ∧ k.has x ∧ (∀ m, lit = some m → x = m) := by simp only [RelX]
theorem RelX_agg {M : List Place} {cs : List AV} {a : List Value} : RelX M (.agg cs) a ↔ ∃ vs : Array Value, a = [.agg vs] ∧ RelC M cs vs.toList := by simp only [RelX]

theorem RelC_single {M : List Place} {x : AV} {vs : List Value} : RelC M [x] vs ↔ RelX M x vs := by
  rw [RelC_cons]
  constructor
  · rintro ⟨a, r, e, h, h2⟩
    rw [RelC_nil] at h2
    subst h2
    simpa [e] using h
  · intro h
    exact ⟨vs, [], by simp, h, RelC_nil.2 rfl⟩

theorem has_getD {k : IntKind} {l : List Int} (h : ∀ x ∈ l, k.has x) (i : Nat) (hi : i < l.length) : k.has (l.getD i 0) := by
  rw [List.getD_eq_getElem?_getD, List.getElem?_eq_getElem hi]
  exact h _ (List.getElem_mem hi)

theorem map_getD {k : IntKind} {l : List Int} {i : Nat} (hi : i < l.length) : (l.map (Value.int k))[i]? = some (.int k (l.getD i 0)) := by
  simp [List.getD_eq_getElem?_getD, hi]

/-- The cell at a place. -/
def cellAt : List AV → Nat → Option AV
  | [], _ => none
  | .is k n l :: r, s => if s < n then some (.int k none (l.getD s 0)) else cellAt r (s - n)
  | x :: _, 0 => some x
  | _ :: r, s + 1 => cellAt r s

theorem cellAt_rel {M : List Place} : ∀ {cs : List AV} {vs : List Value} {s : Nat} {x : AV}, RelC M cs vs → cellAt cs s = some x → ∃ v, vs[s]? = some v ∧ RelV M x v
  | [], _, _, _, _, h => by simp [cellAt] at h
  | c :: r, vs, s, x, hc, h => by
    obtain ⟨a, t, rfl, hx, hr⟩ := RelC_cons.1 hc
    have hl := RelX_length hx
    by_cases his : ∃ k n l, c = .is k n l
    · obtain ⟨k, n, l, rfl⟩ := his
      obtain ⟨h1, h2, h3⟩ := RelX_is.1 hx
      simp only [width] at hl
      simp only [cellAt] at h
      split at h
      · rename_i hs
        cases h
        refine ⟨.int k (l.getD s 0), ?_, ?_⟩
        · rw [List.getElem?_append_left (by omega), h2, map_getD (by omega)]
        · exact RelX_int.2 ⟨rfl, has_getD h3 s (by omega), fun m hm => by cases hm⟩
      · rename_i hs
        obtain ⟨v, hv, hxv⟩ := cellAt_rel hr h
        exact ⟨v, by rw [List.getElem?_append_right (by omega), hl]; exact hv, hxv⟩
    · have hw : width c = 1 := by
        cases c <;> first | rfl | (exfalso; exact his ⟨_, _, _, rfl⟩)
      rw [hw] at hl
      obtain ⟨v, rfl⟩ := List.length_eq_one_iff.1 hl
      cases s with
      | zero =>
        have : cellAt (c :: r) 0 = some c := by
          cases c <;> first | rfl | (exfalso; exact his ⟨_, _, _, rfl⟩)
        rw [this] at h
        cases h
        exact ⟨v, rfl, hx⟩
      | succ s =>
        have : cellAt (c :: r) (s + 1) = cellAt r s := by
          cases c <;> first | rfl | (exfalso; exact his ⟨_, _, _, rfl⟩)
        rw [this] at h
        obtain ⟨u, hu, hxu⟩ := cellAt_rel hr h
        exact ⟨u, by simpa using hu, hxu⟩

/-- t cells from s on. -/
def subC : List AV → Nat → Nat → Option (List AV)
  | _, _, 0 => some []
  | [], _, _ + 1 => none
  | .is k n l :: r, s, t + 1 =>
    if n ≤ s then subC r (s - n) (t + 1)
    else if s + (t + 1) ≤ n then some [.is k (t + 1) (if s = 0 ∧ t + 1 = n then l else (l.drop s).take (t + 1))]
    else (subC r 0 (t + 1 - (n - s))).map (.is k (n - s) (l.drop s) :: ·)
  | x :: r, 0, t + 1 => (subC r 0 t).map (x :: ·)
  | _ :: r, s + 1, t + 1 => subC r s (t + 1)

theorem subC_rel {M : List Place} : ∀ {cs : List AV} {vs : List Value} {s t : Nat} {r : List AV}, RelC M cs vs → subC cs s t = some r → RelC M r ((vs.drop s).take t) ∧ s + t ≤ vs.length ∨ t = 0 ∧ r = []
  | cs, vs, s, 0, r, _, h => by
    right
    unfold subC at h
    cases h
    exact ⟨rfl, rfl⟩
  | [], _, _, _ + 1, _, _, h => by simp [subC] at h
  | c :: cs, vs, s, t + 1, r, hc, h => by
    left
    obtain ⟨a, u, rfl, hx, hr⟩ := RelC_cons.1 hc
    have hl := RelX_length hx
    by_cases his : ∃ k n l, c = .is k n l
    · obtain ⟨k, n, l, rfl⟩ := his
      obtain ⟨h1, h2, h3⟩ := RelX_is.1 hx
      simp only [width] at hl
      simp only [subC] at h
      split at h
      · rename_i hs
        rcases subC_rel hr h with ⟨g1, g2⟩ | ⟨g1, _⟩
        · refine ⟨?_, by simp; omega⟩
          rw [List.drop_append, List.drop_of_length_le (by omega), List.nil_append, hl]
          exact g1
        · omega
      · rename_i hs
        split at h
        · rename_i hs2
          cases h
          refine ⟨?_, by simp; omega⟩
          rw [RelC_single, RelX_is]
          have e : ((a ++ u).drop s).take (t + 1) = (a.drop s).take (t + 1) := by
            rw [List.drop_append, List.take_append, show t + 1 - (List.drop s a).length = 0 by simp; omega]
            simp
          rw [e, h2]
          split
          · rename_i hz
            obtain ⟨hz1, hz2⟩ := hz
            subst hz1
            refine ⟨by omega, ?_, h3⟩
            rw [List.drop_zero, List.take_of_length_le (by simp; omega)]
          · refine ⟨by simp; omega, by simp [List.map_take, List.map_drop], fun x hx => h3 x (List.mem_of_mem_drop (List.mem_of_mem_take hx))⟩
        · rename_i hs2
          cases hq : subC cs 0 (t + 1 - (n - s)) with
          | none => rw [hq] at h; simp at h
          | some r' =>
            rw [hq] at h
            simp only [Option.map_some, Option.some.injEq] at h
            subst h
            rcases subC_rel hr hq with ⟨g1, g2⟩ | ⟨g1, _⟩
            · refine ⟨?_, by simp; omega⟩
              rw [RelC_cons]
              refine ⟨(l.drop s).map (.int k), u.take (t + 1 - (n - s)), ?_, ?_, by simpa using g1⟩
              · rw [List.drop_append, List.take_append, h2, show s - (List.map (Value.int k) l).length = 0 by simp; omega, List.drop_zero, List.map_drop, List.take_of_length_le (by simp; omega)]
                simp [h1]
              · rw [RelX_is]
                exact ⟨by simp; omega, rfl, fun x hx => h3 x (List.mem_of_mem_drop hx)⟩
            · omega
    · have hw : width c = 1 := by
        cases c <;> first | rfl | (exfalso; exact his ⟨_, _, _, rfl⟩)
      rw [hw] at hl
      obtain ⟨v, rfl⟩ := List.length_eq_one_iff.1 hl
      cases s with
      | zero =>
        have : subC (c :: cs) 0 (t + 1) = (subC cs 0 t).map (c :: ·) := by
          cases c <;> first | rfl | (exfalso; exact his ⟨_, _, _, rfl⟩)
        rw [this] at h
        cases hq : subC cs 0 t with
        | none => rw [hq] at h; simp at h
        | some r' =>
          rw [hq] at h
          simp only [Option.map_some, Option.some.injEq] at h
          subst h
          rcases subC_rel hr hq with ⟨g1, g2⟩ | ⟨g1, g2⟩
          · refine ⟨?_, by simp; omega⟩
            rw [RelC_cons]
            exact ⟨[v], u.take t, by simp, hx, by simpa using g1⟩
          · subst g1; subst g2
            refine ⟨?_, by simp⟩
            rw [RelC_single]
            simpa using hx
      | succ s =>
        have : subC (c :: cs) (s + 1) (t + 1) = subC cs s (t + 1) := by
          cases c <;> first | rfl | (exfalso; exact his ⟨_, _, _, rfl⟩)
        rw [this] at h
        rcases subC_rel hr h with ⟨g1, g2⟩ | ⟨g1, _⟩
        · exact ⟨by simpa using g1, by simp; omega⟩
        · omega

/-- The integers among which lie the 'span' cells from p on: their kind, where p is among them, and they. -/
def dynAt : List AV → Nat → Nat → Option (IntKind × Nat × List Int)
  | [], _, _ => none
  | .is k n l :: r, p, span => if p + span ≤ n then some (k, p, l) else if n ≤ p then dynAt r (p - n) span else none
  | _ :: _, 0, _ => none
  | _ :: r, p + 1, span => dynAt r p span

theorem dynAt_rel {M : List Place} : ∀ {cs : List AV} {vs : List Value} {p span : Nat} {k : IntKind} {q : Nat} {l : List Int}, RelC M cs vs → dynAt cs p span = some (k, q, l) →
    q + span ≤ l.length ∧ (∀ x ∈ l, k.has x) ∧ ∃ d, p = d + q ∧ ∀ j, j < l.length → vs[d + j]? = some (.int k (l.getD j 0))
  | [], _, _, _, _, _, _, _, h => by simp [dynAt] at h
  | c :: r, vs, p, span, k, q, l, hc, h => by
    obtain ⟨a, t, rfl, hx, hr⟩ := RelC_cons.1 hc
    have hl := RelX_length hx
    by_cases his : ∃ k n l, c = .is k n l
    · obtain ⟨k', n, l', rfl⟩ := his
      obtain ⟨h1, h2, h3⟩ := RelX_is.1 hx
      simp only [width] at hl
      simp only [dynAt] at h
      split at h
      · rename_i hs
        cases h
        refine ⟨by omega, h3, 0, by omega, fun j hj => ?_⟩
        rw [Nat.zero_add, List.getElem?_append_left (by omega), h2, map_getD hj]
      · split at h
        · rename_i hs1 hs2
          obtain ⟨g1, g2, d, g3, g4⟩ := dynAt_rel hr h
          refine ⟨g1, g2, d + n, by omega, fun j hj => ?_⟩
          rw [List.getElem?_append_right (by omega), show d + n + j - a.length = d + j by omega]
          exact g4 j hj
        · cases h
    · have hw : width c = 1 := by
        cases c <;> first | rfl | (exfalso; exact his ⟨_, _, _, rfl⟩)
      rw [hw] at hl
      obtain ⟨v, rfl⟩ := List.length_eq_one_iff.1 hl
      cases p with
      | zero =>
        have : dynAt (c :: r) 0 span = none := by
          cases c <;> first | rfl | (exfalso; exact his ⟨_, _, _, rfl⟩)
        rw [this] at h
        cases h
      | succ p =>
        have : dynAt (c :: r) (p + 1) span = dynAt r p span := by
          cases c <;> first | rfl | (exfalso; exact his ⟨_, _, _, rfl⟩)
        rw [this] at h
        obtain ⟨g1, g2, d, g3, g4⟩ := dynAt_rel hr h
        refine ⟨g1, g2, d + 1, by omega, fun j hj => ?_⟩
        rw [show d + 1 + j = (d + j) + 1 by omega]
        simpa using g4 j hj

def padd : Nat → Nat → Nat
  | 0, d => d
  | q + 1, d => q + 1 + d
theorem padd_eq (q d : Nat) : padd q d = q + d := by cases q <;> simp [padd]

end Go.AE

/- The framework AE, part 6: cells written; aggregates built; memory made and written. -/
import Derived.Test.YtaogfbhifeobmaaFw5
import Derived.Laws.AppendOwn
set_option linter.unusedVariables false
set_option linter.unusedSimpArgs false
namespace Go.AE
open Go Go.RowKit

/-- One cell, that may be stored. -/
def scal : AV → Bool
  | .undef | .agg _ | .tup _ | .is _ _ _ => false
  | _ => true

theorem scal_one {M : List Place} {x : AV} {a : List Value} (h : scal x = true) (r : RelX M x a) : ∃ v, a = [v] ∧ v.oneCell' = true := by
  cases x <;> simp only [scal, Bool.false_eq_true] at h <;> simp only [RelX] at r
  case int => exact ⟨_, r.1, rfl⟩
  case bool => exact ⟨_, r.1, rfl⟩
  case str => exact ⟨_, r.1, rfl⟩
  case nilp | nils | nilf | niface => exact ⟨_, r, rfl⟩
  case ptr => obtain ⟨_, _, _, e, _⟩ := r; exact ⟨_, e, rfl⟩
  case rptr => obtain ⟨_, _, _, e, _⟩ := r; exact ⟨_, e, rfl⟩
  case sl => obtain ⟨_, _, _, _, e, _⟩ := r; exact ⟨_, e, rfl⟩
  case fn => obtain ⟨_, _, e, _⟩ := r; exact ⟨_, e, rfl⟩
  case iface => obtain ⟨_, e, _⟩ := r; exact ⟨_, e, rfl⟩
  case fsl => obtain ⟨_, e, _, _, _, rfl, _⟩ := r; exact ⟨_, e, rfl⟩
  case dsl => obtain ⟨_, e, _, _, _, rfl, _⟩ := r; exact ⟨_, e, rfl⟩
  case fref | dref => obtain ⟨_, _, _, _, _, e, _⟩ := r; exact ⟨_, e, rfl⟩
  case mapc => obtain ⟨_, _, _, e, _⟩ := r; exact ⟨_, e, rfl⟩
  case mp | itr => exact ⟨_, r, rfl⟩

/-- One part of some cells. -/
def put1 : List AV → Nat → AV → Option (List AV)
  | [], _, _ => none
  | .is k n l :: r, s, y =>
    if n ≤ s then (put1 r (s - n) y).map (.is k n l :: ·)
    else match y with
      | .int k' _ x => if k' = k then some (.is k n (l.set s x) :: r) else none
      | .is k' m l' => if k' = k ∧ s + m ≤ n then some (.is k n (if s = 0 ∧ m = n then l' else l.take s ++ l' ++ l.drop (s + m)) :: r) else none
      | _ => none
  | _ :: r, 0, y => if scal y then some (y :: r) else none
  | x :: r, s + 1, y => (put1 r s y).map (x :: ·)

theorem set_map {k : IntKind} {l : List Int} {s : Nat} {x : Int} (h : s < l.length) : (l.set s x).map (Value.int k) = (l.map (.int k)).take s ++ [.int k x] ++ (l.map (.int k)).drop (s + 1) := by
  rw [List.set_eq_take_append_cons_drop, if_pos h]
  simp [List.map_take, List.map_drop]

theorem put1_rel {M : List Place} : ∀ {cs : List AV} {vs : List Value} {s : Nat} {y : AV} {a : List Value} {r : List AV}, RelC M cs vs → RelX M y a → put1 cs s y = some r →
    s + a.length ≤ vs.length ∧ RelC M r (vs.take s ++ a ++ vs.drop (s + a.length))
  | [], _, _, _, _, _, _, _, h => by simp [put1] at h
  | c :: cs, vs, s, y, a, r, hc, hy, h => by
    obtain ⟨b, t, rfl, hx, hr⟩ := RelC_cons.1 hc
    have hl := RelX_length hx
    have hya := RelX_length hy
    by_cases his : ∃ k n l, c = .is k n l
    · obtain ⟨k, n, l, rfl⟩ := his
      obtain ⟨h1, h2, h3⟩ := RelX_is.1 hx
      simp only [width] at hl
      simp only [put1] at h
      split at h
      · rename_i hs
        simp only [Option.map_eq_some_iff] at h
        obtain ⟨r', hq, rfl⟩ := h
        obtain ⟨g1, g2⟩ := put1_rel hr hy hq
        refine ⟨by simp; omega, RelC_cons.2 ⟨b, _, ?_, hx, g2⟩⟩
        rw [List.take_append, List.take_of_length_le (show b.length ≤ s by omega), List.drop_append, List.drop_of_length_le (show b.length ≤ s + a.length by omega), List.nil_append, hl,
          show s + a.length - n = s - n + a.length by omega]
        simp
      · rename_i hs
        cases y <;> simp only [reduceCtorEq] at h
        case int k' lit x =>
          obtain ⟨e1, e2, _⟩ := RelX_int.1 hy
          subst e1
          split at h
          · rename_i hk
            subst hk
            cases h
            refine ⟨by simp; omega, RelC_cons.2 ⟨(l.set s x).map (.int k'), t, ?_, ?_, hr⟩⟩
            · rw [set_map (by omega), ← h2, List.take_append_of_le_length (by omega), List.drop_append_of_le_length (by simp; omega)]
              simp
            · refine RelX_is.2 ⟨by simp [h1], rfl, fun z hz => ?_⟩
              rcases List.mem_or_eq_of_mem_set hz with hz | rfl
              · exact h3 z hz
              · exact e2
          · cases h
        case is k' m l' =>
          obtain ⟨f1, f2, f3⟩ := RelX_is.1 hy
          simp only [width] at hya
          split at h
          · rename_i hk
            obtain ⟨rfl, hm⟩ := hk
            cases h
            refine ⟨by simp; omega, RelC_cons.2 ⟨b.take s ++ a ++ b.drop (s + a.length), t, ?_, ?_, hr⟩⟩
            · rw [List.take_append_of_le_length (by omega), List.drop_append_of_le_length (by omega)]
              simp
            · split
              · rename_i hz
                obtain ⟨rfl, rfl⟩ := hz
                rw [List.take_zero, List.drop_of_length_le (by omega)]
                simpa using hy
              · refine RelX_is.2 ⟨by simp; omega, ?_, fun z hz => ?_⟩
                · rw [h2, f2]
                  simp [List.map_take, List.map_drop, f1]
                · simp only [List.mem_append] at hz
                  rcases hz with (hz | hz) | hz
                  · exact h3 z (List.mem_of_mem_take hz)
                  · exact f3 z hz
                  · exact h3 z (List.mem_of_mem_drop hz)
          · cases h
    · have hw : width c = 1 := by
        cases c <;> first | rfl | (exfalso; exact his ⟨_, _, _, rfl⟩)
      rw [hw] at hl
      obtain ⟨v, rfl⟩ := List.length_eq_one_iff.1 hl
      cases s with
      | zero =>
        have : put1 (c :: cs) 0 y = if scal y then some (y :: cs) else none := by
          cases c <;> first | rfl | (exfalso; exact his ⟨_, _, _, rfl⟩)
        rw [this] at h
        split at h
        · rename_i hs
          cases h
          obtain ⟨u, rfl, _⟩ := scal_one hs hy
          exact ⟨by simp, RelC_cons.2 ⟨[u], t, by simp, hy, hr⟩⟩
        · cases h
      | succ s =>
        have : put1 (c :: cs) (s + 1) y = (put1 cs s y).map (c :: ·) := by
          cases c <;> first | rfl | (exfalso; exact his ⟨_, _, _, rfl⟩)
        rw [this] at h
        simp only [Option.map_eq_some_iff] at h
        obtain ⟨r', hq, rfl⟩ := h
        obtain ⟨g1, g2⟩ := put1_rel hr hy hq
        refine ⟨by simp; omega, RelC_cons.2 ⟨[v], _, ?_, hx, g2⟩⟩
        rw [show s + 1 + a.length = s + a.length + 1 by omega]
        simp

/-- Several parts, one behind the other, each as it is. -/
def putL : List AV → Nat → List AV → Option (List AV)
  | cs, _, [] => some cs
  | cs, s, y :: ys => match put1 cs s y with
    | some cs' => putL cs' (s + width y) ys
    | none => none

theorem putL_rel {M : List Place} : ∀ {ys cs : List AV} {vs : List Value} {s : Nat} {a : List Value} {r : List AV}, RelC M cs vs → RelC M ys a → putL cs s ys = some r →
    (s + a.length ≤ vs.length ∨ ys = []) ∧ RelC M r (vs.take s ++ a ++ vs.drop (s + a.length))
  | [], cs, vs, s, a, r, hc, hy, h => by
    simp [putL] at h
    subst h
    rw [RelC_nil] at hy
    subst hy
    simpa using hc
  | y :: ys, cs, vs, s, a, r, hc, hy, h => by
    obtain ⟨b, t, rfl, hx, hr⟩ := RelC_cons.1 hy
    simp only [putL] at h
    split at h
    · rename_i cs' hp
      obtain ⟨g1, g2⟩ := put1_rel hc hx hp
      obtain ⟨f1, f2⟩ := putL_rel g2 hr h
      have hb := RelX_length hx
      rw [← hb] at f1 f2
      have e1 : (List.take s vs ++ b ++ List.drop (s + b.length) vs).length = vs.length := by simp; omega
      rw [e1] at f1
      refine ⟨.inl ?_, ?_⟩
      · rcases f1 with f1 | f1
        · simp; omega
        · subst f1; rw [RelC_nil] at hr; subst hr; simpa using g1
      · have ht : s + b.length + t.length ≤ vs.length := by
          rcases f1 with f1 | f1
          · omega
          · subst f1; rw [RelC_nil] at hr; subst hr; simpa using g1
        have e2 : (List.take s vs ++ b ++ List.drop (s + b.length) vs).take (s + b.length) = List.take s vs ++ b := by
          rw [List.take_append_of_le_length (by simp; omega)]
          exact List.take_of_length_le (by simp; omega)
        have e3 : (List.take s vs ++ b ++ List.drop (s + b.length) vs).drop (s + b.length + t.length) = vs.drop (s + b.length + t.length) := by
          rw [List.drop_append, List.drop_of_length_le (by simp; omega), List.nil_append, List.drop_drop]
          congr 1
          simp
          omega
        rw [e2, e3] at f2
        rw [List.length_append, show s + (b.length + t.length) = s + b.length + t.length by omega]
        simpa using f2
    · cases h

/-- Integers as that many cells. -/
def expandI (k : IntKind) (m : Nat) (l : List Int) : List AV := (List.range m).map fun i => .int k none (l.getD i 0)

theorem relC_ints {M : List Place} {k : IntKind} : ∀ {l : List Int}, (∀ x ∈ l, k.has x) → RelC M (l.map fun x => .int k none x) (l.map (.int k))
  | [], _ => RelC_nil.2 rfl
  | x :: l, h => RelC_cons.2 ⟨[.int k x], l.map (.int k), by simp, RelX_int.2 ⟨rfl, h x (by simp), fun m hm => (by cases hm)⟩, relC_ints fun z hz => h z (by simp [hz])⟩

theorem relC_expandI {M : List Place} {k : IntKind} {m : Nat} {l : List Int} {a : List Value} (h : RelX M (.is k m l) a) : RelC M (expandI k m l) a := by
  obtain ⟨h1, h2, h3⟩ := RelX_is.1 h
  have : expandI k m l = l.map fun x => .int k none x := by
    unfold expandI
    apply List.ext_getElem
    · simp [h1]
    · intro i g1 g2
      simp at g2
      simp [g2]
  rw [this, h2]
  exact relC_ints h3

/-- One part, as it is or cell by cell. -/
def putX (cs : List AV) (s : Nat) (y : AV) : Option (List AV) :=
  match put1 cs s y with
  | some cs' => some cs'
  | none => match y with
    | .is k m l => putL cs s (expandI k m l)
    | _ => none

/-- Several parts, one behind the other. -/
def putC : List AV → Nat → List AV → Option (List AV)
  | cs, _, [] => some cs
  | cs, s, y :: ys => match putX cs s y with
    | some cs' => putC cs' (s + width y) ys
    | none => none

theorem putC1 {M : List Place} {y : AV} {cs : List AV} {vs : List Value} {s : Nat} {b : List Value} {cs' : List AV} (hc : RelC M cs vs) (hx : RelX M y b) (h : putX cs s y = some cs') : (s + b.length ≤ vs.length ∨ b = []) ∧ RelC M cs' (vs.take s ++ b ++ vs.drop (s + b.length)) := by
  unfold putX at h
  split at h
  · rename_i c2 hp
    cases h
    obtain ⟨g1, g2⟩ := put1_rel hc hx hp
    exact ⟨.inl g1, g2⟩
  · split at h
    · rename_i k m l
      obtain ⟨g1, g2⟩ := putL_rel hc (relC_expandI hx) h
      refine ⟨?_, g2⟩
      rcases g1 with g1 | g1
      · exact .inl g1
      · right
        have h1 := relC_expandI hx
        rw [g1, RelC_nil] at h1
        exact h1
    · cases h

theorem putC_rel {M : List Place} : ∀ {ys cs : List AV} {vs : List Value} {s : Nat} {a : List Value} {r : List AV}, RelC M cs vs → RelC M ys a → putC cs s ys = some r →
    (s + a.length ≤ vs.length ∨ a = []) ∧ RelC M r (vs.take s ++ a ++ vs.drop (s + a.length))
  | [], cs, vs, s, a, r, hc, hy, h => by
    simp [putC] at h
    subst h
    rw [RelC_nil] at hy
    subst hy
    simpa using hc
  | y :: ys, cs, vs, s, a, r, hc, hy, h => by
    obtain ⟨b, t, rfl, hx, hr⟩ := RelC_cons.1 hy
    unfold putC at h
    split at h
    · rename_i cs' hp
      obtain ⟨g1, g2⟩ := putC1 hc hx hp
      obtain ⟨f1, f2⟩ := putC_rel g2 hr h
      have hb := RelX_length hx
      rw [← hb] at f1 f2
      by_cases hb0 : b = []
      · subst hb0
        simp only [List.length_nil, Nat.add_zero, List.append_nil, List.take_append_drop, List.nil_append] at f1 f2 ⊢
        exact ⟨f1, f2⟩
      · have g1 : s + b.length ≤ vs.length := by
          rcases g1 with g1 | g1
          · exact g1
          · exact absurd g1 hb0
        have e1 : (List.take s vs ++ b ++ List.drop (s + b.length) vs).length = vs.length := by simp; omega
        rw [e1] at f1
        have ht : s + b.length + t.length ≤ vs.length := by
          rcases f1 with f1 | f1
          · omega
          · subst f1; simpa using g1
        refine ⟨.inl (by simp; omega), ?_⟩
        have e2 : (List.take s vs ++ b ++ List.drop (s + b.length) vs).take (s + b.length) = List.take s vs ++ b := by
          rw [List.take_append_of_le_length (by simp; omega)]
          exact List.take_of_length_le (by simp; omega)
        have e3 : (List.take s vs ++ b ++ List.drop (s + b.length) vs).drop (s + b.length + t.length) = vs.drop (s + b.length + t.length) := by
          rw [List.drop_append, List.drop_of_length_le (by simp; omega), List.nil_append, List.drop_drop]
          congr 1
          simp
          omega
        rw [e2, e3] at f2
        rw [List.length_append, show s + (b.length + t.length) = s + b.length + t.length by omega]
        simpa using f2
    · cases h

/-- Some cells as integers of one kind. -/
def toInts (k : IntKind) : List AV → Option (List Int)
  | [] => some []
  | [.is k' _ l] => if k' = k then some l else none
  | .is k' _ l :: r => if k' = k then (toInts k r).map (l ++ ·) else none
  | .int k' _ x :: r => if k' = k then (toInts k r).map (x :: ·) else none
  | _ => none

theorem toInts_rel {M : List Place} {k : IntKind} : ∀ {cs : List AV} {vs : List Value} {l : List Int}, RelC M cs vs → toInts k cs = some l → vs = l.map (.int k) ∧ ∀ x ∈ l, k.has x
  | [], vs, l, h, e => by
    simp [toInts] at e
    subst e
    rw [RelC_nil] at h
    subst h
    simp
  | c :: cs, vs, l, h, e => by
    obtain ⟨b, t, rfl, hx, hr⟩ := RelC_cons.1 h
    unfold toInts at e
    split at e
    · rename_i heq; cases heq
    · rename_i k' n l' heq
      injection heq with e1 e2
      subst e1; subst e2
      split at e
      · rename_i hk
        subst hk
        cases e
        obtain ⟨f1, f2, f3⟩ := RelX_is.1 hx
        rw [RelC_nil] at hr
        subst hr
        simpa using ⟨f2, f3⟩
      · cases e
    · rename_i k' n l' r' _ heq
      injection heq with e1 e2
      subst e1; subst e2
      split at e
      · rename_i hk
        subst hk
        simp only [Option.map_eq_some_iff] at e
        obtain ⟨l2, hl2, rfl⟩ := e
        obtain ⟨f1, f2, f3⟩ := RelX_is.1 hx
        obtain ⟨g1, g2⟩ := toInts_rel hr hl2
        refine ⟨by rw [f2, g1]; simp, fun z hz => ?_⟩
        rcases List.mem_append.1 hz with hz | hz
        · exact f3 z hz
        · exact g2 z hz
      · cases e
    · rename_i k' lit x r' heq
      injection heq with e1 e2
      subst e1; subst e2
      split at e
      · rename_i hk
        subst hk
        simp only [Option.map_eq_some_iff] at e
        obtain ⟨l2, hl2, rfl⟩ := e
        obtain ⟨f1, f2, f3⟩ := RelX_int.1 hx
        obtain ⟨g1, g2⟩ := toInts_rel hr hl2
        refine ⟨by rw [f1, g1]; simp, fun z hz => ?_⟩
        rcases List.mem_cons.1 hz with rfl | hz
        · exact f2
        · exact g2 z hz
      · cases e
    · cases e

/-- The cells of a value. -/
def cellsA : AV → Option (List AV)
  | .agg cs => some cs
  | .undef | .tup _ | .is _ _ _ => none
  | x => some [x]

theorem cellsA_rel {M : List Place} {x : AV} {v : Value} (h : RelV M x v) {cs : List AV} (hc : cellsA x = some cs) : RelC M cs v.cells.toList := by
  cases x <;> simp only [cellsA, Option.some.injEq, reduceCtorEq] at hc <;> subst hc
  case agg cs =>
    obtain ⟨vs, hv, hr⟩ := RelX_agg.1 h
    have hv : v = .agg vs := by simpa using hv
    subst hv
    exact hr
  all_goals
    have hv : v.cells = #[v] := by
      cases v <;> first | rfl | (exfalso; simp [RelV, RelX, RowFz, SlFz] at h)
    rw [hv]
    exact RelC_single.2 h

def wid (cs : List AV) : Nat := match cs with
  | [] => 0
  | [x] => width x
  | x :: r => width x + wid r
theorem wid_eq : ∀ (cs : List AV), wid cs = (cs.map width).sum
  | [] => rfl
  | [x] => by simp [wid]
  | x :: y :: r => by rw [wid]; simp [wid_eq (y :: r)]; intro h; cases h
theorem RelC_length {M : List Place} : ∀ {cs : List AV} {vs : List Value}, RelC M cs vs → vs.length = wid cs
  | [], vs, h => by rw [RelC_nil] at h; subst h; rfl
  | c :: cs, vs, h => by
    obtain ⟨b, t, rfl, hx, hr⟩ := RelC_cons.1 h
    rw [wid_eq]
    have := RelC_length hr
    rw [wid_eq] at this
    simp [RelX_length hx, this]

/-! ### Zero values -/

/-- These cells are the zero ones that a type's row tells. -/
def zchk : List AV → List Value → Bool
  | [], vs => vs.isEmpty
  | .is k n l :: r, vs => decide (l.length = n) && decide (n ≤ vs.length) && (intsOf k (vs.take n) == some l) && zchk r (vs.drop n)
  | .int k (some m) x :: r, .int k' n :: vs => decide (k = k') && (m == n) && (x == n) && inB k n && zchk r vs
  | .bool (some m) x :: r, .bool n :: vs => (m == n) && (x == n) && zchk r vs
  | .str [] :: r, .string s' :: vs => decide (s'.size = 0) && zchk r vs
  | .nilp :: r, .pointer none :: vs => zchk r vs
  | .nils :: r, .slice none 0 0 :: vs => zchk r vs
  | .nilf :: r, .nilFunc :: vs => zchk r vs
  | .niface :: r, .nilIface :: vs => zchk r vs
  | .undef :: r, _ :: vs => zchk r vs
  | _, _ => false

theorem zchk_rel (M : List Place) : ∀ {cs : List AV} {vs : List Value}, zchk cs vs = true → RelC M cs vs
  | [], vs, h => by simp [zchk] at h; subst h; exact RelC_nil.2 rfl
  | c :: r, vs, h => by
    unfold zchk at h
    split at h
    · rename_i heq; cases heq
    · rename_i k n l r' heq
      injection heq with e1 e2
      subst e1; subst e2
      simp only [Bool.and_eq_true, decide_eq_true_eq, beq_iff_eq] at h
      obtain ⟨⟨⟨h1, h2⟩, h3⟩, h4⟩ := h
      obtain ⟨g1, g2⟩ := intsOf_spec h3
      exact RelC_cons.2 ⟨_, _, (List.take_append_drop n _).symm, RelX_is.2 ⟨h1, g1, g2⟩, zchk_rel M h4⟩
    · rename_i k m x r' k' n vs' heq
      injection heq with e1 e2
      subst e1; subst e2
      simp only [Bool.and_eq_true, decide_eq_true_eq, beq_iff_eq] at h
      obtain ⟨⟨⟨⟨rfl, rfl⟩, rfl⟩, h3⟩, h4⟩ := h
      exact RelC_cons.2 ⟨[_], vs', rfl, RelX_int.2 ⟨rfl, has_of_inB h3, fun m hm => by cases hm; rfl⟩, zchk_rel M h4⟩
    · rename_i m x r' n vs' heq
      injection heq with e1 e2
      subst e1; subst e2
      simp only [Bool.and_eq_true, beq_iff_eq] at h
      obtain ⟨⟨rfl, rfl⟩, h4⟩ := h
      exact RelC_cons.2 ⟨[_], vs', rfl, by simp [RelX], zchk_rel M h4⟩
    · rename_i r' s' vs' heq
      injection heq with e1 e2
      subst e1; subst e2
      simp only [Bool.and_eq_true, decide_eq_true_eq] at h
      obtain ⟨h1, h4⟩ := h
      have hs : s' = mkS [] := by
        cases s' with
        | mk d => simp [ByteArray.size] at h1; subst h1; rfl
      subst hs
      exact RelC_cons.2 ⟨[_], vs', rfl, by simp [RelX, has_iff, loB, hiB], zchk_rel M h4⟩
    · rename_i r' vs' heq
      injection heq with e1 e2
      subst e1; subst e2
      exact RelC_cons.2 ⟨[_], vs', rfl, by simp [RelX], zchk_rel M h⟩
    · rename_i r' vs' heq
      injection heq with e1 e2
      subst e1; subst e2
      exact RelC_cons.2 ⟨[_], vs', rfl, by simp [RelX], zchk_rel M h⟩
    · rename_i r' vs' heq
      injection heq with e1 e2
      subst e1; subst e2
      exact RelC_cons.2 ⟨[_], vs', rfl, by simp [RelX], zchk_rel M h⟩
    · rename_i r' vs' heq
      injection heq with e1 e2
      subst e1; subst e2
      exact RelC_cons.2 ⟨[_], vs', rfl, by simp [RelX], zchk_rel M h⟩
    · rename_i r' v vs' heq
      injection heq with e1 e2
      subst e1; subst e2
      exact RelC_cons.2 ⟨[v], vs', rfl, by simp [RelX], zchk_rel M h⟩
    · cases h

/-- Are these cells integers of one kind? -/
def oneKind : List AV → Option (IntKind × Nat)
  | [] => none
  | [.is k n _] => some (k, n)
  | [.int k _ _] => some (k, 1)
  | .int k _ _ :: r => match oneKind r with
    | some (k', n) => if k = k' then some (k, n + 1) else none
    | none => none
  | .is k m _ :: r => match oneKind r with
    | some (k', n) => if k = k' then some (k, n + m) else none
    | none => none
  | _ => none

/-- A guess at a type's zero cells, part by part: what counts is zchk. -/
def zguess (P : Program) : Nat → TypeId → List AV
  | 0, _ => []
  | d + 1, t => match P.underlying t with
    | some .bool => [.bool (some false) false]
    | some (.int k) => [.int k (some 0) 0]
    | some .string => [.str []]
    | some (.pointer _) => [.nilp]
    | some (.slice _) => [.nils]
    | some (.func _ _ _) => [.nilf]
    | some (.interface _) => [.niface]
    | some (.struct fs) => fs.toList.flatMap fun f => zguess P d f.type
    | some (.array n e) => match oneKind (zguess P d e) with
      | some (k, m) => [.is k (n * m) (List.replicate (n * m) 0)]
      | none => (List.replicate n (zguess P d e)).flatten
    | _ => [.undef]

def zeroC (P : Program) (t : TypeId) : Option (List AV) :=
  match P.info? t with
  | some i => match i.zero with
    | some z => if zchk (zguess P 20 t) z.cells.toList then some (zguess P 20 t) else none
    | none => none
  | none => none

theorem zeroC_rel {P : Program} {t : TypeId} {cs : List AV} (h : zeroC P t = some cs) : ∃ i z, P.info? t = some i ∧ i.zero = some z ∧ (∀ w, (zeroValue t).run P w = .ok z w) ∧ ∀ M, RelC M cs z.cells.toList := by
  unfold zeroC at h
  split at h
  · rename_i i hi
    split at h
    · rename_i z hz
      split at h
      · rename_i hc
        cases h
        exact ⟨i, z, hi, hz, fun w => by simp [zeroValue, typeInfo, hi, hz], fun M => zchk_rel M hc⟩
      · cases h
    · cases h
  · cases h

end Go.AE

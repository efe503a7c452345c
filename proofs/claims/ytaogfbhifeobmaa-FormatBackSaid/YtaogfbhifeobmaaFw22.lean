/- The framework AE, part 22: the arguments of a row. -/
import Derived.Test.YtaogfbhifeobmaaFw21
import Derived.OpenShut
import GoSem.ClaimWide
set_option linter.unusedVariables false
set_option linter.unusedSimpArgs false
namespace Go.AE
open Go Go.RowKit

/-- A slice of integers of a world. -/
def IsRowV (k : IntKind) (w : World) (a : Option Addr) (len cap : Nat) (zs : List Int) : Prop :=
  (a = none ∧ len = 0 ∧ cap = 0 ∧ zs = []) ∨
  ∃ x, a = some x ∧ len ≤ cap ∧ cap ≤ maxLen ∧ zs.length = cap ∧ (∀ i, i < zs.length → w.cell? (x.add i) = some (.int k (zs.getD i 0))) ∧ ∀ n ∈ zs, (Lit.int k n).wf = true

theorem isRowV_facts {k : IntKind} {w : World} {a : Option Addr} {len cap : Nat} {zs : List Int} (h : IsRowV k w a len cap zs) : (zs.take len).length = len ∧ ∀ x ∈ zs.take len, k.has x := by
  rcases h with ⟨rfl, rfl, rfl, rfl⟩ | ⟨x, rfl, h1, _, h3, _, h5⟩
  · simp
  · exact ⟨by simp; omega, fun n hn => has_wf (h5 n (List.mem_of_mem_take hn))⟩

theorem isRowV_has {k : IntKind} {w : World} {a : Option Addr} {len cap : Nat} {zs : List Int} (h : IsRowV k w a len cap zs) : IntKind.i64.has (len : Int) := by
  rw [has_iff]
  simp only [loB, hiB]
  rcases h with ⟨rfl, rfl, rfl, rfl⟩ | ⟨x, rfl, h1, h2, _⟩
  · simp
  · have : maxLen ≤ 9223372036854775807 := by decide
    omega

theorem worldCell {w : World} {x : Addr} {i : Nat} {v : Value} (h : w.cell? (x.add i) = some v) : ∃ cs el fz, w.heap[x.block]? = some (.cells cs el fz) ∧ cs[x.off + i]? = some v ∧ (i = 0 → x.spot = none) := by
  unfold World.cell? at h
  by_cases hi : i = 0
  · subst hi
    simp only [Addr.add, if_true] at h
    cases hg : w.heap[x.block]? with
    | none => simp [hg] at h
    | some o =>
      cases o with
      | cells cs el fz =>
        simp only [hg] at h
        cases hs : x.spot with
        | none =>
          simp only [hs, Option.isSome_none, Bool.false_eq_true, if_false] at h
          exact ⟨cs, el, fz, rfl, by simpa using h, fun _ => rfl⟩
        | some s => simp [hs] at h
      | _ => simp [hg] at h
  · simp only [Addr.add, if_neg hi] at h
    cases hg : w.heap[x.block]? with
    | none => simp [hg] at h
    | some o =>
      cases o with
      | cells cs el fz =>
        simp only [hg, Option.isSome_none, Bool.false_eq_true, if_false] at h
        exact ⟨cs, el, fz, rfl, h, fun h => absurd h hi⟩
      | _ => simp [hg] at h

/-- One slice more among what is known. -/
theorem add_slice {M : List Place} {H : Heap} {w : World} (r : RelH M H (Base.at w.heap.size) w) (hno : ∀ (i : Nat) o, H[i]? = some (some o) → o.own = false) {k : IntKind} {a : Option Addr} {len cap : Nat} {zs : List Int} (h : IsRowV k w a len cap zs) (hlen : IntKind.i64.has (len : Int)) :
    ∃ pl, RelH (M ++ [pl]) (H ++ [some ⟨.row k (zs.take len), false, none⟩]) (Base.at w.heap.size) w ∧ RelV (M ++ [pl]) (.sl H.length 0 (div1 (zs.take len).length 1) 1 .whole) (.slice a len cap) := by
  have hl := (isRowV_facts h).1
  have hsep : ∀ pl : Place, ∀ (i : Nat) (oi : AObj) (pi : Place), H[i]? = some (some oi) → M[i]? = some pi → (oi.own = true ∨ (⟨.row k (zs.take len), false, none⟩ : AObj).own = true) → pi.nil = false → pl.nil = false → pi.blk ≠ pl.blk := by
    intro pl i oi pi hi _ ho
    rcases ho with ho | ho
    · rw [hno i oi hi] at ho; cases ho
    · cases ho
  have rel : ∀ (pl : Place) (A : Option Addr), (pl.nil = true → cap = 0) → (pl.nil = false → A ≠ none ∧ (0 < len → A = some ⟨pl.blk, pl.off, none⟩)) → len = pl.n → len ≤ cap →
      RelV (M ++ [pl]) (.sl H.length 0 (div1 (zs.take len).length 1) 1 .whole) (.slice A len cap) := by
    intro pl A h1 h2 h3 h4
    rw [hl, div1_eq, Nat.div_one]
    simp only [RelV, RelX]
    exact ⟨pl, A, cap, by rw [r.len]; simp, rfl, by omega, h4, fun hn => ⟨fun hc => (by cases hc), h1 hn⟩, fun hn => ⟨(h2 hn).1, fun hq => by
      rcases hq with hq | hq
      · simpa using (h2 hn).2 hq
      · cases hq⟩, fun hc => (by cases hc), fun hc => (by cases hc), fun _ => ⟨trivial, by omega⟩, hlen⟩
  rcases h with ⟨rfl, rfl, rfl, rfl⟩ | ⟨x, rfl, h1, h2, h3, h4, h5⟩
  · exact ⟨⟨true, 0, 0, 0, 0, noFz⟩, RelH.add (pl := ⟨true, 0, 0, 0, 0, noFz⟩) r (.inl ⟨rfl, rfl, by simp [RelO]⟩) (fun _ h => by cases h) (fun _ => trivial) (hsep _) rfl (fun h => by cases h), rel _ none (fun _ => rfl) (fun h => (by cases h)) rfl (Nat.le_refl _)⟩
  · by_cases hc : cap = 0
    · subst hc
      have hz : zs = [] := List.length_eq_zero_iff.1 h3
      have hl0 : len = 0 := by omega
      subst hz; subst hl0
      exact ⟨⟨true, 0, 0, 0, 0, noFz⟩, RelH.add (pl := ⟨true, 0, 0, 0, 0, noFz⟩) r (.inl ⟨rfl, rfl, by simp [RelO]⟩) (fun _ h => by cases h) (fun _ => trivial) (hsep _) rfl (fun h => by cases h), rel _ _ (fun _ => rfl) (fun h => (by cases h)) rfl (Nat.le_refl _)⟩
    · -- the block
      have c0 := h4 0 (by omega)
      obtain ⟨cs, el, fz, hg, _, hs⟩ := worldCell c0
      have hs := hs rfl
      have cell : ∀ i, i < zs.length → cs[x.off + i]? = some (.int k (zs.getD i 0)) := by
        intro i hi
        obtain ⟨cs', el', fz', hg', hc', _⟩ := worldCell (h4 i hi)
        rw [hg] at hg'
        cases hg'
        exact hc'
      have hsize : x.off + cap ≤ cs.size := by
        have := cell (cap - 1) (by omega)
        have := (Array.getElem?_eq_some_iff.1 this).1
        omega
      have hcells : (cs.toList.drop x.off).take len = (zs.take len).map (.int k) := by
        apply List.ext_getElem?
        intro i
        rw [List.getElem?_take, List.getElem?_map, List.getElem?_take]
        by_cases hi : i < len
        · rw [if_pos hi, if_pos hi, List.getElem?_drop]
          have := cell i (by omega)
          rw [Array.getElem?_toList, this]
          have hz : zs[i]? = some (zs.getD i 0) := by
            rw [List.getD_eq_getElem?_getD, List.getElem?_eq_getElem (by omega)]
            simp
          rw [hz]
          rfl
        · rw [if_neg hi, if_neg hi]
          rfl
      refine ⟨⟨false, x.block, x.off, len, cs.size, noFz⟩, RelH.add (pl := ⟨false, x.block, x.off, len, cs.size, noFz⟩) r (.inr ⟨rfl, cs, el, fz, hg, rfl, by show x.off + len ≤ cs.size; omega, ?_, fun h => (by cases h)⟩) (fun _ h => by cases h) (fun _ => trivial) (hsep _) rfl (fun h => by cases h), rel _ _ (fun h => (by cases h)) (fun _ => ⟨by simp, fun _ => by
        obtain ⟨b, o, s⟩ := x
        simp only at hs
        subst hs
        rfl⟩) rfl h1⟩
      simp only [RelO]
      exact ⟨hcells, fun n hn => has_wf (h5 n (List.mem_of_mem_take hn))⟩

theorem noOwn_snoc {H : Heap} (hno : ∀ (i : Nat) o, H[i]? = some (some o) → o.own = false) {x : AObj} (hx : x.own = false) : ∀ (i : Nat) o, (H ++ [some x])[i]? = some (some o) → o.own = false := by
  intro i o hi
  rw [List.getElem?_append] at hi
  split at hi
  · exact hno i o hi
  · rcases Nat.eq_zero_or_pos (i - H.length) with h0 | h0
    · rw [h0] at hi
      simp at hi
      rw [← hi]; exact hx
    · rw [List.getElem?_eq_none (by simp; omega)] at hi; cases hi

theorem relX_grow0 {M : List Place} {x : AV} {a : List Value} (h : RelX M x a) : RelX M x a := h

/-! ### aggregates -/

def isIntT (P : Program) (k : IntKind) (u : TypeId) : Bool := match P.underlying u with
  | some (.int k') => k' == k
  | _ => false
def isBoolT (P : Program) (u : TypeId) : Bool := match P.underlying u with
  | some .bool => true
  | _ => false

/-- Do these kinds of cells fit these types? -/
def ctyOk (P : Program) : List CTy → List TypeId → Bool
  | [], [] => true
  | .int k :: r, u :: us => isIntT P k u && ctyOk P r us
  | .bool :: r, u :: us => isBoolT P u && ctyOk P r us
  | .is k n :: r, us => decide (n ≤ us.length) && ((us.take n).all (isIntT P k) && ctyOk P r (us.drop n))
  | _, _ => false

/-- What is known of data that came in. -/
def wfC : (cs : List CTy) → DC cs → Prop
  | [], _ => True
  | .int k :: r, d => k.has d.1 ∧ wfC r d.2
  | .bool :: r, d => wfC r d.2
  | .is k n :: r, d => (List.length (α := Int) d.1 = n ∧ ∀ x ∈ (d.1 : List Int), k.has x) ∧ wfC r d.2
  | _ :: _, _ => False

theorem okWide_intT {P : Program} {w : World} {r : Reach} {base : Nat} {k : IntKind} {u : TypeId} {v : Value} (ht : isIntT P k u = true) (h : Cell.okWide P w r base u v) : ∃ x, v = .int k x ∧ k.has x := by
  unfold isIntT at ht
  split at ht
  · rename_i k' hu
    have hk : k' = k := by simpa using ht
    subst hk
    unfold Cell.okWide at h
    rw [hu] at h
    unfold Cell.ok at h
    rw [hu] at h
    cases v <;> simp at h
    obtain ⟨rfl, h⟩ := h
    exact ⟨_, rfl, h⟩
  · cases ht
theorem okWide_boolT {P : Program} {w : World} {r : Reach} {base : Nat} {u : TypeId} {v : Value} (ht : isBoolT P u = true) (h : Cell.okWide P w r base u v) : ∃ x, v = .bool x := by
  unfold isBoolT at ht
  split at ht
  · rename_i hu
    unfold Cell.okWide at h
    rw [hu] at h
    unfold Cell.ok at h
    rw [hu] at h
    cases v <;> simp at h
    exact ⟨_, rfl⟩
  · cases ht

theorem ints_of {P : Program} {w : World} {r : Reach} {base : Nat} {k : IntKind} : ∀ {us : List TypeId} {vs : List Value}, us.all (isIntT P k) = true → vs.length = us.length → (∀ (i : Nat) v, vs[i]? = some v → ∃ u, us[i]? = some u ∧ Cell.okWide P w r base u v) →
    ∃ l : List Int, vs = l.map (.int k) ∧ l.length = us.length ∧ ∀ x ∈ l, k.has x
  | [], vs, _, hl, _ => ⟨[], by simpa using hl, rfl, by simp⟩
  | u :: us, [], _, hl, _ => by simp at hl
  | u :: us, v :: vs, ha, hl, h => by
    simp only [List.all_cons, Bool.and_eq_true] at ha
    obtain ⟨l, e, h1, h2⟩ := ints_of (us := us) (vs := vs) ha.2 (by simpa using hl) fun i v hv => by simpa using h (i + 1) v (by simpa using hv)
    obtain ⟨u', hu', hc⟩ := h 0 v rfl
    simp at hu'
    subst hu'
    obtain ⟨x, rfl, hx⟩ := okWide_intT ha.1 hc
    refine ⟨x :: l, by rw [e]; rfl, by simp [h1], fun y hy => ?_⟩
    rcases List.mem_cons.1 hy with rfl | hy
    · exact hx
    · exact h2 y hy

theorem cells_of {P : Program} {w : World} {r : Reach} {base : Nat} : ∀ {cs : List CTy} {us : List TypeId} {vs : List Value}, ctyOk P cs us = true → vs.length = us.length → (∀ (i : Nat) v, vs[i]? = some v → ∃ u, us[i]? = some u ∧ Cell.okWide P w r base u v) →
    ∃ d : DC cs, wfC cs d ∧ ∀ M, RelC M (mkCs cs d) vs
  | [], [], vs, _, hl, _ => ⟨(), trivial, fun M => RelC_nil.2 (by simpa using hl)⟩
  | [], _ :: _, vs, hc, _, _ => by simp [ctyOk] at hc
  | .int k :: cs, [], vs, hc, _, _ => by simp [ctyOk] at hc
  | .bool :: cs, [], vs, hc, _, _ => by simp [ctyOk] at hc
  | .int k :: cs, u :: us, [], _, hl, _ => by simp at hl
  | .bool :: cs, u :: us, [], _, hl, _ => by simp at hl
  | .int k :: cs, u :: us, v :: vs, hc, hl, h => by
    simp only [ctyOk, Bool.and_eq_true] at hc
    obtain ⟨d, h1, h2⟩ := cells_of (us := us) (vs := vs) hc.2 (by simpa using hl) fun i v hv => by simpa using h (i + 1) v (by simpa using hv)
    obtain ⟨u', hu', hw⟩ := h 0 v rfl
    simp at hu'
    subst hu'
    obtain ⟨x, rfl, hx⟩ := okWide_intT hc.1 hw
    exact ⟨(x, d), ⟨hx, h1⟩, fun M => RelC_cons.2 ⟨[.int k x], vs, rfl, RelX_int.2 ⟨rfl, hx, fun m hm => by cases hm⟩, h2 M⟩⟩
  | .bool :: cs, u :: us, v :: vs, hc, hl, h => by
    simp only [ctyOk, Bool.and_eq_true] at hc
    obtain ⟨d, h1, h2⟩ := cells_of (us := us) (vs := vs) hc.2 (by simpa using hl) fun i v hv => by simpa using h (i + 1) v (by simpa using hv)
    obtain ⟨u', hu', hw⟩ := h 0 v rfl
    simp at hu'
    subst hu'
    obtain ⟨x, rfl⟩ := okWide_boolT hc.1 hw
    exact ⟨(x, d), h1, fun M => RelC_cons.2 ⟨[.bool x], vs, rfl, by simp [mk1, RelX], h2 M⟩⟩
  | .str :: cs, us, vs, hc, _, _ => by simp [ctyOk] at hc
  | .fsl _ _ :: cs, us, vs, hc, _, _ => by simp [ctyOk] at hc
  | .dsl _ :: cs, us, vs, hc, _, _ => by simp [ctyOk] at hc
  | .is k n :: cs, us, vs, hc, hl, h => by
    simp only [ctyOk, Bool.and_eq_true, decide_eq_true_eq] at hc
    obtain ⟨hn, ha, hc⟩ := hc
    obtain ⟨d, h1, h2⟩ := cells_of (us := us.drop n) (vs := vs.drop n) hc (by simp [hl]) fun i v hv => by
      rw [List.getElem?_drop] at hv ⊢
      exact h (n + i) v hv
    obtain ⟨l, e, g1, g2⟩ := ints_of (us := us.take n) (vs := vs.take n) (w := w) (r := r) (base := base) ha (by simp [hl]) fun i v hv => by
      rw [List.getElem?_take] at hv ⊢
      split at hv
      · rename_i hi
        rw [if_pos hi]
        exact h i v hv
      · cases hv
    have hln : l.length = n := by simp at g1; omega
    exact ⟨(l, d), ⟨⟨hln, g2⟩, h1⟩, fun M => RelC_cons.2 ⟨vs.take n, vs.drop n, by simp, RelX_is.2 ⟨hln, e, g2⟩, h2 M⟩⟩

/-- A struct or an array that came in. -/
theorem agg_of {P : Program} {w : World} {r : Reach} {base : Nat} {t : TypeId} {v : Value} {cs : List CTy} {us : List TypeId} (hu : (match P.underlying t with | some (.struct _) | some (.array _ _) => true | _ => false) = true)
    (ht : P.cellTypes P.depth t = some us) (hn : P.cellsOf t = us.length) (hc : ctyOk P cs us = true) (h : Value.okWide P w r base t v) : ∃ d : DC cs, wfC cs d ∧ ∀ M, RelV M (.agg (mkCs cs d)) v := by
  have h' : ∃ xs : Array Value, v = .agg xs ∧ xs.size = P.cellsOf t ∧ Row.okWide P w r base t xs := by
    unfold Value.okWide at h
    split at hu
    · rename_i hq; rw [hq] at h; exact h
    · rename_i hq; rw [hq] at h; exact h
    · cases hu
  obtain ⟨xs, rfl, hsz, ts, hts, _, hrow⟩ := h'
  rw [ht] at hts
  cases hts
  obtain ⟨d, h1, h2⟩ := cells_of (vs := xs.toList) (w := w) (r := r) (base := base) hc (by simp; omega) fun i v hv => by
    have hi : i < us.length := by
      have := (List.getElem?_eq_some_iff.1 hv).1
      simp at this
      omega
    obtain ⟨u, hu', hw⟩ := hrow i v (by simpa using hv)
    rw [Nat.mod_eq_of_lt hi] at hu'
    exact ⟨u, hu', hw⟩
  exact ⟨d, h1, fun M => RelX_agg.2 ⟨xs, rfl, h2 M⟩⟩

end Go.AE

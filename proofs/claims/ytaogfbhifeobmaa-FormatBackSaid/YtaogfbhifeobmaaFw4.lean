/- The framework AE, part 4: memory is read and written. -/
import Derived.Test.YtaogfbhifeobmaaFw3
import Derived.Laws.Cells
set_option linter.unusedVariables false
set_option linter.unusedSimpArgs false
namespace Go.AE
open Go Go.RowKit

def isAggT (P : Program) (t : TypeId) : Option Bool :=
  match P.underlying t with
  | some (.struct _) => some true
  | some (.array _ _) => some true
  | some _ => some false
  | none => none
def sizeT (P : Program) (t : TypeId) : Option Nat := (P.info? t).map (·.size)

theorem run_isAgg {P : Program} {t : TypeId} {b : Bool} (h : isAggT P t = some b) (w : World) : (isAgg t).run P w = .ok b w := by
  unfold isAggT at h
  cases hu : P.underlying t with
  | none => simp [hu] at h
  | some d =>
    have h1 := run_underlying hu w
    cases d <;> simp [hu] at h <;> subst h <;> simp [isAgg, h1]

theorem run_sizeT {P : Program} {t : TypeId} {s : Nat} (h : sizeT P t = some s) (w : World) : (sizeOf t).run P w = .ok s w := by
  unfold sizeT at h
  cases hi : P.info? t with
  | none => simp [hi] at h
  | some i =>
    simp [hi] at h
    simp [sizeOf, typeInfo, hi, h]

theorem addr_add (b o i : Nat) : (⟨b, o, none⟩ : Addr).add i = ⟨b, o + i, none⟩ := by unfold Addr.add; split <;> simp_all

theorem run_cells {P : Program} {w : World} {g o s : Nat} {cs : Array Value} {el : TypeId} {fz : Nat × Nat} (hg : w.heap[g]? = some (.cells cs el fz)) (h : o + s ≤ cs.size) :
    (loadCells ⟨g, o, none⟩ s).run P w = .ok ((cs.toList.drop o).take s).toArray w := by
  have := run_loadCells_list (P := P) w ⟨g, o, none⟩ ((cs.toList.drop o).take s) (fun j v hv => by
    rw [addr_add]
    simp only [World.cell?, hg]
    have hj : j < s := by
      have := (List.getElem?_eq_some_iff.1 hv).1
      simp at this
      omega
    rw [List.getElem?_take, if_pos hj, List.getElem?_drop] at hv
    simpa using hv)
  have hl : ((cs.toList.drop o).take s).length = s := by simp; omega
  rw [hl] at this
  exact this

theorem run_load1 {P : Program} {w : World} {g o : Nat} {cs : Array Value} {el : TypeId} {fz : Nat × Nat} (hg : w.heap[g]? = some (.cells cs el fz)) {v : Value} (h : cs.toList[o]? = some v) :
    (load ⟨g, o, none⟩).run P w = .ok v w := by
  have hc : w.cell? ⟨g, o, none⟩ = some v := by
    simp only [World.cell?, hg]
    simpa using h
  simp [load, Sem.run, hc]

/-- An abstract block's content. -/
def objC (H : Heap) (b : Nat) : Option Cont :=
  match H[b]? with
  | some (some o) => some o.c
  | _ => none

theorem objC_ok {M : List Place} {H : Heap} {B : Base} {w : World} (r : RelH M H B w) {b : Nat} {c : Cont} (h : objC H b = some c) : ∃ o pl, H[b]? = some (some o) ∧ o.c = c ∧ M[b]? = some pl ∧ ObjOk M o pl B w := by
  unfold objC at h
  split at h
  · rename_i o ho
    cases h
    obtain ⟨pl, hp, hok⟩ := r.obj b o ho
    exact ⟨o, pl, ho, rfl, hp, hok⟩
  · cases h

/-- The row of integers of a block that is one. -/
def rowOf : Cont → Option (IntKind × List Int)
  | .row k l => some (k, l)
  | .segs [.is k _ l] => some (k, l)
  | _ => none

theorem rowOf_rel {M : List Place} {c : Cont} {vs : List Value} {k : IntKind} {l : List Int} (h : RelO M c vs) (hr : rowOf c = some (k, l)) : vs = l.map (.int k) ∧ ∀ x ∈ l, k.has x := by
  unfold rowOf at hr
  split at hr
  · cases hr; exact h
  · cases hr
    simp only [RelO, RelC_single, RelX_is] at h
    exact ⟨h.2.1, h.2.2⟩
  · cases hr

/-- What is read as type t at an address. -/
def aload (P : Program) (H : Heap) (t : TypeId) : AV → Option AV
  | .ptr b base dyn room span =>
    match objC H b, isAggT P t, sizeT P t with
    | some (.segs cs), some false, _ =>
      if 1 ≤ room then
        match dyn with
        | none => cellAt cs base
        | some d => (dynAt cs base span).map fun x => .int x.1 none (x.2.2.getD (padd x.2.1 d) 0)
      else none
    | some (.segs cs), some true, some s =>
      if s ≤ room then
        match dyn with
        | none => (subC cs base s).map .agg
        | some d => (dynAt cs base span).map fun x => .agg [.is x.1 s ((x.2.2.drop (padd x.2.1 d)).take s)]
      else none
    | _, _, _ => none
  | .rptr b off room =>
    match objC H b, isAggT P t, sizeT P t with
    | some c, some false, _ =>
      if 1 ≤ room then
        match rowOf c with
        | some (k, l) => some (.int k none (l.getD off 0))
        | none => match c with
          | .segs cs => cellAt cs off
          | _ => none
      else none
    | some c, some true, some s =>
      if s ≤ room then
        match rowOf c with
        | some (k, l) => some (.agg [.is k s ((l.drop off).take s)])
        | none => match c with
          | .segs cs => (subC cs off s).map .agg
          | _ => none
      else none
    | _, _, _ => none
  | _ => none

theorem take_drop_at {l : List Int} {k : IntKind} {vs : List Value} {d q s : Nat} (h : ∀ j, j < l.length → vs[d + j]? = some (.int k (l.getD j 0))) (hq : q + s ≤ l.length) :
    (vs.drop (d + q)).take s = ((l.drop q).take s).map (.int k) := by
  apply List.ext_getElem?
  intro j
  by_cases hj : j < s
  · rw [List.getElem?_take, if_pos hj, List.getElem?_drop, Nat.add_assoc, h (q + j) (by omega), List.getElem?_map, List.getElem?_take, if_pos hj, List.getElem?_drop,
      List.getD_eq_getElem?_getD, List.getElem?_eq_getElem (by omega)]
    simp
  · rw [List.getElem?_take, if_neg hj, List.getElem?_map, List.getElem?_take, if_neg hj]
    rfl

theorem run_loadVar1 {P : Program} {t : TypeId} (ht : isAggT P t = some false) {w : World} {g o : Nat} {cs : Array Value} {el : TypeId} {fz : Nat × Nat} (hg : w.heap[g]? = some (.cells cs el fz)) {v : Value} (h : cs.toList[o]? = some v) :
    (loadVar t ⟨g, o, none⟩).run P w = .ok v w := by
  unfold loadVar
  rw [Sem.run_bind, run_isAgg ht]
  simp only [Result.andThen_ok]
  exact run_load1 hg h
theorem run_loadVarN {P : Program} {t : TypeId} {s : Nat} (ht : isAggT P t = some true) (hs : sizeT P t = some s) {w : World} {g o : Nat} {cs : Array Value} {el : TypeId} {fz : Nat × Nat} (hg : w.heap[g]? = some (.cells cs el fz)) (h : o + s ≤ cs.size) :
    (loadVar t ⟨g, o, none⟩).run P w = .ok (.agg ((cs.toList.drop o).take s).toArray) w := by
  simp [loadVar, run_isAgg ht, run_sizeT hs, run_cells hg h]

theorem below_block {w w' : World} {g : Nat} {ob : Obj} (hb : Below w.heap.size w w') (h : w.heap[g]? = some ob) : w'.heap[g]? = some ob := by
  rw [hb.block _ ((Array.getElem?_eq_some_iff.1 h).1)]; exact h

theorem getElem?_cells {cs : List Value} {off n j : Nat} {v : Value} (h : ((cs.drop off).take n)[j]? = some v) : cs[off + j]? = some v := by
  have hj : j < n := by
    have := (List.getElem?_eq_some_iff.1 h).1
    simp at this
    omega
  rw [List.getElem?_take, if_pos hj, List.getElem?_drop] at h
  exact h

theorem sub_cells {cs : List Value} {off n o s : Nat} (h : o + s ≤ n) : (((cs.drop off).take n).drop o).take s = (cs.drop (off + o)).take s := by
  apply List.ext_getElem?
  intro j
  by_cases hj : j < s
  · rw [List.getElem?_take, if_pos hj, List.getElem?_drop, List.getElem?_take, if_pos (by omega), List.getElem?_drop, List.getElem?_take, if_pos hj, List.getElem?_drop, Nat.add_assoc]
  · rw [List.getElem?_take, if_neg hj, List.getElem?_take, if_neg hj]

theorem aload_at {P : Program} {M : List Place} {H : Heap} {B : Base} {w : World} (r : RelH M H B w) {t : TypeId} {p x : AV} {v : Value} (hv : RelV M p v) (h : aload P H t p = some x) :
    ∃ A u, v = .pointer (some A) ∧ RelV M x u ∧ ∀ w', (∀ ob, w.heap[A.block]? = some ob → w'.heap[A.block]? = some ob) → (loadVar t A).run P w' = .ok u w' := by
  cases p <;> simp only [aload, reduceCtorEq] at h
  case ptr b base dyn room span =>
    simp only [RelV, RelX] at hv
    obtain ⟨pl, hpl, hnil, hv, hd1, hd2⟩ := hv
    have hv : v = .pointer (some ⟨pl.blk, pl.off + (base + dyn.getD 0), none⟩) := by simpa using hv
    split at h
    · -- a scalar
      rename_i cs _ hc ht
      obtain ⟨o, pl', ho, hoc, hp', hok⟩ := objC_ok r hc
      rw [hpl] at hp'; cases hp'
      rcases hok with ⟨hn, _⟩ | ⟨_, cells, el, fz, hg, hsz, hle, hro, _⟩
      · rw [hnil] at hn; cases hn
      rw [hoc] at hro
      split at h
      · rename_i hroom
        cases dyn with
        | none =>
          simp only at h
          obtain ⟨u, hu, hxu⟩ := cellAt_rel hro h
          refine ⟨_, u, hv, hxu, fun w' hb => ?_⟩
          exact run_loadVar1 ht (hb _ hg) (by simpa using getElem?_cells hu)
        | some d =>
          simp only [Option.map_eq_some_iff] at h
          obtain ⟨⟨k, q, l⟩, hq, rfl⟩ := h
          obtain ⟨g1, g2, d0, g3, g4⟩ := dynAt_rel hro hq
          simp only [Option.getD_some] at hd1 hv
          dsimp only
          refine ⟨_, .int k (l.getD (padd q d) 0), hv, ?_, fun w' hb => ?_⟩
          · rw [padd_eq]
            exact RelX_int.2 ⟨rfl, has_getD g2 _ (by omega), fun m hm => by cases hm⟩
          · refine run_loadVar1 ht (hb _ hg) ?_
            have := getElem?_cells (g4 (q + d) (by omega))
            rw [padd_eq, show pl.off + (base + d) = pl.off + (d0 + (q + d)) by omega]
            exact this
      · cases h
    · -- cells
      rename_i cs s hc ht hs
      obtain ⟨o, pl', ho, hoc, hp', hok⟩ := objC_ok r hc
      rw [hpl] at hp'; cases hp'
      rcases hok with ⟨hn, _⟩ | ⟨_, cells, el, fz, hg, hsz, hle, hro, _⟩
      · rw [hnil] at hn; cases hn
      rw [hoc] at hro
      split at h
      · rename_i hroom
        cases dyn with
        | none =>
          simp only [Option.map_eq_some_iff] at h
          obtain ⟨r', hq, rfl⟩ := h
          simp only [Option.getD_none, Nat.zero_add, Nat.add_zero] at hd1 hv
          refine ⟨_, .agg ((cells.toList.drop (pl.off + base)).take s).toArray, hv, ?_, fun w' hb => ?_⟩
          · rw [RelV, RelX_agg]
            refine ⟨_, rfl, ?_⟩
            rcases subC_rel hro hq with ⟨g1, _⟩ | ⟨g1, g2⟩
            · rw [sub_cells (by omega)] at g1
              exact g1
            · subst g1; subst g2
              simp [RelC_nil]
          · exact run_loadVarN ht hs (hb _ hg) (by omega)
        | some d =>
          simp only [Option.map_eq_some_iff] at h
          obtain ⟨⟨k, q, l⟩, hq, rfl⟩ := h
          obtain ⟨g1, g2, d0, g3, g4⟩ := dynAt_rel hro hq
          simp only [Option.getD_some] at hd1 hv
          dsimp only
          refine ⟨_, .agg ((cells.toList.drop (pl.off + (base + d))).take s).toArray, hv, ?_, fun w' hb => ?_⟩
          · rw [RelV, RelX_agg]
            refine ⟨_, rfl, ?_⟩
            rw [RelC_single, RelX_is, padd_eq]
            refine ⟨by simp; omega, ?_, fun x hx => g2 x (List.mem_of_mem_drop (List.mem_of_mem_take hx))⟩
            have e := take_drop_at (q := q + d) (s := s) g4 (by omega)
            rw [sub_cells (by omega)] at e
            rw [← e, show pl.off + (base + d) = pl.off + (d0 + (q + d)) by omega]
          · exact run_loadVarN ht hs (hb _ hg) (by omega)
      · cases h
    · cases h
  case rptr b off room =>
    simp only [RelV, RelX] at hv
    obtain ⟨pl, hpl, hnil, hv, hd1⟩ := hv
    have hv : v = .pointer (some ⟨pl.blk, pl.off + off, none⟩) := by simpa using hv
    split at h
    · rename_i c _ hc ht
      obtain ⟨o, pl', ho, hoc, hp', hok⟩ := objC_ok r hc
      rw [hpl] at hp'; cases hp'
      rcases hok with ⟨hn, _⟩ | ⟨_, cells, el, fz, hg, hsz, hle, hro, _⟩
      · rw [hnil] at hn; cases hn
      rw [hoc] at hro
      split at h
      · rename_i hroom
        split at h
        · rename_i k l hr
          cases h
          obtain ⟨e1, e2⟩ := rowOf_rel hro hr
          have hlen : l.length = pl.n := by
            have := congrArg List.length e1
            simp at this
            omega
          refine ⟨_, .int k (l.getD off 0), hv, RelX_int.2 ⟨rfl, has_getD e2 _ (by omega), fun m hm => by cases hm⟩, fun w' hb => ?_⟩
          refine run_loadVar1 ht (hb _ hg) (getElem?_cells (n := pl.n) ?_)
          rw [e1]
          exact map_getD (by omega)
        · split at h
          · obtain ⟨u, hu, hxu⟩ := cellAt_rel hro h
            exact ⟨_, u, hv, hxu, fun w' hb => run_loadVar1 ht (hb _ hg) (getElem?_cells hu)⟩
          · cases h
      · cases h
    · rename_i c s hc ht hs
      obtain ⟨o, pl', ho, hoc, hp', hok⟩ := objC_ok r hc
      rw [hpl] at hp'; cases hp'
      rcases hok with ⟨hn, _⟩ | ⟨_, cells, el, fz, hg, hsz, hle, hro, _⟩
      · rw [hnil] at hn; cases hn
      rw [hoc] at hro
      split at h
      · rename_i hroom
        refine ⟨_, .agg ((cells.toList.drop (pl.off + off)).take s).toArray, hv, ?_, fun w' hb => run_loadVarN ht hs (hb _ hg) (by omega)⟩
        split at h
        · rename_i k l hr
          cases h
          obtain ⟨e1, e2⟩ := rowOf_rel hro hr
          have hlen : l.length = pl.n := by
            have := congrArg List.length e1
            simp at this
            omega
          rw [RelV, RelX_agg]
          refine ⟨_, rfl, ?_⟩
          rw [RelC_single, RelX_is]
          refine ⟨by simp; omega, ?_, fun x hx => e2 x (List.mem_of_mem_drop (List.mem_of_mem_take hx))⟩
          have e := sub_cells (cs := cells.toList) (off := pl.off) (n := pl.n) (o := off) (s := s) (by omega)
          rw [e1] at e
          simp only at e ⊢
          rw [← e]
          simp [List.map_take, List.map_drop]
        · split at h
          · simp only [Option.map_eq_some_iff] at h
            obtain ⟨r', hq, rfl⟩ := h
            rw [RelV, RelX_agg]
            refine ⟨_, rfl, ?_⟩
            rcases subC_rel hro hq with ⟨g1, _⟩ | ⟨g1, g2⟩
            · rw [sub_cells (by omega)] at g1
              exact g1
            · subst g1; subst g2
              simp [RelC_nil]
          · cases h
      · cases h
    · cases h

theorem aload_sound {P : Program} {M : List Place} {H : Heap} {B : Base} {w : World} (r : RelH M H B w) {t : TypeId} {p x : AV} {v : Value} (hv : RelV M p v) (h : aload P H t p = some x) :
    ∃ A u, v = .pointer (some A) ∧ RelV M x u ∧ ∀ w', Below w.heap.size w w' → (loadVar t A).run P w' = .ok u w' := by
  obtain ⟨A, u, h1, h2, h3⟩ := aload_at r hv h
  exact ⟨A, u, h1, h2, fun w' hb => h3 w' fun ob ho => below_block hb ho⟩

end Go.AE

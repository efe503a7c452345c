/- The framework AE, part 8: aggregates built; slices cut; lengths; the greater and the less of numbers; equality. -/
import Derived.Test.YtaogfbhifeobmaaFw7
set_option linter.unusedVariables false
set_option linter.unusedSimpArgs false
namespace Go.AE
open Go Go.RowKit

/-! ### pick -/

def apick (c a b : AV) : Option AV :=
  match c with
  | .bool (some t) _ => some (if t then a else b)
  | .bool none t => match a, b with
    | .bool _ x, .bool _ y => some (.bool none (cond t x y))
    | .int k _ x, .int k' _ y => if k' = k then some (.int k none (cond t x y)) else none
    | _, _ => none
  | _ => none

theorem apick_sound {P : Program} {M : List Place} {ρ : Operand → Value} {o : Oper} {c x y : Operand} (ho : o.op = .pick c x y) {ac ax ay : AV} (hc : RelV M ac (ρ c)) (hx : RelV M ax (ρ x)) (hy : RelV M ay (ρ y))
    {r : AV} (h : apick ac ax ay = some r) : ∃ v, RelV M r v ∧ ∀ w, (execOp ρ o).run P w = .ok (.value v) w := by
  unfold apick at h
  split at h
  · rename_i t z
    obtain ⟨e, hl⟩ := relV_bool hc
    have := hl t rfl
    subst this
    cases h
    refine ⟨if z then ρ x else ρ y, by cases z <;> simp [hx, hy], fun w => ?_⟩
    simp [execOp, ho, e, asBool]
  · rename_i t
    obtain ⟨e, _⟩ := relV_bool hc
    have run : ∀ w, (execOp ρ o).run P w = .ok (.value (if t then ρ x else ρ y)) w := fun w => by simp [execOp, ho, e, asBool]
    split at h
    · rename_i l1 x1 l2 y1
      cases h
      obtain ⟨e1, _⟩ := relV_bool hx
      obtain ⟨e2, _⟩ := relV_bool hy
      refine ⟨_, ?_, run⟩
      cases t <;> simp [RelV, RelX, e1, e2]
    · rename_i k l1 x1 k' l2 y1
      split at h
      · rename_i hk
        subst hk
        cases h
        obtain ⟨e1, h1, _⟩ := relV_int hx
        obtain ⟨e2, h2, _⟩ := relV_int hy
        refine ⟨_, ?_, run⟩
        cases t <;> simp [RelV, RelX, e1, e2, h1, h2]
      · cases h
    · cases h
  · cases h

/-! ### build -/

theorem foldl_set (off : Nat) : ∀ (l : List Value) (i : Nat) (cells : Array Value), off + i + l.length ≤ cells.size →
    ((l.zipIdx i).foldl (fun cs (x : Value × Nat) => cs.setIfInBounds (off + x.2) x.1) cells).toList = cells.toList.take (off + i) ++ l ++ cells.toList.drop (off + i + l.length)
  | [], i, cells, _ => by simp
  | v :: l, i, cells, h => by
    simp only [List.zipIdx_cons, List.foldl_cons]
    rw [foldl_set off l (i + 1) _ (by simp at h ⊢; omega)]
    simp only [Array.toList_setIfInBounds]
    have hlt : off + i < cells.toList.length := by simp at h ⊢; omega
    rw [List.set_eq_take_append_cons_drop, if_pos hlt]
    have e1 : (List.take (off + i) cells.toList ++ v :: List.drop (off + i + 1) cells.toList).take (off + (i + 1)) = cells.toList.take (off + i) ++ [v] := by
      rw [List.take_append, List.take_of_length_le (by simp; omega), List.length_take, Nat.min_eq_left (by omega), show off + (i + 1) - (off + i) = 1 by omega]
      simp
    have e2 : (List.take (off + i) cells.toList ++ v :: List.drop (off + i + 1) cells.toList).drop (off + (i + 1) + l.length) = cells.toList.drop (off + i + (v :: l).length) := by
      rw [List.drop_append, List.drop_of_length_le (by simp; omega), List.nil_append, List.length_take, Nat.min_eq_left (by omega), show off + (i + 1) + l.length - (off + i) = l.length + 1 by omega]
      simp
      congr 1
      omega
    rw [e1, e2]
    simp

theorem fill_step {place : Nat → Option (Nat × Nat)} {cells : Array Value} {i off size : Nat} {v : Value} {rest : List (Nat × Value)} (hp : place i = some (off, size)) (hs : v.cells.size = size) (hle : off + size ≤ cells.size) :
    ∃ cells' : Array Value, Instr.fill place cells ((i, v) :: rest) = Instr.fill place cells' rest ∧ cells'.toList = cells.toList.take off ++ v.cells.toList ++ cells.toList.drop (off + size) := by
  refine ⟨(v.cells.zipIdx.foldl (fun cs (x : Value × Nat) => cs.setIfInBounds (off + x.2) x.1) cells), ?_, ?_⟩
  · simp only [Instr.fill, hp]
    rw [if_neg]
    simp [hs]
    omega
  · have h := foldl_set off v.cells.toList 0 cells (by simp; omega)
    rw [← Array.foldl_toList, Array.toList_zipIdx]
    simpa [hs] using h

/-- Parts laid one behind the other, from p on: their cells, and where they end. -/
def consec (place : Nat → Option (Nat × Nat)) : List (Nat × AV) → Nat → Option (List AV × Nat)
  | [], p => some ([], p)
  | (i, x) :: r, p => match place i, cellsA x with
    | some (off, size), some xs => if off = p ∧ wid xs = size then (consec place r (p + size)).map fun z => (xs ++ z.1, z.2) else none
    | _, _ => none

/-- Parts laid into cells that there are. -/
def laidIn (place : Nat → Option (Nat × Nat)) : List (Nat × AV) → List AV → Option (List AV)
  | [], cs => some cs
  | (i, x) :: r, cs => match place i, cellsA x with
    | some (off, size), some xs => if wid xs = size ∧ 1 ≤ size then (match putC cs off xs with | some cs' => laidIn place r cs' | none => none) else none
    | _, _ => none

theorem RelC_append {M : List Place} : ∀ {xs ys : List AV} {a b : List Value}, RelC M xs a → RelC M ys b → RelC M (xs ++ ys) (a ++ b)
  | [], ys, a, b, h1, h2 => by rw [RelC_nil] at h1; subst h1; simpa using h2
  | x :: xs, ys, a, b, h1, h2 => by
    obtain ⟨c, t, rfl, hx, hr⟩ := RelC_cons.1 h1
    rw [List.cons_append, List.append_assoc]
    exact RelC_cons.2 ⟨c, t ++ b, rfl, hx, RelC_append hr h2⟩

/-- Each part is what its operand is. -/
def RelP (M : List Place) (as : List (Nat × AV)) (vs : List (Nat × Value)) : Prop :=
  as.length = vs.length ∧ ∀ (i : Nat) (a : Nat × AV) (v : Nat × Value), as[i]? = some a → vs[i]? = some v → a.1 = v.1 ∧ RelV M a.2 v.2

theorem RelP_cons {M : List Place} {a : Nat × AV} {as : List (Nat × AV)} {vs : List (Nat × Value)} (h : RelP M (a :: as) vs) : ∃ v r, vs = (a.1, v) :: r ∧ RelV M a.2 v ∧ RelP M as r := by
  cases vs with
  | nil => have := h.1; simp at this
  | cons v r =>
    obtain ⟨e, hr⟩ := h.2 0 a v rfl rfl
    refine ⟨v.2, r, by rw [e], hr, by have := h.1; simpa using this, fun i x y hx hy => h.2 (i + 1) x y (by simpa using hx) (by simpa using hy)⟩

theorem relP_map {M : List Place} {st : Operand → AV} {ρ : Operand → Value} (h : ∀ x, RelV M (st x) (ρ x)) : ∀ (l : List (Nat × Operand)), RelP M (l.map fun z => (z.1, st z.2)) (l.map fun z => (z.1, ρ z.2)) := by
  intro l
  refine ⟨by simp, fun i a v ha hv => ?_⟩
  simp only [List.getElem?_map, Option.map_eq_some_iff] at ha hv
  obtain ⟨z, hz, rfl⟩ := ha
  obtain ⟨z', hz', rfl⟩ := hv
  rw [hz] at hz'
  cases hz'
  exact ⟨rfl, h _⟩

theorem consec_fill {M : List Place} {place : Nat → Option (Nat × Nat)} : ∀ {as : List (Nat × AV)} {vs : List (Nat × Value)} {p e : Nat} {cs : List AV} {cells : Array Value}, RelP M as vs → consec place as p = some (cs, e) → e ≤ cells.size →
    p ≤ e ∧ ∃ cells' : Array Value, Instr.fill place cells vs = some cells' ∧ ∃ us, RelC M cs us ∧ us.length = e - p ∧ cells'.toList = cells.toList.take p ++ us ++ cells.toList.drop e
  | [], vs, p, e, cs, cells, hr, h, hle => by
    have : vs = [] := by have := hr.1; simpa using this.symm
    subst this
    simp only [consec, Option.some.injEq, Prod.mk.injEq] at h
    obtain ⟨rfl, rfl⟩ := h
    exact ⟨Nat.le_refl _, cells, rfl, [], RelC_nil.2 rfl, by simp, by simp⟩
  | (i, x) :: as, vs, p, e, cs, cells, hr, h, hle => by
    obtain ⟨v, r, rfl, hx, hr'⟩ := RelP_cons hr
    simp only [consec] at h
    split at h
    · rename_i off size xs hp hxs
      split at h
      · rename_i hc
        obtain ⟨rfl, hw⟩ := hc
        simp only [Option.map_eq_some_iff, Prod.mk.injEq] at h
        obtain ⟨⟨cs', e'⟩, hq, rfl, rfl⟩ := h
        have hcx := cellsA_rel hx hxs
        have hlx : v.cells.size = size := by have := RelC_length hcx; simp at this; omega
        -- where the rest ends
        have hmono : off + size ≤ e' := by
          have : ∀ (as : List (Nat × AV)) (p e : Nat) (cs : List AV), consec place as p = some (cs, e) → p ≤ e := by
            intro as
            induction as with
            | nil => intro p e cs h; simp [consec] at h; omega
            | cons a as ih =>
              intro p e cs h
              obtain ⟨i, x⟩ := a
              simp only [consec] at h
              split at h
              · split at h
                · simp only [Option.map_eq_some_iff, Prod.mk.injEq] at h
                  obtain ⟨⟨c1, e1⟩, hq, _, rfl⟩ := h
                  have := ih _ _ _ hq
                  omega
                · cases h
              · cases h
          exact this _ _ _ _ hq
        obtain ⟨cells1, hf, ht⟩ := fill_step (rest := r) hp hlx (cells := cells) (by omega)
        have hs1 : cells1.size = cells.size := by
          have := congrArg List.length ht
          simp at this
          omega
        obtain ⟨g1, cells2, g2, us, g3, g4, g5⟩ := consec_fill (cells := cells1) hr' hq (by omega)
        refine ⟨by omega, cells2, by rw [hf]; exact g2, v.cells.toList ++ us, RelC_append hcx g3, by simp; omega, ?_⟩
        rw [g5, ht]
        have e1 : (List.take off cells.toList ++ v.cells.toList ++ List.drop (off + size) cells.toList).take (off + size) = List.take off cells.toList ++ v.cells.toList := by
          rw [List.take_append_of_le_length (by simp; omega)]
          exact List.take_of_length_le (by simp; omega)
        have e2 : (List.take off cells.toList ++ v.cells.toList ++ List.drop (off + size) cells.toList).drop e' = cells.toList.drop e' := by
          rw [List.drop_append, List.drop_of_length_le (by simp; omega), List.nil_append, List.drop_drop]
          congr 1
          simp
          omega
        rw [e1, e2]
        simp
      · cases h
    · cases h

theorem laidIn_fill {M : List Place} {place : Nat → Option (Nat × Nat)} : ∀ {as : List (Nat × AV)} {vs : List (Nat × Value)} {cs r : List AV} {cells : Array Value}, RelP M as vs → RelC M cs cells.toList → laidIn place as cs = some r →
    ∃ cells' : Array Value, Instr.fill place cells vs = some cells' ∧ RelC M r cells'.toList ∧ cells'.size = cells.size
  | [], vs, cs, r, cells, hr, hc, h => by
    have : vs = [] := by have := hr.1; simpa using this.symm
    subst this
    simp only [laidIn, Option.some.injEq] at h
    subst h
    exact ⟨cells, rfl, hc, rfl⟩
  | (i, x) :: as, vs, cs, r, cells, hr, hc, h => by
    obtain ⟨v, t, rfl, hx, hr'⟩ := RelP_cons hr
    simp only [laidIn] at h
    split at h
    · rename_i off size xs hp hxs
      split at h
      · rename_i hw
        obtain ⟨hw, h1s⟩ := hw
        have hcx := cellsA_rel hx hxs
        have hlx : v.cells.size = size := by have := RelC_length hcx; simp at this; omega
        split at h
        · rename_i cs' hput
          obtain ⟨g1, g2⟩ := putC_rel hc hcx hput
          simp only [Array.length_toList, hlx] at g1 g2
          by_cases hle : off + size ≤ cells.size
          · obtain ⟨cells1, hf, ht⟩ := fill_step (rest := t) hp hlx hle
            rw [← ht] at g2
            obtain ⟨cells2, f1, f2, f3⟩ := laidIn_fill (cells := cells1) hr' g2 h
            refine ⟨cells2, by rw [hf]; exact f1, f2, ?_⟩
            have := congrArg List.length ht
            simp at this
            omega
          · exfalso
            rcases g1 with g1 | g1
            · omega
            · have h0 := congrArg List.length g1
              simp only [Array.length_toList, List.length_nil] at h0
              omega
        · cases h
      · cases h
    · cases h

/-- Integers of one kind are told as such. -/
def norm1 (cs : List AV) : List AV :=
  match oneKind cs with
  | some (k, n) => match toInts k cs with
    | some l => [.is k n l]
    | none => cs
  | none => cs

theorem oneKind_wid : ∀ {cs : List AV} {k : IntKind} {n : Nat}, oneKind cs = some (k, n) → wid cs = n
  | [], _, _, h => by simp [oneKind] at h
  | c :: r, k, n, h => by
    unfold oneKind at h
    split at h
    · rename_i heq; cases heq
    · rename_i heq
      injection heq with e1 e2
      subst e1; subst e2
      cases h
      rfl
    · rename_i heq
      injection heq with e1 e2
      subst e1; subst e2
      cases h
      rfl
    · rename_i r' _ heq
      injection heq with e1 e2
      subst e1; subst e2
      split at h
      · rename_i k' n' hq
        split at h
        · cases h
          rw [wid_eq]
          have := oneKind_wid hq
          rw [wid_eq] at this
          simp [this, width]
          omega
        · cases h
      · cases h
    · rename_i r' _ heq
      injection heq with e1 e2
      subst e1; subst e2
      split at h
      · rename_i k' n' hq
        split at h
        · cases h
          rw [wid_eq]
          have := oneKind_wid hq
          rw [wid_eq] at this
          simp [this, width]
          omega
        · cases h
      · cases h
    · cases h

theorem norm1_rel {M : List Place} {cs : List AV} {vs : List Value} (h : RelC M cs vs) : RelC M (norm1 cs) vs := by
  unfold norm1
  split
  · rename_i k n hk
    split
    · rename_i l hl
      obtain ⟨e1, e2⟩ := toInts_rel h hl
      rw [RelC_single, RelX_is]
      refine ⟨?_, e1, e2⟩
      have h1 := RelC_length h
      have h2 := oneKind_wid hk
      rw [e1] at h1
      simp at h1
      omega
    · exact h
  · exact h

def placeS (P : Program) (fs : Array Field) (i : Nat) : Option (Nat × Nat) :=
  match fs[i]? with
  | some f => (sizeT P f.type).map fun s => (f.offset, s)
  | none => none
def placeA (size : Nat) (i : Nat) : Option (Nat × Nat) := some (i * size, size)

/-- The cells of a composite. -/
def abuildC (P : Program) (t : TypeId) (place : Nat → Option (Nat × Nat)) (parts : List (Nat × AV)) : Option (List AV) :=
  match sizeT P t with
  | none => none
  | some n =>
    match consec place parts 0 with
    | some (cs, e) => if e = n then some cs else (match zeroC P t with | some z => laidIn place parts z | none => none)
    | none => match zeroC P t with | some z => laidIn place parts z | none => none

def abuild (P : Program) (t : TypeId) (parts : List (Nat × AV)) : Option AV :=
  match zeroC P t with
  | none => none
  | some z =>
    if sizeT P t = some (wid z) then
      match P.underlying t with
      | some (.struct fs) => if fs.toList.all (fun f => (sizeT P f.type).isSome) then (abuildC P t (placeS P fs) parts).map .agg else none
      | some (.array _ e) => match sizeT P e with
        | some s => (abuildC P t (placeA s) parts).map fun cs => .agg (norm1 cs)
        | none => none
      | _ => none
    else none

theorem abuildC_rel {P : Program} {M : List Place} {t : TypeId} {place : Nat → Option (Nat × Nat)} {as : List (Nat × AV)} {vs : List (Nat × Value)} {cs : List AV} {cells : Array Value} (hr : RelP M as vs) (hz : ∀ z, zeroC P t = some z → RelC M z cells.toList)
    (hs : sizeT P t = some cells.size) (h : abuildC P t place as = some cs) : ∃ cells' : Array Value, Instr.fill place cells vs = some cells' ∧ RelC M cs cells'.toList := by
  unfold abuildC at h
  rw [hs] at h
  simp only at h
  have laid : ∀ r, (match zeroC P t with | some z => laidIn place as z | none => none) = some r → ∃ cells' : Array Value, Instr.fill place cells vs = some cells' ∧ RelC M r cells'.toList := by
    intro r hr'
    split at hr'
    · rename_i z hzz
      obtain ⟨c', h1, h2, _⟩ := laidIn_fill hr (hz z hzz) hr'
      exact ⟨c', h1, h2⟩
    · cases hr'
  split at h
  · rename_i cs' e hc
    split at h
    · rename_i he
      cases h
      subst he
      obtain ⟨_, c', h1, us, h2, h3, h4⟩ := consec_fill hr hc (Nat.le_refl _)
      refine ⟨c', h1, ?_⟩
      rw [h4, List.drop_of_length_le (by simp)]
      simpa using h2
    · exact laid _ h
  · exact laid _ h

theorem run_places {P : Program} : ∀ {fs : List Field}, fs.all (fun f => (sizeT P f.type).isSome) = true → ∀ w, (fs.mapM fun f => (Prod.mk f.offset <$> sizeOf f.type : Sem (Nat × Nat))).run P w = .ok (fs.map fun f => (f.offset, (sizeT P f.type).getD 0)) w
  | [], _, w => by simp
  | f :: fs, h, w => by
    simp only [List.all_cons, Bool.and_eq_true] at h
    obtain ⟨s, hs⟩ := Option.isSome_iff_exists.1 h.1
    have ih := run_places h.2 w
    simp [run_sizeT hs, ih, hs]

theorem abuild_sound {P : Program} {M : List Place} {ρ : Operand → Value} {g : Operand → AV} (hg : ∀ x, RelV M (g x) (ρ x)) {o : Oper} {t : TypeId} {parts : Array (Nat × Operand)} (ho : o.op = .build t parts)
    {r : AV} (h : abuild P t (parts.toList.map fun z => (z.1, g z.2)) = some r) : ∃ v, RelV M r v ∧ ∀ w, (execOp ρ o).run P w = .ok (.value v) w := by
  unfold abuild at h
  have hp := relP_map hg parts.toList
  split at h
  · cases h
  rename_i z hz
  obtain ⟨i, zv, hi, hzv, hzrun, hzrel⟩ := zeroC_rel hz
  split at h
  · rename_i hsz
    have hlen : zv.cells.size = wid z := by have := RelC_length (hzrel M); simpa using this
    rw [← hlen] at hsz
    have hzz : ∀ z', zeroC P t = some z' → RelC M z' zv.cells.toList := fun z' hz' => by
      rw [hz] at hz'; cases hz'; exact hzrel M
    split at h
    · rename_i fs hu
      split at h
      · rename_i hall
        simp only [Option.map_eq_some_iff] at h
        obtain ⟨cs, hcs, rfl⟩ := h
        obtain ⟨cells', h1, h2⟩ := abuildC_rel hp hzz hsz hcs
        refine ⟨.agg cells', RelX_agg.2 ⟨_, rfl, h2⟩, fun w => ?_⟩
        have hpl := run_places (P := P) hall w
        have hfill : Instr.fill (fun i => Option.map (fun f : Field => (f.offset, (sizeT P f.type).getD 0)) fs[i]?) zv.cells (parts.toList.map fun z => (z.1, ρ z.2)) = some cells' := by
          rw [← h1]
          congr 1
          funext i
          simp only [placeS]
          cases hfi : fs[i]? with
          | none => simp
          | some f =>
            have hmem : f ∈ fs.toList := by
              have := Array.mem_of_getElem? hfi
              exact Array.mem_toList_iff.2 this
            have := List.all_eq_true.1 hall f hmem
            obtain ⟨s, hs⟩ := Option.isSome_iff_exists.1 this
            simp [hs]
        simp [execOp, ho, Instr.build, hzrun w, run_underlying hu, Array.mapM_eq_mapM_toList, hpl, hfill]
      · cases h
    · rename_i n e hu
      split at h
      · rename_i s hs
        simp only [Option.map_eq_some_iff] at h
        obtain ⟨cs, hcs, rfl⟩ := h
        obtain ⟨cells', h1, h2⟩ := abuildC_rel hp hzz hsz hcs
        refine ⟨.agg cells', RelX_agg.2 ⟨_, rfl, norm1_rel h2⟩, fun w => ?_⟩
        have hfill : Instr.fill (fun i => some (i * s, s)) zv.cells (parts.toList.map fun z => (z.1, ρ z.2)) = some cells' := h1
        simp [execOp, ho, Instr.build, hzrun w, run_underlying hu, run_sizeT hs, hfill]
      · cases h
    · cases h
  · cases h

end Go.AE

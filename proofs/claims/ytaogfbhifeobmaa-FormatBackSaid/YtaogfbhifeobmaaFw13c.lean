/- The framework AE, part 13c: operations that make new memory of what is known beforehand; in reality they may be done earlier. -/
import Derived.Test.YtaogfbhifeobmaaFw13b
set_option linter.unusedVariables false
set_option linter.unusedSimpArgs false
namespace Go.AE
open Go Go.RowKit

variable {ρ : Type}

def isConstO : Operand → Bool
  | .const _ => true
  | _ => false

/-- Of what is always the same: the value, by the number of its block, and what the block holds. -/
def mkr (P : Program) (o : Oper) : Option ((Nat → AV) × Cont) := match o.guard with
  | some _ => none
  | none => match o.op with
    | .alloc t => match zeroC P t with
      | some cs => some (fun n => .ptr n 0 none (wid cs) (wid cs), .segs cs)
      | none => none
    | .buildSlice t len parts => if parts.toList.all (fun z => isConstO z.2) = true then
        match abuildSlice P [] t len (parts.toList.map fun z => (z.1, St.get ⟨[], []⟩ z.2)) with
        | some (.sl _ _ l s _, [some ⟨.row k r, _, _⟩]) => some (fun n => .sl n 0 l s .own, .row k r)
        | _ => none
      else none
    | _ => none

structure Makes (P : Program) (o : Oper) (f : Nat → AV) (c : Cont) (val : Nat → Value) (cs : Array Value) (el : TypeId) (k : Nat) : Prop where
  guard : o.guard = none
  run : ∀ (a : Act) (w : World), (execOp a.eval o).run P w = .ok (.value (val w.heap.size)) (w.alloc (.cells cs el))
  le : k ≤ cs.size
  cont : ∀ M, RelO M c (cs.toList.take k)
  rel : ∀ (M : List Place) (n g : Nat), M[n]? = some ⟨false, g, 0, k, cs.size, noFz⟩ → RelV M (f n) (val g)

theorem mkr_sound {P : Program} {o : Oper} {f : Nat → AV} {c : Cont} (h : mkr P o = some (f, c)) : ∃ val cs el k, Makes P o f c val cs el k := by
  unfold mkr at h
  split at h
  · cases h
  · rename_i hg
    split at h
    · rename_i t hop
      split at h
      · rename_i cz hz
        cases h
        obtain ⟨_, z, _, _, hrun, hrel⟩ := zeroC_rel hz
        have hl := RelC_length (hrel [])
        simp at hl
        refine ⟨fun g => .pointer (some ⟨g, 0, none⟩), z.cells, t, wid cz, hg, fun a w => ?_, by omega, fun M => ?_, fun M n g hM => ?_⟩
        · simp [execOp, hop, Instr.alloc, hrun w, newVar, newRow, newObj, Sem.run]
        · rw [List.take_of_length_le (by simp; omega)]
          exact hrel M
        · simp only [RelV, RelX]
          exact ⟨_, hM, rfl, by simp, by simp, by simp⟩
      · cases h
    · rename_i t len parts hop
      split at h
      · rename_i hc
        split at h
        · rename_i b0 off l s cap k r ow pn hb
          cases h
          have hget : ∀ x : Operand, isConstO x = true → ∀ (a : Act) M, RelV M (St.get ⟨[], []⟩ x) (a.eval x) := by
            intro x hx a M
            cases x with
            | const v => exact ofConst_rel M v
            | _ => cases hx
          have hall := List.all_eq_true.1 hc
          -- a valuation that reads constants as they are
          have key : ∀ a : Act, ∃ (cells : Array Value) (e : TypeId), l = len ∧ RelO [] (.row k r) cells.toList ∧ cells.size = len * s ∧ IntKind.i64.has (len : Int) ∧
              ∀ w, (execOp a.eval o).run P w = .ok (.value (.slice (some ⟨w.heap.size, 0, none⟩) len len)) (w.alloc (.cells cells e)) := by
            intro a
            have hg2 : ∀ x : Operand, RelV [] (if isConstO x = true then St.get ⟨[], []⟩ x else .undef) (a.eval x) := by
              intro x
              split
              · rename_i hx; exact hget x hx a []
              · exact relV_undef _ _
            have he : (parts.toList.map fun z => (z.1, St.get ⟨[], []⟩ z.2)) = parts.toList.map fun z => (z.1, if isConstO z.2 = true then St.get ⟨[], []⟩ z.2 else .undef) := by
              refine List.map_congr_left fun z hz => ?_
              rw [if_pos (hall z hz)]
            rw [he] at hb
            obtain ⟨c', cells, e, s', q1, q2, q3, q4, q5, q6⟩ := abuildSlice_run (M := []) hg2 hop hb
            simp only [List.length_nil, AV.sl.injEq] at q1
            obtain ⟨_, _, rfl, rfl, _⟩ := q1
            simp only [List.nil_append, List.cons.injEq, Option.some.injEq, AObj.mk.injEq, and_true] at q2
            obtain ⟨rfl, _⟩ := q2
            exact ⟨cells, e, rfl, q3, q4, q5, q6⟩
          obtain ⟨cells, e, rfl, q3, q4, q5, q6⟩ := key ⟨#[], []⟩
          refine ⟨fun g => .slice (some ⟨g, 0, none⟩) l l, cells, e, l * s, hg, fun a w => ?_, by omega, fun M => ?_, fun M n g hM => ?_⟩
          · have hex : execOp a.eval o = execOp (⟨#[], []⟩ : Act).eval o := by
              have hp : (parts.map fun (x : Nat × Operand) => (x.1, a.eval x.2)) = parts.map fun (x : Nat × Operand) => (x.1, (⟨#[], []⟩ : Act).eval x.2) := by
                refine Array.map_congr_left fun x hx => ?_
                have := hall x (by simpa using hx)
                cases hx2 : x.2 with
                | const v => rfl
                | _ => rw [hx2] at this; cases this
              simp only [execOp, hop]
              rw [hp]
            rw [hex]
            exact q6 w
          · rw [List.take_of_length_le (by simp; omega)]
            exact q3
          · simp only [RelV, RelX]
            exact ⟨_, _, _, hM, rfl, by simp, Nat.le_refl _, fun h => (by cases h), fun _ => ⟨by simp, fun _ => by simp⟩, fun h => (by cases h), fun _ => by simp [q4], fun h => (by cases h), q5⟩
        · cases h
      · cases h
    · cases h

/-- The makers of a region, with their slots. -/
def mkrs (P : Program) (ops : Array Oper) : List (Nat × Tmp) := (List.range ops.size).filterMap fun i => match ops[i]? with
  | some o => match o.dst with
    | some d => if (mkr P o).isSome = true then some (i, d) else none
    | none => none
  | none => none

/-- No other operation writes a maker's slot. -/
def mkrsOk (ops : Array Oper) (ms : List (Nat × Tmp)) : Bool := ms.all fun m => (List.range ops.size).all fun j => j == m.1 || match ops[j]? with
  | some o => !(o.dst == some m.2)
  | none => true

/-- Nothing is known of slots whose makers are yet to come. -/
def clearM (listed : Array Bool) : List (Nat × Tmp) → St → St
  | [], st => st
  | (i, d) :: ms, st => if listed.getD i true = true then clearM listed ms st else clearM listed ms ⟨st.tmps.set d .undef, st.heap⟩

theorem clearM_heap (listed : Array Bool) : ∀ (ms : List (Nat × Tmp)) (st : St), (clearM listed ms st).heap = st.heap
  | [], _ => rfl
  | (i, d) :: ms, st => by
    unfold clearM
    split
    · exact clearM_heap listed ms st
    · rw [clearM_heap listed ms]

theorem clearM_len (listed : Array Bool) : ∀ (ms : List (Nat × Tmp)) (st : St), (clearM listed ms st).tmps.length = st.tmps.length
  | [], _ => rfl
  | (i, d) :: ms, st => by
    unfold clearM
    split
    · exact clearM_len listed ms st
    · rw [clearM_len listed ms]; simp

theorem clearM_get (listed : Array Bool) : ∀ (ms : List (Nat × Tmp)) (st : St) (t : Nat), (clearM listed ms st).tmps.getD t .undef = st.tmps.getD t .undef ∨ (clearM listed ms st).tmps.getD t .undef = .undef
  | [], _, _ => .inl rfl
  | (i, d) :: ms, st, t => by
    unfold clearM
    split
    · exact clearM_get listed ms st t
    · rcases clearM_get listed ms ⟨st.tmps.set d .undef, st.heap⟩ t with h | h
      · rw [h]
        by_cases hd : d = t
        · subst hd
          right
          by_cases hl : d < st.tmps.length
          · simp [List.getD_eq_getElem?_getD, hl]
          · simp only [List.getD_eq_getElem?_getD]
            rw [List.getElem?_eq_none (by simpa using hl)]
            rfl
        · left
          simp [List.getD_eq_getElem?_getD, List.getElem?_set_ne hd]
      · exact .inr h

theorem clearM_undef (listed : Array Bool) : ∀ (ms : List (Nat × Tmp)) (st : St) {i : Nat} {d : Tmp}, (i, d) ∈ ms → listed.getD i true = false → (clearM listed ms st).tmps.getD d .undef = .undef
  | (i', d') :: ms, st, i, d, hm, hl => by
    rcases List.mem_cons.1 hm with h | h
    · cases h
      unfold clearM
      rw [if_neg (by rw [hl]; decide)]
      rcases clearM_get listed ms ⟨st.tmps.set d' .undef, st.heap⟩ d' with h | h
      · rw [h]
        by_cases hl : d' < st.tmps.length
        · simp [List.getD_eq_getElem?_getD, hl]
        · simp only [List.getD_eq_getElem?_getD]
          rw [List.getElem?_eq_none (by simpa using hl)]
          rfl
      · exact h
    · unfold clearM
      split <;> exact clearM_undef listed ms _ h hl

theorem RelT.clear {M : List Place} {st : St} {a : Array Value} (h : RelT M st.tmps a) (listed : Array Bool) (ms : List (Nat × Tmp)) : RelT M (clearM listed ms st).tmps a := by
  refine ⟨by rw [clearM_len, h.1], fun t => ?_⟩
  rcases clearM_get listed ms st t with e | e
  · rw [e]; exact h.2 t
  · rw [e]; exact relV_undef _ _

/-- A slot of which nothing is known may hold whatever. -/
theorem RelT.putAny {M : List Place} {ts : List AV} {a : Array Value} (h : RelT M ts a) {d : Tmp} (hd : ts.getD d .undef = .undef) (v : Value) : RelT M ts (a.setIfInBounds d v) := by
  refine ⟨by simp [h.1], fun t => ?_⟩
  by_cases e : d = t
  · subst e; rw [hd]; exact relV_undef _ _
  · have := h.2 t
    rwa [show (a.setIfInBounds d v).getD t undef = a.getD t undef by simp [Array.getElem?_setIfInBounds_ne e]]

/-! ### makers that were done ahead -/

/-- The blocks that were made ahead may neither be written nor seen. -/
def Base.less (B : Base) (E : List (Nat × Nat)) : Base := ⟨fun k => B.w k ∧ ∀ p ∈ E, k ≠ p.2, fun k => B.vis k ∧ ∀ p ∈ E, k ≠ p.2, B.pin, B.f⟩

/-- What has come up in reality. -/
def lst (E : List (Nat × Nat)) (listed : Array Bool) : Array Bool := E.foldl (fun l p => l.setIfInBounds p.1 true) listed

theorem lst_set (E : List (Nat × Nat)) (listed : Array Bool) (i : Nat) : lst E (listed.setIfInBounds i true) = (lst E listed).setIfInBounds i true := by
  induction E generalizing listed with
  | nil => rfl
  | cons p E ih =>
    show lst E ((listed.setIfInBounds i true).setIfInBounds p.1 true) = (lst E (listed.setIfInBounds p.1 true)).setIfInBounds i true
    by_cases h : i = p.1
    · subst h
      rw [← ih]
    · rw [Array.setIfInBounds_comm _ _ h, ih]

theorem lst_snoc (E : List (Nat × Nat)) (p : Nat × Nat) (listed : Array Bool) : lst (E ++ [p]) listed = (lst E listed).setIfInBounds p.1 true := by
  simp [lst, List.foldl_append]

theorem set_twice (l : Array Bool) (i : Nat) : (l.setIfInBounds i true).setIfInBounds i true = l.setIfInBounds i true := by
  apply Array.ext
  · simp
  · intro j h1 h2
    by_cases hj : i = j
    · subst hj; simp
    · simp [Array.getElem_setIfInBounds_ne (h := hj)]

theorem lst_mem_set {E : List (Nat × Nat)} {p : Nat × Nat} (hp : p ∈ E) (listed : Array Bool) : (lst E listed).setIfInBounds p.1 true = lst E listed := by
  induction E generalizing listed with
  | nil => cases hp
  | cons q E ih =>
    show (lst E (listed.setIfInBounds q.1 true)).setIfInBounds p.1 true = lst E (listed.setIfInBounds q.1 true)
    rcases List.mem_cons.1 hp with rfl | hp
    · rw [← lst_set, set_twice]
    · exact ih hp _

theorem lst_erase {E : List (Nat × Nat)} {p : Nat × Nat} (hp : p ∈ E) (listed : Array Bool) : lst (E.erase p) (listed.setIfInBounds p.1 true) = lst E listed := by
  induction E generalizing listed with
  | nil => cases hp
  | cons q E ih =>
    by_cases h : q = p
    · subst h
      rw [List.erase_cons_head]
      rfl
    · have hp' : p ∈ E := by
        rcases List.mem_cons.1 hp with e | e
        · exact absurd e.symm h
        · exact e
      rw [List.erase_cons_tail (by simpa using h)]
      show lst (E.erase p) ((listed.setIfInBounds p.1 true).setIfInBounds q.1 true) = lst E (listed.setIfInBounds q.1 true)
      by_cases e : p.1 = q.1
      · have := ih hp' (listed.setIfInBounds q.1 true)
        rw [e, set_twice] at this
        rw [e, set_twice]
        exact this
      · rw [Array.setIfInBounds_comm _ _ e, ih hp']

theorem lst_getD_true {E : List (Nat × Nat)} {listed : Array Bool} {j : Nat} (h : listed.getD j false = true) : (lst E listed).getD j false = true := by
  induction E generalizing listed with
  | nil => exact h
  | cons p E ih => exact ih (getD_set_true h)

theorem lst_getD_ne {E : List (Nat × Nat)} {listed : Array Bool} {j : Nat} (h : ∀ p ∈ E, p.1 ≠ j) (d : Bool) : (lst E listed).getD j d = listed.getD j d := by
  induction E generalizing listed with
  | nil => rfl
  | cons p E ih =>
    show (lst E (listed.setIfInBounds p.1 true)).getD j d = _
    rw [ih fun q hq => h q (List.mem_cons_of_mem _ hq), getD_set_ne d (h p (List.mem_cons_self ..))]

theorem lst_size (E : List (Nat × Nat)) (listed : Array Bool) : (lst E listed).size = listed.size := by
  induction E generalizing listed with
  | nil => rfl
  | cons p E ih =>
    show (lst E (listed.setIfInBounds p.1 true)).size = _
    rw [ih]; simp

/-- How many are yet to come. -/
def cntF (l : Array Bool) : Nat := (l.toList.filter fun b => !b).length

theorem cntF_set {l : Array Bool} {i : Nat} (h : l.getD i true = false) : cntF (l.setIfInBounds i true) + 1 = cntF l := by
  have hi : i < l.size := by
    rcases Nat.lt_or_ge i l.size with h' | h'
    · exact h'
    · simp [Array.getElem?_eq_none h'] at h
  have hv : l[i] = false := by simpa [hi] using h
  unfold cntF
  have key : ∀ (xs : List Bool) (i : Nat), xs[i]? = some false → ((xs.set i true).filter fun b => !b).length + 1 = (xs.filter fun b => !b).length := by
    intro xs
    induction xs with
    | nil => intro i h; cases h
    | cons x xs ih =>
      intro i h
      cases i with
      | zero =>
        simp at h
        subst h
        simp
      | succ i =>
        have := ih i (by simpa using h)
        cases x <;> simp at this ⊢ <;> omega
  rw [Array.toList_setIfInBounds]
  exact key _ _ (by simp [hi, hv])

theorem ready_lst {ops : Array Oper} {E : List (Nat × Nat)} {listed : Array Bool} {j : Nat} (hj : j ∈ Region.ready .any ops listed) (hne : ∀ p ∈ E, p.1 ≠ j) : j ∈ Region.ready .any ops (lst E listed) := by
  rw [mem_ready] at *
  obtain ⟨h0, o, ho, hall⟩ := hj
  exact ⟨by rw [lst_getD_ne hne]; exact h0, o, ho, fun e he hb => lst_getD_true (hall e he hb)⟩

theorem closed_lst {ops : Array Oper} {E : List (Nat × Nat)} {listed : Array Bool} (hc : Closed ops listed) (hE : ∀ p ∈ E, p.1 ∈ Region.ready .any ops listed) : Closed ops (lst E listed) := by
  intro j o ho hj e he hb
  by_cases hm : ∃ p ∈ E, p.1 = j
  · obtain ⟨p, hp, rfl⟩ := hm
    obtain ⟨_, o', ho', hall⟩ := mem_ready.1 (hE p hp)
    rw [ho] at ho'; cases ho'
    exact lst_getD_true (hall e he hb)
  · have hne : ∀ p ∈ E, p.1 ≠ j := fun p hp h => hm ⟨p, hp, h⟩
    rw [lst_getD_ne hne] at hj
    exact lst_getD_true (hc j o ho hj e he hb)

/-- What may come up now in reality, if more than that had come up. -/
theorem ready_more {ops : Array Oper} {E : List (Nat × Nat)} {listed : Array Bool} {l : List Nat} (hE : ∀ p ∈ E, p.1 ∈ l) {k : Nat} (hk : k ∈ Region.ready .any ops (lst E listed)) (hkl : k ∉ l) : k ∈ Region.ready .any ops (l.foldl (fun a i => a.setIfInBounds i true) listed) := by
  have up : ∀ (l : List Nat) (a : Array Bool) (j : Nat), a.getD j false = true → (l.foldl (fun a i => a.setIfInBounds i true) a).getD j false = true := by
    intro l
    induction l with
    | nil => intro a j h; exact h
    | cons i l ih => intro a j h; exact ih _ _ (getD_set_true h)
  have keep : ∀ (l : List Nat) (a : Array Bool) (j : Nat), j ∉ l → (l.foldl (fun a i => a.setIfInBounds i true) a).getD j true = a.getD j true := by
    intro l
    induction l with
    | nil => intro a j h; rfl
    | cons i l ih =>
      intro a j h
      simp only [List.mem_cons, not_or] at h
      rw [List.foldl_cons, ih _ _ h.2, getD_set_ne true (fun e => h.1 e.symm)]
  have hit : ∀ (l : List Nat) (a : Array Bool) (j : Nat), j ∈ l → j < a.size → (l.foldl (fun a i => a.setIfInBounds i true) a).getD j false = true := by
    intro l
    induction l with
    | nil => intro a j h; cases h
    | cons i l ih =>
      intro a j h hj
      rcases List.mem_cons.1 h with rfl | h
      · exact up l _ _ (by simp [hj])
      · exact ih _ _ h (by simpa using hj)
  rw [mem_ready] at *
  obtain ⟨h0, o, ho, hall⟩ := hk
  have hne : ∀ p ∈ E, p.1 ≠ k := fun p hp e => hkl (e ▸ hE p hp)
  rw [lst_getD_ne hne] at h0
  refine ⟨by rw [keep _ _ _ hkl]; exact h0, o, ho, fun e he hb => ?_⟩
  have h1 := hall e he hb
  by_cases hm : ∃ p ∈ E, p.1 = e.on
  · obtain ⟨p, hp, hpe⟩ := hm
    refine hit l listed _ (hpe ▸ hE p hp) ?_
    rcases Nat.lt_or_ge e.on listed.size with h' | h'
    · exact h'
    · rw [show (lst E listed).getD e.on false = false by simp [Array.getElem?_eq_none (show (lst E listed).size ≤ e.on by rw [lst_size]; exact h')]] at h1
      cases h1
  · rw [lst_getD_ne (fun p hp h => hm ⟨p, hp, h⟩)] at h1
    exact up _ _ _ h1

end Go.AE

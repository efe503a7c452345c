/- The framework AE, part 11: slices made, appended to, copied. -/
import Derived.Test.YtaogfbhifeobmaaFw10
set_option linter.unusedVariables false
set_option linter.unusedSimpArgs false
namespace Go.AE
open Go Go.RowKit

/-- Cells as a block's content. -/
def contOf (cs : List AV) : Cont :=
  match oneKind cs with
  | some (k, _) => match toInts k cs with
    | some l => .row k l
    | none => .segs cs
  | none => .segs cs

theorem contOf_rel {M : List Place} {cs : List AV} {vs : List Value} (h : RelC M cs vs) : RelO M (contOf cs) vs := by
  unfold contOf
  split
  · split
    · rename_i l hl
      exact toInts_rel h hl
    · exact h
  · exact h

/-- The zero value is so many zeros of one kind. -/
def zeroInts (P : Program) (t : TypeId) : Option (IntKind × Nat) :=
  match zeroC P t with
  | some z => match oneKind z with
    | some (k, m) => if toInts k z = some (List.replicate m 0) ∧ sizeT P t = some m ∧ 1 ≤ m then some (k, m) else none
    | none => none
  | none => none

theorem zeroInts_spec {P : Program} {t : TypeId} {k : IntKind} {m : Nat} (h : zeroInts P t = some (k, m)) :
    ∃ z : Value, (∀ w, (zeroValue t).run P w = .ok z w) ∧ z.cells.toList = List.replicate m (.int k 0) ∧ sizeT P t = some m ∧ 1 ≤ m ∧ k.has 0 := by
  unfold zeroInts at h
  split at h
  · rename_i z hz
    split at h
    · rename_i k' m' hk
      split at h
      · rename_i hc
        obtain ⟨h1, h2, h3⟩ := hc
        cases h
        obtain ⟨i, v, _, _, hrun, hrel⟩ := zeroC_rel hz
        obtain ⟨e1, e2⟩ := toInts_rel (hrel []) h1
        refine ⟨v, hrun, by rw [e1]; simp, h2, h3, e2 0 (by simp; omega)⟩
      · cases h
    · cases h
  · cases h

theorem zero_row {z : Value} {k : IntKind} {m : Nat} (h : z.cells.toList = List.replicate m (.int k 0)) (hm : 1 ≤ m) (n : Nat) : ((Array.range n).map (z.cells[· % z.cells.size]!)).toList = List.replicate n (.int k 0) := by
  have hs : z.cells.size = m := by have := congrArg List.length h; simpa using this
  apply List.ext_getElem?
  intro i
  by_cases hi : i < n
  · have hlt : i % m < z.cells.size := by rw [hs]; exact Nat.mod_lt _ (by omega)
    have : z.cells[i % m]? = some (.int k 0) := by
      have := congrArg (fun l : List Value => l[i % m]?) h
      simp only [Array.getElem?_toList, List.getElem?_replicate] at this
      rw [this, if_pos (Nat.mod_lt _ (by omega))]
    have h2 : z.cells[i % m]! = .int k 0 := by
      rw [getElem!_pos z.cells (i % m) hlt]
      rw [Array.getElem?_eq_getElem hlt] at this
      exact Option.some.inj this
    simp [hi, hs, h2]
  · simp [hi]

/-- A new row: the slice of it. -/
theorem relV_newSl {M : List Place} {H : Heap} {B : Base} {w : World} (r : RelH M H B w) {len sz cap size : Nat} (hcap : len ≤ cap) (hsz : cap * sz ≤ size) (hl : IntKind.i64.has (len : Int)) :
    RelV (M ++ [newPlace w (len * sz) size]) (.sl H.length 0 len sz .own) (.slice (some ⟨w.heap.size, 0, none⟩) len cap) := by
  simp only [RelV, RelX]
  refine ⟨newPlace w (len * sz) size, _, cap, by rw [r.len]; simp, rfl, by simp [newPlace], hcap, fun h => (by cases h), fun _ => ⟨by simp, fun _ => by simp [newPlace]⟩, fun h => (by cases h), fun _ => ⟨trivial, rfl, rfl, hsz⟩, fun h => (by cases h), hl⟩

def contLaid (P : Program) (e : TypeId) (s len : Nat) (parts : List (Nat × AV)) : Option Cont :=
  match zeroInts P e with
  | some (k, _) => match laidIn (placeA s) parts [.is k (len * s) (List.replicate (len * s) 0)] with
    | some cs => some (contOf cs)
    | none => none
  | none => none

def contMade (P : Program) (e : TypeId) (s : Nat) (z : List AV) (len : Nat) (parts : List (Nat × AV)) : Option Cont :=
  if len = 0 ∧ parts.isEmpty = true then (match oneKind z with | some (k, _) => some (.row k []) | none => some (.segs []))
  else match consec (placeA s) parts 0 with
    | some (cs, n) => if n = len * s then some (contOf cs) else contLaid P e s len parts
    | none => contLaid P e s len parts

def abuildSlice (P : Program) (H : Heap) (t : TypeId) (len : Nat) (parts : List (Nat × AV)) : Option (AV × Heap) :=
  match P.underlying t with
  | some (.slice e) => match sizeT P e, zeroC P e with
    | some s, some z => if 1 ≤ s ∧ len * s ≤ 16777216 then
        match contMade P e s z len parts with
        | some c => some (.sl H.length 0 len s .own, H ++ [some ⟨c, true, none⟩])
        | none => none
      else none
    | _, _ => none
  | _ => none

theorem buildSlice_run {P : Program} {t e : TypeId} {ρ : Operand → Value} {o : Oper} {len : Nat} {parts : Array (Nat × Operand)} (ho : o.op = .buildSlice t len parts) (hu : P.underlying t = some (.slice e)) {s : Nat} (hs : sizeT P e = some s) (hb : len * s ≤ 16777216)
    {z : Value} (hz : ∀ w, (zeroValue e).run P w = .ok z w) {cells : Array Value} (hf : ∀ zs : Array Value, zs = (if len * s = 0 then #[] else (Array.range (len * s)).map (z.cells[· % z.cells.size]!)) → Instr.fill (fun i => some (i * s, s)) zs (parts.toList.map fun z => (z.1, ρ z.2)) = some cells) (w : World) :
    (execOp ρ o).run P w = .ok (.value (.slice (some ⟨w.heap.size, 0, none⟩) len len)) (w.alloc (.cells cells e)) := by
  have hng : ¬ (len * s > 2 ^ 24) := by omega
  by_cases h0 : len * s = 0
  · have := hf #[] (by simp [h0])
    have e0 : Array.map (fun _ : Nat => (default : Value)) (Array.range 0) = #[] := by apply Array.ext <;> simp
    simp only [execOp, ho, Instr.buildSlice, Sem.run_bind, run_underlying hu, Result.andThen_ok, run_sizeT hs, h0, if_true]
    simp [e0, this, newRow, newObj, Sem.run]
  · have := hf _ (by rw [if_neg h0])
    simp only [execOp, ho, Instr.buildSlice, Sem.run_bind, run_underlying hu, Result.andThen_ok, run_sizeT hs, hng, if_false, h0, hz w, Sem.run_pure]
    simp [this, newRow, newObj, Sem.run]

theorem abuildSlice_run {P : Program} {M : List Place} {H : Heap} {ρ : Operand → Value} {g : Operand → AV} (hg : ∀ x, RelV M (g x) (ρ x)) {o : Oper} {t : TypeId} {len : Nat} {parts : Array (Nat × Operand)} (ho : o.op = .buildSlice t len parts) {x : AV} {H' : Heap}
    (h : abuildSlice P H t len (parts.toList.map fun z => (z.1, g z.2)) = some (x, H')) :
    ∃ (c : Cont) (cells : Array Value) (e : TypeId) (s : Nat), x = .sl H.length 0 len s .own ∧ H' = H ++ [some ⟨c, true, none⟩] ∧ RelO M c cells.toList ∧ cells.size = len * s ∧ IntKind.i64.has (len : Int) ∧ ∀ w, (execOp ρ o).run P w = .ok (.value (.slice (some ⟨w.heap.size, 0, none⟩) len len)) (w.alloc (.cells cells e)) := by
  unfold abuildSlice at h
  have hp := relP_map hg parts.toList
  split at h
  · rename_i e hu
    split at h
    · rename_i s z hs hz
      obtain ⟨_, zv, _, _, hzrun, hzrel⟩ := zeroC_rel hz
      split at h
      · rename_i hb
        obtain ⟨h1s, hb⟩ := hb
        have hlen : IntKind.i64.has (len : Int) := by
          rw [has_iff]; simp only [loB, hiB]
          have : len ≤ len * s := Nat.le_mul_of_pos_right _ h1s
          omega
        have fin : ∀ (c : Cont) (cells : Array Value), RelO M c cells.toList → cells.size = len * s →
            (∀ zs : Array Value, zs = (if len * s = 0 then #[] else (Array.range (len * s)).map (zv.cells[· % zv.cells.size]!)) → Instr.fill (fun i => some (i * s, s)) zs (parts.toList.map fun z => (z.1, ρ z.2)) = some cells) →
            (AV.sl H.length 0 len s .own, H ++ [some ⟨c, true, none⟩]) = (x, H') →
            ∃ (c : Cont) (cells : Array Value) (e : TypeId) (s : Nat), x = .sl H.length 0 len s .own ∧ H' = H ++ [some ⟨c, true, none⟩] ∧ RelO M c cells.toList ∧ cells.size = len * s ∧ IntKind.i64.has (len : Int) ∧ ∀ w, (execOp ρ o).run P w = .ok (.value (.slice (some ⟨w.heap.size, 0, none⟩) len len)) (w.alloc (.cells cells e)) := by
          intro c cells hc hsize hf hx
          cases hx
          exact ⟨c, cells, e, s, rfl, rfl, hc, hsize, hlen, fun w => buildSlice_run ho hu hs hb hzrun hf w⟩
        have hsz0 : ∀ zs : Array Value, zs = (if len * s = 0 then #[] else (Array.range (len * s)).map (zv.cells[· % zv.cells.size]!)) → zs.size = len * s := by
          intro zs hzs
          rw [hzs]
          split
          · rename_i h0; simp [h0]
          · simp
        have laid : ∀ c, contLaid P e s len (parts.toList.map fun z => (z.1, g z.2)) = some c → ∃ cells : Array Value, RelO M c cells.toList ∧ cells.size = len * s ∧
            ∀ zs : Array Value, zs = (if len * s = 0 then #[] else (Array.range (len * s)).map (zv.cells[· % zv.cells.size]!)) → Instr.fill (fun i => some (i * s, s)) zs (parts.toList.map fun z => (z.1, ρ z.2)) = some cells := by
          intro c hl
          unfold contLaid at hl
          split at hl
          · rename_i k m hzi
            obtain ⟨z2, hz2, hcells, _, hm1, hk0⟩ := zeroInts_spec hzi
            have hzz : z2 = zv := by
              have h1 := hz2 default
              rw [hzrun default] at h1
              cases h1
              rfl
            subst hzz
            split at hl
            · rename_i cs hcs
              cases hl
              have hrow := zero_row hcells hm1 (len * s)
              have hstart : RelC M [AV.is k (len * s) (List.replicate (len * s) 0)] (if len * s = 0 then (#[] : Array Value) else (Array.range (len * s)).map (z2.cells[· % z2.cells.size]!)).toList := by
                rw [RelC_single, RelX_is]
                refine ⟨by simp, ?_, fun y hy => by rw [(List.mem_replicate.1 hy).2]; exact hk0⟩
                split
                · rename_i h0; simp [h0]
                · rw [hrow]; simp
              obtain ⟨cells', f1, f2, f3⟩ := laidIn_fill hp hstart hcs
              exact ⟨cells', contOf_rel f2, by rw [f3]; exact hsz0 _ rfl, fun zs hzs => by rw [hzs]; exact f1⟩
            · cases hl
          · cases hl
        split at h
        · rename_i c hcm
          simp only [Option.some.injEq] at h
          suffices hk : ∃ cells : Array Value, RelO M c cells.toList ∧ cells.size = len * s ∧
              ∀ zs : Array Value, zs = (if len * s = 0 then #[] else (Array.range (len * s)).map (zv.cells[· % zv.cells.size]!)) → Instr.fill (fun i => some (i * s, s)) zs (parts.toList.map fun z => (z.1, ρ z.2)) = some cells by
            obtain ⟨cells, k1, k2, k3⟩ := hk
            exact fin c cells k1 k2 k3 h
          unfold contMade at hcm
          split at hcm
          · rename_i hpe
            obtain ⟨h0, hpe⟩ := hpe
            subst h0
            have hpn : parts.toList = [] := by
              rw [List.isEmpty_iff] at hpe
              simpa using hpe
            refine ⟨#[], ?_, by simp, fun zs hzs => ?_⟩
            · split at hcm
              · cases hcm; simp [RelO]
              · cases hcm; simp [RelO, RelC_nil]
            · rw [hzs]
              simp [hpn, Instr.fill]
          · split at hcm
            · rename_i cs n hc
              split at hcm
              · rename_i hn
                subst hn
                cases hcm
                have key : ∀ zs : Array Value, zs.size = len * s → ∃ cells' : Array Value, Instr.fill (fun i => some (i * s, s)) zs (parts.toList.map fun z => (z.1, ρ z.2)) = some cells' ∧ RelC M cs cells'.toList ∧ cells'.size = len * s := by
                  intro zs hzs
                  obtain ⟨_, c', k1, us, k2, k3, k4⟩ := consec_fill hp hc (cells := zs) (by omega)
                  refine ⟨c', k1, ?_, ?_⟩
                  · rw [k4, List.drop_of_length_le (by simp; omega)]
                    simpa using k2
                  · have := congrArg List.length k4
                    simp at this
                    omega
                obtain ⟨c', k1, k2, k3⟩ := key _ (hsz0 _ rfl)
                exact ⟨c', contOf_rel k2, k3, fun zs hzs => by rw [hzs]; exact k1⟩
              · exact laid _ hcm
            · exact laid _ hcm
        · cases h
      · cases h
    · cases h
  · cases h

theorem abuildSlice_sound {P : Program} {M : List Place} {H : Heap} {B : Base} {w : World} (r : RelH M H B w) {ρ : Operand → Value} {g : Operand → AV} (hg : ∀ x, RelV M (g x) (ρ x)) {o : Oper} {t : TypeId} {len : Nat} {parts : Array (Nat × Operand)} (ho : o.op = .buildSlice t len parts) {x : AV} {H' : Heap}
    (h : abuildSlice P H t len (parts.toList.map fun z => (z.1, g z.2)) = some (x, H')) :
    ∃ v w' M', (execOp ρ o).run P w = .ok (.value v) w' ∧ Ext M M' ∧ RelH M' H' B w' ∧ Beneath B w w' ∧ RelV M' x v := by
  obtain ⟨c, cells, e, s, rfl, rfl, hc, hsize, hlen, hrun⟩ := abuildSlice_run (M := M) hg ho h
  obtain ⟨a1, a2, a3⟩ := r.alloc (c := c) (cs := cells) (el := e) (n := len * s) (by omega) (by rw [List.take_of_length_le (by simp; omega)]; exact hc) true
  exact ⟨_, _, _, hrun w, a2, a1, a3, relV_newSl r (Nat.le_refl _) (by omega) hlen⟩

/-! ### make -/

def litN (l : Option Int) (x : Int) : Nat := match l with | some p => p.toNat | none => x.toNat

def amake (P : Program) (H : Heap) (t : TypeId) (a b : AV) : Option (Bool × AV × Heap) :=
  match P.underlying t, a, b with
  | some (.slice e), .int .i64 l x, .int .i64 l' y => match zeroInts P e, P.info? e with
    | some (k, m), some i => if i.bytes ≤ 64 then
        some ((match l, l' with | some p, some q => decide (0 ≤ p) && decide (p ≤ 1099511627776) && decide (p = q) | _, _ => decide (0 ≤ x) && (decide (x ≤ 1099511627776) && decide (x = y))),
          .sl H.length 0 (litN l x) m .own, H ++ [some ⟨.row k (List.replicate (mul1 (litN l x) m) 0), true, none⟩])
      else none
    | _, _ => none
  | _, _, _ => none

theorem amake_sound {P : Program} {M : List Place} {H : Heap} {B : Base} {w : World} (r : RelH M H B w) {ρ : Operand → Value} {o : Oper} {t : TypeId} {y z : Operand} (ho : o.op = .makeSlice t y z) {a b : AV} (ha : RelV M a (ρ y)) (hb : RelV M b (ρ z)) {x : AV} {H' : Heap} {req : Bool}
    (h : amake P H t a b = some (req, x, H')) (hreq : req = true) :
    ∃ v w' M', (execOp ρ o).run P w = .ok (.value v) w' ∧ Ext M M' ∧ RelH M' H' B w' ∧ Beneath B w w' ∧ RelV M' x v := by
  subst hreq
  unfold amake at h
  split at h
  · rename_i e l n l' n' hu
    obtain ⟨e1, g1, l1⟩ := relV_int ha
    obtain ⟨e2, g2, l2⟩ := relV_int hb
    split at h
    · rename_i k m i hzi hi
      obtain ⟨zv, hzrun, hcells, hsz, hm1, hk0⟩ := zeroInts_spec hzi
      split at h
      · rename_i hby
        simp only [Option.some.injEq, Prod.mk.injEq] at h
        obtain ⟨hq, hx, hH⟩ := h
        have hn : 0 ≤ n ∧ n ≤ 1099511627776 ∧ n = n' := by
          cases l with
          | none => simp only [Bool.and_eq_true, decide_eq_true_eq] at hq; omega
          | some p =>
            cases l' with
            | none => simp only [Bool.and_eq_true, decide_eq_true_eq] at hq; omega
            | some q =>
              have := l1 p rfl
              have := l2 q rfl
              simp only [Bool.and_eq_true, decide_eq_true_eq] at hq
              omega
        obtain ⟨n0, n1, n2⟩ := hn
        subst n2
        have hln : litN l n = n.toNat := by
          cases l with
          | none => rfl
          | some p => have := l1 p rfl; subst this; rfl
        rw [hln] at hx hH
        have hrow := zero_row hcells hm1 (n.toNat * m)
        have hwrap : IntKind.i64.wrap n = n := wrap_id (by rw [has_iff]; simp only [loB, hiB]; omega)
        have hbig : ¬ ((i.bytes : Int) * n > 2 ^ 48) := by
          have h1 : (i.bytes : Int) * n ≤ 64 * n := Int.mul_le_mul_of_nonneg_right (by omega) n0
          omega
        let cells : Array Value := if n.toNat * m = 0 then #[] else (Array.range (n.toNat * m)).map (zv.cells[· % zv.cells.size]!)
        have hcl : cells.toList = List.replicate (n.toNat * m) (.int k 0) := by
          show (if n.toNat * m = 0 then (#[] : Array Value) else _).toList = _
          split
          · rename_i h0; simp [h0]
          · exact hrow
        have hcs : cells.size = n.toNat * m := by have := congrArg List.length hcl; simpa using this
        obtain ⟨a1, a2, a3⟩ := r.alloc (c := .row k (List.replicate (n.toNat * m) 0)) (cs := cells) (el := e) (n := n.toNat * m) (by omega) (by
          rw [List.take_of_length_le (by simp; omega), hcl]
          exact ⟨by simp, fun y hy => by rw [(List.mem_replicate.1 hy).2]; exact hk0⟩) true
        refine ⟨.slice (some ⟨w.heap.size, 0, none⟩) n.toNat n.toNat, w.alloc (.cells cells e), _, ?_, a2, ?_, a3, ?_⟩
        · have hask : ∀ (b : Nat) w, (askRoom b).run P w = .ok () w := by
            intro b w
            unfold askRoom
            split <;> simp [mark, Sem.run]
          have hlt : ¬ n < 0 := by omega
          simp only [execOp, ho, e1, e2, Instr.makeSlice, Sem.run_bind, run_underlying hu, Result.andThen_ok, asInt, asIntOf, Sem.run_pure, typeInfo, run_program, hi, hwrap, hlt, hbig, decide_false, Bool.or_false, Bool.false_or, Bool.or_self]
          simp only [hask, run_sizeT hsz, newRow, newObj, Sem.run, Sem.run_ite, Sem.run_bind, Result.andThen_ok, Bool.false_eq_true, if_false, Sem.run_pure, hzrun w]
          by_cases h0 : n.toNat * m = 0
          · have hc0 : cells = #[] := by
              apply Array.eq_empty_of_size_eq_zero
              omega
            have e0 : Array.map (fun _ : Nat => (default : Value)) (Array.range 0) = #[] := by apply Array.ext <;> simp
            simp [h0, hc0, e0, Sem.run]
          · have hc1 : cells = (Array.range (n.toNat * m)).map (zv.cells[· % zv.cells.size]!) := by
              show (if n.toNat * m = 0 then (#[] : Array Value) else _) = _
              rw [if_neg h0]
            simp [h0, hc1, Sem.run]
        · rw [← hH, mul1_eq]; exact a1
        · rw [← hx]
          exact relV_newSl r (Nat.le_refl _) (by omega) (by rw [has_iff]; simp only [loB, hiB]; omega)
      · cases h
    · cases h
  · cases h

end Go.AE

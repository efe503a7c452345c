/- The framework AE, part 9: equality; lengths; the greater and the less of numbers; slices cut; what is no memory's. -/
import Derived.Test.YtaogfbhifeobmaaFw8
import Derived.Laws.StructEq
import Derived.ChangeKeysEq
set_option linter.unusedVariables false
set_option linter.unusedSimpArgs false
namespace Go.AE
open Go Go.RowKit

/-! ### equality -/

/-- How many cells a type has that is made of integers of one kind by arrays alone. -/
def flatInt (P : Program) : Nat → TypeId → IntKind → Option Nat
  | 0, _, _ => none
  | d + 1, t, k => match P.underlying t with
    | some (.int k') => if k' = k ∧ sizeT P t = some 1 then some 1 else none
    | some (.array n e) => match flatInt P d e k with
      | some m => if sizeT P e = some m ∧ sizeT P t = some (n * m) then some (n * m) else none
      | none => none
    | _ => none

theorem cells_int {k : IntKind} {l : List Int} {vs : Array Value} (h : vs.toList = l.map (.int k)) (i : Nat) (hi : i < l.length) : vs[i]? = some (.int k (l.getD i 0)) := by
  have := map_getD (k := k) hi
  rw [← h] at this
  simpa using this

theorem extract_ints {k : IntKind} {l : List Int} {vs : Array Value} (h : vs.toList = l.map (.int k)) (a m : Nat) : (vs.extract a (a + m)).toList = ((l.drop a).take m).map (.int k) := by
  simp [h, List.map_take, List.map_drop]

theorem eq_flat {P : Program} {k : IntKind} : ∀ {d : Nat} {t : TypeId} {m : Nat}, flatInt P d t k = some m → ∀ (D : Nat), d ≤ D → ∀ (x y : Value) (lx ly : List Int), lx.length = m → ly.length = m →
    (isAggT P t = some true → x.cells.toList = lx.map (.int k) ∧ x = .agg x.cells ∧ y.cells.toList = ly.map (.int k) ∧ y = .agg y.cells) →
    (isAggT P t = some false → x = .int k (lx.getD 0 0) ∧ y = .int k (ly.getD 0 0)) →
    ∀ w, (Op.equalIn D t x y).run P w = .ok (lx == ly) w
  | 0, _, _, h, _, _, _, _, _, _, _, _, _, _ => by simp [flatInt] at h
  | d + 1, t, m, h, D, hD, x, y, lx, ly, hlx, hly, hagg, hsc => by
    intro w
    obtain ⟨D, rfl⟩ : ∃ D', D = D' + 1 := ⟨D - 1, by omega⟩
    unfold flatInt at h
    split at h
    · rename_i k' hu
      split at h
      · rename_i hk
        obtain ⟨rfl, hs⟩ := hk
        cases h
        have ht : isAggT P t = some false := by simp [isAggT, hu]
        obtain ⟨e1, e2⟩ := hsc ht
        obtain ⟨a, rfl⟩ := List.length_eq_one_iff.1 hlx
        obtain ⟨b, rfl⟩ := List.length_eq_one_iff.1 hly
        rw [e1, e2, run_equalIn_int w D t _ _ _ _ hu]
        simp
      · cases h
    · rename_i n e hu
      split at h
      · rename_i m' hm'
        split at h
        · rename_i hs
          cases h
          have ht : isAggT P t = some true := by simp [isAggT, hu]
          obtain ⟨x1, x2, y1, y2⟩ := hagg ht
          have hse := hs.1
          obtain ⟨ei, hei⟩ : ∃ ei, P.info? e = some ei := by
            unfold sizeT at hse
            cases hq : P.info? e with
            | none => simp [hq] at hse
            | some ei => exact ⟨ei, rfl⟩
          have hc : P.cellsOf e = m' := by
            unfold sizeT at hse
            simp [Program.cellsOf, hei] at hse ⊢
            exact hse
          rw [x2, y2, run_equalIn_array w D x.cells y.cells hu hei, hc]
          -- item by item
          have items : ∀ (is : List Nat), (∀ i ∈ is, i < n) → (Op.eqItems D e m' x.cells y.cells is).run P w = .ok (is.all fun i => (lx.drop (i * m')).take m' == (ly.drop (i * m')).take m') w := by
            intro is
            induction is with
            | nil => intro _; simp [Op.eqItems]
            | cons i is ih =>
              intro hi
              have hin := hi i (by simp)
              have hle := mul_lt (s := m') hin
              have hpart : ∀ (v : Value) (l : List Int), l.length = n * m' → v.cells.toList = l.map (.int k) → ∃ u, (part e v.cells (i * m')).run P w = .ok u w ∧
                  (isAggT P e = some true → u.cells.toList = ((l.drop (i * m')).take m').map (.int k) ∧ u = .agg u.cells) ∧ (isAggT P e = some false → u = .int k (((l.drop (i * m')).take m').getD 0 0)) := by
                intro v l hl hv
                cases hg : isAggT P e with
                | none =>
                  exfalso
                  cases d with
                  | zero => simp [flatInt] at hm'
                  | succ d =>
                    unfold flatInt at hm'
                    cases hu2 : P.underlying e with
                    | none => simp [hu2] at hm'
                    | some td => cases td <;> simp [isAggT, hu2] at hg hm'
                | some b =>
                  cases b with
                  | true =>
                    refine ⟨.agg (v.cells.extract (i * m') (i * m' + m')), by simp [part, run_isAgg hg, run_sizeT hse], fun _ => ⟨extract_ints hv _ _, rfl⟩, fun h => by cases h⟩
                  | false =>
                    have hm1 : m' = 1 := by
                      cases d with
                      | zero => simp [flatInt] at hm'
                      | succ d =>
                        unfold flatInt at hm'
                        cases hu2 : P.underlying e with
                        | none => simp [hu2] at hm'
                        | some td =>
                          cases td <;> simp [isAggT, hu2] at hg hm'
                          exact hm'.2.symm
                    subst hm1
                    have hlt : i * 1 < l.length := by omega
                    refine ⟨.int k (l.getD (i * 1) 0), by simp [part, run_isAgg hg, show v.cells[i]? = some (.int k (l.getD i 0)) by simpa using cells_int hv (i * 1) hlt], fun h => by (cases h), fun _ => ?_⟩
                    congr 1
                    rw [List.getD_eq_getElem?_getD, List.getD_eq_getElem?_getD, List.getElem?_take, if_pos (by omega), List.getElem?_drop, Nat.add_zero]
              obtain ⟨u1, p1, p2, p3⟩ := hpart x lx hlx x1
              obtain ⟨u2, q1, q2, q3⟩ := hpart y ly hly y1
              have heq := eq_flat hm' D (by omega) u1 u2 ((lx.drop (i * m')).take m') ((ly.drop (i * m')).take m') (by simp; omega) (by simp; omega)
                (fun h => ⟨(p2 h).1, (p2 h).2, (q2 h).1, (q2 h).2⟩) (fun h => ⟨p3 h, q3 h⟩) w
              simp only [Op.eqItems, Sem.run_bind, p1, q1, heq, Result.andThen_ok, List.all_cons]
              cases hb : (lx.drop (i * m')).take m' == (ly.drop (i * m')).take m'
              · simp
              · simpa using ih (fun j hj => hi j (by simp [hj]))
          rw [items _ (fun i hi => List.mem_range.1 hi)]
          congr 1
          -- all parts are the same just where the lists are
          rw [Bool.eq_iff_iff]
          simp only [List.all_eq_true, beq_iff_eq, List.mem_range]
          constructor
          · intro hall
            apply List.ext_getElem?
            intro j
            by_cases hj : j < n * m'
            · have hm0 : 0 < m' := by
                rcases Nat.eq_zero_or_pos m' with h0 | h0
                · rw [h0] at hj; simp at hj
                · exact h0
              have h1 := hall (j / m') (by rw [Nat.div_lt_iff_lt_mul hm0]; exact hj)
              have h2 := congrArg (fun l : List Int => l[j % m']?) h1
              simp only [List.getElem?_take, if_pos (Nat.mod_lt j hm0), List.getElem?_drop] at h2
              have hdm : j / m' * m' + j % m' = j := by rw [Nat.mul_comm]; exact Nat.div_add_mod j m'
              rw [hdm] at h2
              exact h2
            · rw [List.getElem?_eq_none (by omega), List.getElem?_eq_none (by omega)]
          · rintro rfl
            intro i _
            rfl
        · cases h
      · cases h
    · cases h

def andL (e : Bool) (b : Bool) : List Field → Bool
  | [] => e
  | _ :: _ => e && b

/-- Is one the other, field by field? Fields of numbers and truths alone. -/
def aeqF (P : Program) (xs ys : List AV) : List Field → Option Bool
  | [] => some true
  | f :: fs => if f.name = "_" then none else
    match isAggT P f.type with
    | some false => match P.underlying f.type, cellAt xs f.offset, cellAt ys f.offset with
      | some (.int _), some (.int k _ x), some (.int k' _ y) => if k' = k then (match aeqF P xs ys fs with | some b => some (andL (x == y) b fs) | none => none) else none
      | some .bool, some (.bool _ x), some (.bool _ y) => match aeqF P xs ys fs with | some b => some (andL (x == y) b fs) | none => none
      | _, _, _ => none
    | some true => match sizeT P f.type with
      | some s => match apart true s xs f.offset, apart true s ys f.offset with
        | some (.agg [.is k n x]), some (.agg [.is k' n' y]) => if k' = k ∧ n' = n ∧ flatInt P 10 f.type k = some n then (match aeqF P xs ys fs with | some b => some (andL (x == y) b fs) | none => none) else none
        | _, _ => none
      | none => none
    | none => none

def aeq (P : Program) (t : TypeId) (a b : AV) : Option Bool :=
  match a, b with
  | .bool _ x, .bool _ y => match P.underlying t with
    | some .bool => some (x == y)
    | _ => none
  | .str x, .str y => match P.underlying t with
    | some .string => some (x == y)
    | _ => none
  | .agg xs, .agg ys => if P.eqGuardType P.depth t = false then
      match P.underlying t with
      | some (.struct fs) => if P.stoodInHeld t = false then aeqF P xs ys fs.toList else none
      | some (.array _ _) => match xs, ys with
        | [.is k n l], [.is k' n' l'] => if k' = k ∧ n' = n ∧ flatInt P 10 t k = some n then some (l == l') else none
        | _, _ => none
      | _ => none
    else none
  | _, _ => none

theorem aeqF_sound {P : Program} {M : List Place} {xs ys : List AV} {vx vy : Array Value} (hx : RelC M xs vx.toList) (hy : RelC M ys vy.toList) (d : Nat) (hd : 10 ≤ d) (w : World) : ∀ {fs : List Field} {b : Bool}, aeqF P xs ys fs = some b → (Op.eqFields (d + 1) vx vy fs).run P w = .ok b w
  | [], b, h => by simp [aeqF] at h; subst h; simp [Op.eqFields]
  | f :: fs, b, h => by
    unfold aeqF at h
    split at h
    · cases h
    rename_i hname
    have fin : ∀ (u v : Value) (e : Bool), (part f.type vx f.offset).run P w = .ok u w → (part f.type vy f.offset).run P w = .ok v w → (Op.equalIn (d + 1) f.type u v).run P w = .ok e w →
        (match aeqF P xs ys fs with | some b => some (andL e b fs) | none => none) = some b → (Op.eqFields (d + 1) vx vy (f :: fs)).run P w = .ok b w := by
      intro u v e h1 h2 h3 h4
      cases hq : aeqF P xs ys fs with
      | none => rw [hq] at h4; cases h4
      | some b' =>
        rw [hq] at h4
        have ih := aeqF_sound hx hy d hd w hq
        simp only [Op.eqFields, if_pos hname, Sem.run_bind, h1, h2, h3, Result.andThen_ok]
        cases fs with
        | nil =>
          simp only [Option.some.injEq, andL] at h4
          subst h4
          simp [Op.eqFields] at ih ⊢
          cases e <;> simp
        | cons g gs =>
          simp only [Option.some.injEq, andL] at h4
          subst h4
          cases e
          · simp
          · simpa using ih
    split at h
    · rename_i hg
      have hpart : ∀ (cs : List AV) (vs : Array Value) (x : AV), RelC M cs vs.toList → cellAt cs f.offset = some x → ∃ u, (part f.type vs f.offset).run P w = .ok u w ∧ RelV M x u := by
        intro cs vs x hc hxx
        obtain ⟨u, hu, hr⟩ := cellAt_rel hc hxx
        exact ⟨u, by simp [part, run_isAgg hg, show vs[f.offset]? = some u by simpa using hu], hr⟩
      split at h
      · rename_i k0 k l x k' l' y hu h1 h2
        split at h
        · rename_i hk
          subst hk
          obtain ⟨u, p1, p2⟩ := hpart xs vx _ hx h1
          obtain ⟨v, q1, q2⟩ := hpart ys vy _ hy h2
          obtain ⟨e1, _, _⟩ := relV_int p2
          obtain ⟨e2, _, _⟩ := relV_int q2
          exact fin u v (x == y) p1 q1 (by rw [e1, e2]; exact run_equalIn_int w d f.type _ _ _ _ hu) h
        · cases h
      · rename_i l x l' y hu h1 h2
        obtain ⟨u, p1, p2⟩ := hpart xs vx _ hx h1
        obtain ⟨v, q1, q2⟩ := hpart ys vy _ hy h2
        obtain ⟨e1, _⟩ := relV_bool p2
        obtain ⟨e2, _⟩ := relV_bool q2
        exact fin u v (x == y) p1 q1 (by rw [e1, e2]; exact run_equalIn_bool w d f.type _ _ hu) h
      · cases h
    · rename_i hg
      split at h
      · rename_i s hs
        split at h
        · rename_i k n x k' n' y h1 h2
          split at h
          · rename_i hk
            obtain ⟨rfl, rfl, hfl⟩ := hk
            obtain ⟨u, p1, p2⟩ := apart_sound hx hs hg h1
            obtain ⟨v, q1, q2⟩ := apart_sound hy hs hg h2
            obtain ⟨cu, eu, ru⟩ := RelX_agg.1 p1
            obtain ⟨cv, ev, rv⟩ := RelX_agg.1 q1
            have eu : u = .agg cu := by simpa using eu
            have ev : v = .agg cv := by simpa using ev
            subst eu ev
            obtain ⟨f1, f2, _⟩ := RelX_is.1 (RelC_single.1 ru)
            obtain ⟨g1, g2, _⟩ := RelX_is.1 (RelC_single.1 rv)
            refine fin _ _ (x == y) (p2 w) (q2 w) (eq_flat hfl (d + 1) (by omega) (.agg cu) (.agg cv) x y f1 g1 (fun _ => ⟨f2, rfl, g2, rfl⟩) (fun h => ?_) w) h
            rw [hg] at h
            cases h
          · cases h
        · cases h
      · cases h
    · cases h

theorem aeq_sound {P : Program} {M : List Place} {ρ : Operand → Value} {t : TypeId} {x y : Operand} {a c : AV} (hx : RelV M a (ρ x)) (hy : RelV M c (ρ y)) {b : Bool} (h : aeq P t a c = some b) (op : BinOp) (hop : op = .eql ∨ op = .neq)
    {o : Oper} {t' : TypeId} (ho : o.op = .binOp op t x y t') : ∀ w, (execOp ρ o).run P w = .ok (.value (.bool (if op = .eql then b else !b))) w := by
  intro w
  unfold aeq at h
  split at h
  · rename_i l1 x1 l2 y1
    obtain ⟨e1, _⟩ := relV_bool hx
    obtain ⟨e2, _⟩ := relV_bool hy
    split at h
    · rename_i hu
      cases h
      have := run_equal_bool (P := P) w t x1 y1 hu
      rcases hop with rfl | rfl <;> simp [execOp, ho, e1, e2, eqGuard, binOp, this]
    · cases h
  · rename_i x1 y1
    simp only [RelV, RelX] at hx hy
    have e1 : ρ x = .string (mkS x1) := by simpa using hx.1
    have e2 : ρ y = .string (mkS y1) := by simpa using hy.1
    split at h
    · rename_i hu
      cases h
      have hq : ((mkS x1).toList == (mkS y1).toList) = (x1 == y1) := by
        by_cases e : x1 = y1
        · subst e; simp
        · have h2 : mkS x1 ≠ mkS y1 := fun q => e (by rw [← bytesL_mkS hx.2.1, ← bytesL_mkS hy.2.1, q])
          have h3 : (mkS x1).toList ≠ (mkS y1).toList := fun q => h2 (by
            rw [ByteArray.toList_eq, ByteArray.toList_eq] at q
            have := Array.toList_inj.1 q
            cases hm : mkS x1
            cases hn : mkS y1
            simp_all)
          rw [beq_eq_false_iff_ne.2 e, beq_eq_false_iff_ne.2 h3]
      rcases hop with rfl | rfl
      · have h1 : binOp .eql t (.string (mkS x1)) (.string (mkS y1)) = pure (.bool ((mkS x1).toList == (mkS y1).toList)) := rfl
        rw [hq] at h1
        simp [execOp, ho, e1, e2, eqGuard, h1]
      · have h1 : binOp .neq t (.string (mkS x1)) (.string (mkS y1)) = pure (.bool !((mkS x1).toList == (mkS y1).toList)) := rfl
        rw [hq] at h1
        simp [execOp, ho, e1, e2, eqGuard, h1]
    · cases h
  · rename_i xs ys
    obtain ⟨vx, e1, c1⟩ := RelX_agg.1 hx
    obtain ⟨vy, e2, c2⟩ := RelX_agg.1 hy
    have e1 : ρ x = .agg vx := by simpa using e1
    have e2 : ρ y = .agg vy := by simpa using e2
    split at h
    · rename_i hguard
      have main : (Op.equal t (.agg vx) (.agg vy)).run P w = .ok b w := by
        split at h
        · rename_i fs hu
          split at h
          · rename_i hst
            have hf : P.fieldsOf t = fs := by simp [Program.fieldsOf, hu]
            have := run_equalIn_struct (P := P) w 9999 t vx vy (by rw [hf]; exact hu) hst
            unfold Op.equal Op.maxDepth
            rw [this, hf]
            exact aeqF_sound c1 c2 9998 (by omega) w h
          · cases h
        · rename_i n e hu
          split at h
          · rename_i k n' l k' n'' l'
            split at h
            · rename_i hk
              obtain ⟨rfl, rfl, hfl⟩ := hk
              cases h
              obtain ⟨f1, f2, _⟩ := RelX_is.1 (RelC_single.1 c1)
              obtain ⟨g1, g2, _⟩ := RelX_is.1 (RelC_single.1 c2)
              refine eq_flat hfl 10000 (by omega) (.agg vx) (.agg vy) l l' f1 g1 (fun _ => ⟨f2, rfl, g2, rfl⟩) (fun h => ?_) w
              simp [isAggT, hu] at h
            · cases h
          · cases h
        · cases h
      rcases hop with rfl | rfl <;> simp [execOp, ho, e1, e2, eqGuard, binOp, main, hguard]
    · cases h
  · cases h

end Go.AE

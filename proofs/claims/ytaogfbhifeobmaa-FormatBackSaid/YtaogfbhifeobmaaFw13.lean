/- The framework AE, part 13: the evaluator, and that what it says the machine does. -/
import Derived.Test.YtaogfbhifeobmaaFw12
set_option linter.unusedVariables false
set_option linter.unusedSimpArgs false
namespace Go.AE
open Go Go.RowKit

variable {ρ : Type}

/-- How a call is evaluated: the function, the arguments, the memory, and what is done behind it. -/
abbrev Cal (ρ : Type) := FuncId → List AV → Heap → (AV → Heap → Option ρ) → Option ρ
/-- The same of a call that leaves memory alone, but for new memory that nobody sees. -/
abbrev QCal (ρ : Type) := FuncId → List AV → Heap → (AV → Option ρ) → Option ρ

def CalAt (P : Program) (f : FuncId) (cal : List AV → Heap → (AV → Heap → Option ρ) → Option ρ) : Prop :=
  ∀ (args : List AV) (H : Heap) (K : AV → Heap → Option ρ) (r : ρ), cal args H K = some r → ∀ (M : List Place) (B : Base) (w : World) (vs : Array Value), RelL M args vs.toList → RelH M H B w →
    Calls P f vs w fun e w' => ∃ v av H' M', e = .returned v ∧ K av H' = some r ∧ Ext M M' ∧ RelH M' H' B w' ∧ Beneath B w w' ∧ RelV M' av v

def QCalAt (P : Program) (f : FuncId) (cal : List AV → Heap → (AV → Option ρ) → Option ρ) : Prop :=
  ∀ (args : List AV) (H : Heap) (K : AV → Option ρ) (r : ρ), cal args H K = some r → ∀ (M : List Place) (B : Base) (w : World) (vs : Array Value), RelL M args vs.toList → RelH M H B w →
    ∃ v av, K av = some r ∧ RelV M av v ∧ ∀ w', Below w.heap.size w w' → Calls P f vs w' fun e w'' => e = .returned v ∧ Below w'.heap.size w' w''

def Callable (P : Program) : Prop := ∀ (g : FuncId) (fn : Func), P.funcs[g]? = some fn → fn.body.isSome = true → fn.name ≠ "runtime.NumGoroutine"

/-! ### one operation -/

/-- An operation that makes or writes memory. -/
def an (P : Program) (H : Heap) (g : Operand → AV) : Op → Option (Bool × AV × Heap)
  | .alloc t => (aalloc P H t).map fun x => (true, x.1, x.2)
  | .box _ y => (abox H (g y)).map fun x => (true, x.1, x.2)
  | .buildSlice t n parts => (abuildSlice P H t n (parts.toList.map fun z => (z.1, g z.2))).map fun x => (true, x.1, x.2)
  | .makeSlice t a b => amake P H t (g a) (g b)
  | .store t a x => (astore P H t (g a) (g x)).map fun h => (true, .undef, h)
  | .call c => match c.callee, c.args.toList with
    | .builtin .append, [y, z] => aappend P H c.argTypes (g y) (g z)
    | .builtin .copy, [y, z] => (acopy P H c.argTypes (g y) (g z)).map fun x => (true, x.1, x.2)
    | _, _ => none
  | _ => none

theorem an_sound {P : Program} {M : List Place} {H : Heap} {B : Base} {w : World} (r : RelH M H B w) {e : Operand → Value} {g : Operand → AV} (hg : ∀ x, RelV M (g x) (e x)) {o : Oper} {req : Bool} {x : AV} {H' : Heap}
    (h : an P H g o.op = some (req, x, H')) (hreq : req = true) :
    ∃ v w' M', ((execOp e o).run P w = .ok (.value v) w' ∨ ((execOp e o).run P w = .ok .skip w' ∧ v = undef)) ∧ Ext M M' ∧ RelH M' H' B w' ∧ Beneath B w w' ∧ RelV M' x v := by
  have l : (∃ v w' M', (execOp e o).run P w = .ok (.value v) w' ∧ Ext M M' ∧ RelH M' H' B w' ∧ Beneath B w w' ∧ RelV M' x v) →
      ∃ v w' M', ((execOp e o).run P w = .ok (.value v) w' ∨ ((execOp e o).run P w = .ok .skip w' ∧ v = undef)) ∧ Ext M M' ∧ RelH M' H' B w' ∧ Beneath B w w' ∧ RelV M' x v :=
    fun ⟨v, w', M', h1, h2⟩ => ⟨v, w', M', .inl h1, h2⟩
  have un : ∀ {a : Option (AV × Heap)}, a.map (fun x => (true, x.1, x.2)) = some (req, x, H') → a = some (x, H') := by
    intro a ha
    simp only [Option.map_eq_some_iff, Prod.mk.injEq] at ha
    obtain ⟨⟨x1, x2⟩, h1, _, h2, h3⟩ := ha
    rw [h1, ← h2, ← h3]
  cases hop : o.op <;> rw [hop] at h <;> try (cases h; done)
  case alloc t => exact l (aalloc_sound r hop (un h))
  case box t y => exact l (abox_sound r hop (hg y) (un h))
  case buildSlice t n parts => exact l (abuildSlice_sound r hg hop (un h))
  case makeSlice t a b => exact l (amake_sound r hop (hg a) (hg b) h hreq)
  case store t a y =>
    simp only [an, Option.map_eq_some_iff, Prod.mk.injEq] at h
    obtain ⟨H1, h1, _, h2, rfl⟩ := h
    obtain ⟨w', hrun, hh, hb⟩ := astore_sound r hop (hg a) (hg y) h1
    exact ⟨undef, w', M, .inr ⟨hrun, rfl⟩, Ext.refl M, hh, hb, by rw [← h2]; exact relV_undef _ _⟩
  case call c =>
    simp only [an] at h
    split at h
    · rename_i y z hc ha
      have ha' : c.args = #[y, z] := by
        apply Array.toList_inj.1
        simpa using ha
      exact l (aappend_sound r hop hc ha' (hg y) (hg z) h hreq)
    · rename_i y z hc ha
      have ha' : c.args = #[y, z] := by
        apply Array.toList_inj.1
        simpa using ha
      exact l (acopy_sound r hop hc ha' (hg y) (hg z) (un h))
    · cases h

/-- The call of a function: which one, and its arguments. -/
def callOf (g : Operand → AV) : Op → Option (FuncId × List AV)
  | .call c => match c.callee with
    | .value f => match g f with
      | .fn i first cap => some (i, first ++ c.args.toList.map g ++ cap)
      | _ => none
    | _ => none
  | _ => none

theorem RelL_append {M : List Place} : ∀ {xs ys : List AV} {a b : List Value}, RelL M xs a → RelL M ys b → RelL M (xs ++ ys) (a ++ b)
  | [], ys, a, b, h1, h2 => by rw [RelL_nil] at h1; subst h1; simpa using h2
  | x :: xs, ys, a, b, h1, h2 => by
    obtain ⟨v, t, rfl, hx, hr⟩ := RelL_cons.1 h1
    exact RelL_cons.2 ⟨v, t ++ b, rfl, hx, RelL_append hr h2⟩

theorem callOf_run {P : Program} (hP : Callable P) {M : List Place} {e : Operand → Value} {g : Operand → AV} (hg : ∀ x, RelV M (g x) (e x)) {o : Oper} {i : FuncId} {args : List AV} (h : callOf g o.op = some (i, args)) {fn : Func} (hf : P.funcs[i]? = some fn) (hb : fn.body.isSome = true) :
    ∃ vs : Array Value, RelL M args vs.toList ∧ ∀ w, (execOp e o).run P w = .ok (.enter i vs) w := by
  unfold callOf at h
  split at h
  · rename_i c hop
    split at h
    · rename_i f hc
      split at h
      · rename_i i' first cap hgf
        cases h
        have hf' := hg f
        rw [hgf] at hf'
        simp only [RelV, RelX] at hf'
        obtain ⟨x, y, hv, h1, h2⟩ := hf'
        have hv : e f = .func (.func i) x y := by simpa using hv
        refine ⟨x ++ c.args.map e ++ y, ?_, fun w => ?_⟩
        · simp only [Array.toList_append, Array.toList_map]
          exact RelL_append (RelL_append h1 (relL_map hg _)) h2
        · have hn := hP i fn hf hb
          cases hq : fn.body with
          | none => simp [hq] at hb
          | some cd => simp [execOp, hop, resolve, hc, hv, Deferred.ofValue, invoke, callFunc, hf, hn, hq]
      · cases h
    · cases h
  · cases h

def evExec (P : Program) (cal : Cal ρ) (o : Oper) (st : St) (K : St → Option ρ) : Option ρ :=
  match aq P st.heap st.get o.op with
  | some (req, x) => cond req (K (st.put o.dst x)) none
  | none => match an P st.heap st.get o.op with
    | some (req, x, H') => cond req (K ⟨(st.put o.dst x).tmps, H'⟩) none
    | none => match callOf st.get o.op with
      | some (f, args) => match P.funcs[f]? with
        | some fn => match fn.body with
          | some _ => cal f args st.heap fun x H' => K ⟨(st.put o.dst x).tmps, H'⟩
          | none => none
        | none => none
      | none => none

theorem evExec_act {P : Program} (hP : Callable P) {cal : Cal ρ} (hcal : ∀ f, CalAt P f (cal f)) {o : Oper} {st : St} {K : St → Option ρ} {r : ρ} (h : evExec P cal o st K = some r) {M : List Place} {B : Base} {w0 : World} {a : Act} {w : World} (hr : Rel M st B w0 a w)
    {next : Act → World → Prop} {Q : Exit → Act → World → Prop} (hn : ∀ M' st' a' w', Ext M M' → K st' = some r → Rel M' st' B w0 a' w' → (∃ v, a' = a.put o.dst v) → next a' w') : o.wp P a w next Q := by
  have hg : ∀ x, RelV M (st.get x) (a.eval x) := fun x => get_rel hr.tmps x
  unfold evExec at h
  unfold Oper.wp
  split at h
  · rename_i req x hq
    cases req with
    | false => cases h
    | true =>
      obtain ⟨v, hv, hrun⟩ := aq_sound hr.heap hg hq rfl
      rw [hrun w (Below.refl _ _)]
      exact hn M _ _ _ (Ext.refl M) h (hr.put hv o.dst) ⟨v, rfl⟩
  · split at h
    · rename_i req x H' hq
      cases req with
      | false => cases h
      | true =>
        obtain ⟨v, w', M', hrun, hE, hH, hb, hv⟩ := an_sound hr.heap hg hq rfl
        have hrel : Rel M' ⟨(st.put o.dst x).tmps, H'⟩ B w0 (a.put o.dst v) w' := by
          have h1 := hr.withHeap hE hH hb
          have h2 := h1.put hv o.dst
          cases hd : o.dst <;> rw [hd] at h2 <;> exact h2
        rcases hrun with hrun | ⟨hrun, rfl⟩
        · rw [hrun]
          exact hn M' _ _ _ hE h hrel ⟨_, rfl⟩
        · rw [hrun]
          exact hn M' _ _ _ hE h hrel ⟨_, rfl⟩
    · split at h
      · rename_i f args hc
        split at h
        · rename_i fn hf
          split at h
          · rename_i c hb
            obtain ⟨vs, hl, hrun⟩ := callOf_run hP hg hc hf (by rw [hb]; rfl)
            rw [hrun w]
            rw [Oper.upon_enter]
            refine (hcal f args st.heap _ r h M B w vs hl hr.heap).mono ?_
            rintro e w' ⟨v, av, H', M', rfl, hk, hE, hH, hbl, hv⟩
            refine hn M' _ _ _ hE hk ?_ ⟨_, rfl⟩
            have h1 := hr.withHeap hE hH hbl
            have h2 := h1.put hv o.dst
            cases hd : o.dst <;> rw [hd] at h2 <;> exact h2
          · cases h
        · cases h
      · cases h

theorem evExec_sound {P : Program} (hP : Callable P) {cal : Cal ρ} (hcal : ∀ f, CalAt P f (cal f)) {o : Oper} {st : St} {K : St → Option ρ} {r : ρ} (h : evExec P cal o st K = some r) {M : List Place} {B : Base} {w0 : World} {a : Act} {w : World} (hr : Rel M st B w0 a w)
    {next : Act → World → Prop} {Q : Exit → Act → World → Prop} (hn : ∀ M' st' a' w', Ext M M' → K st' = some r → Rel M' st' B w0 a' w' → next a' w') : o.wp P a w next Q :=
  evExec_act hP hcal h hr fun M' st' a' w' h1 h2 h3 _ => hn M' st' a' w' h1 h2 h3

/-- An operation with its guard. -/
def guarded0 (ops : Array Oper) (o : Oper) (st : St) (exec : St → (St → Option ρ) → Option ρ) (K : St → Option ρ) : Option ρ :=
  match o.guard with
  | none => exec st K
  | some (j, want) => match ops[j]? with
    | some oj => match oj.dst with
      | some d => match st.tmps.getD d .undef with
        | .bool (some b) _ => cond (b == want) (exec st K) (K (st.put o.dst (.tup [])))
        | .bool none b => cond b
            (cond want (exec (st.put (some d) (.bool (some true) true)) K) (K ((st.put (some d) (.bool (some true) true)).put o.dst (.tup []))))
            (cond want (K ((st.put (some d) (.bool (some false) false)).put o.dst (.tup []))) (exec (st.put (some d) (.bool (some false) false)) K))
        | .tup [] => K (st.put o.dst (.tup []))
        | _ => none
      | none => none
    | none => none

theorem put_self {a : Act} {d : Tmp} : a.put (some d) (a.tmps.getD d undef) = a := by
  simp only [Act.put]
  congr 1
  apply Array.ext
  · simp
  · intro i h1 h2
    by_cases hd : d = i
    · subst hd
      simp at h1
      simp [h1]
    · rw [Array.getElem_setIfInBounds_ne (h := hd)]

theorem relV_skip (M : List Place) : RelV M (.tup []) undef := by
  simp only [RelV, RelX]
  exact ⟨#[], rfl, RelL_nil.2 rfl⟩

theorem guarded0_sound {ops : Array Oper} {o : Oper} {st : St} {exec : St → (St → Option ρ) → Option ρ} {K : St → Option ρ} {r : ρ} (h : guarded0 ops o st exec K = some r) {M : List Place} {a : Act} (ht : RelT M st.tmps a.tmps) :
    (Region.wanted o (yielded ops a.tmps) = true ∧ ∃ st' : St, exec st' K = some r ∧ RelT M st'.tmps a.tmps ∧ st'.heap = st.heap) ∨
    (Region.wanted o (yielded ops a.tmps) = false ∧ ∃ st' : St, K (st'.put o.dst (.tup [])) = some r ∧ RelT M st'.tmps a.tmps ∧ st'.heap = st.heap) := by
  unfold guarded0 at h
  split at h
  · rename_i hg
    exact .inl ⟨by simp [Region.wanted, hg], st, h, ht, rfl⟩
  · rename_i j want hg
    split at h
    · rename_i oj hj
      split at h
      · rename_i d hd
        have hrd := ht.2 d
        -- what the guard's temporary holds
        have yes : ∀ b : Bool, a.tmps.getD d undef = .bool b → yielded ops a.tmps j = some b := by
          intro b hb
          unfold yielded
          simp only [hj, Option.bind_some, hd]
          have : a.tmps[d]? = some (.bool b) := by
            by_cases hlt : d < a.tmps.size
            · simp [hlt] at hb ⊢
              exact hb
            · simp [hlt, undef] at hb
          rw [this]
        have lit : ∀ b : Bool, a.tmps.getD d undef = .bool b → RelT M (st.put (some d) (.bool (some b) b)).tmps a.tmps := by
          intro b hb
          have h1 := ht.put (x := .bool (some b) b) (v := .bool b) (by simp [RelV, RelX]) d
          rw [← hb] at h1
          have := congrArg Act.tmps (put_self (a := a) (d := d))
          simp only [Act.put] at this
          rw [this] at h1
          exact h1
        split at h
        · rename_i b x hst
          rw [hst] at hrd
          obtain ⟨e, hl⟩ := relV_bool hrd
          have := hl b rfl
          subst this
          have hy := yes _ e
          cases hbw : x == want
          · rw [hbw] at h
            refine .inr ⟨?_, st, h, ht, rfl⟩
            simp only [Region.wanted, hg, hy]
            cases x <;> cases want <;> simp at hbw ⊢
          · rw [hbw] at h
            refine .inl ⟨?_, st, h, ht, rfl⟩
            simp only [Region.wanted, hg, hy]
            cases x <;> cases want <;> simp at hbw ⊢
        · rename_i x hst
          rw [hst] at hrd
          obtain ⟨e, _⟩ := relV_bool hrd
          have hy := yes _ e
          have hli := lit _ e
          have hwant : Region.wanted o (yielded ops a.tmps) = (x == want) := by
            simp only [Region.wanted, hg, hy]
            cases x <;> cases want <;> simp
          cases x <;> cases want <;> simp only [cond] at h
          · exact .inl ⟨by rw [hwant]; rfl, _, h, hli, rfl⟩
          · exact .inr ⟨by rw [hwant]; rfl, _, h, hli, rfl⟩
          · exact .inr ⟨by rw [hwant]; rfl, _, h, hli, rfl⟩
          · exact .inl ⟨by rw [hwant]; rfl, _, h, hli, rfl⟩
        · rename_i hst
          rw [hst] at hrd
          simp only [RelV, RelX] at hrd
          obtain ⟨vs, e, hl⟩ := hrd
          have e : a.tmps.getD d undef = .tuple vs := by simpa using e
          refine .inr ⟨?_, st, h, ht, rfl⟩
          have hy : yielded ops a.tmps j = none := by
            unfold yielded
            simp only [hj, Option.bind_some, hd]
            by_cases hlt : d < a.tmps.size
            · simp [hlt] at e ⊢
              rw [e]
            · simp [hlt]
          simp only [Region.wanted, hg, hy]
          rfl
        · cases h
      · cases h
    · cases h

/-! ### an index that is not known, into cells that are no row of integers: case by case -/

def allRows : List AV → Bool
  | [] => true
  | .is _ _ _ :: r => allRows r
  | _ :: _ => false

def ixOf (st : St) : Op → Option (Tmp × IntKind × Int × Nat)
  | .indexAddr _ x (.tmp t) => match st.tmps.getD t .undef with
    | .int k none z => match st.get x with
      | .sl b _ len _ _ => match st.heap[b]? with
        | some (some ⟨.segs cs, _, _⟩) => match allRows cs with
          | true => none
          | false => some (t, k, z, len)
        | _ => none
      | .ptr b base none _ span => match st.heap[b]? with
        | some (some ⟨.segs cs, _, _⟩) => match dynAt cs base span with
          | some _ => none
          | none => some (t, k, z, span)
        | _ => none
      | _ => none
    | _ => none
  | .index _ x (.tmp t) => match st.tmps.getD t .undef with
    | .int k none z => match st.get x with
      | .agg cs => match dynAt cs 0 1 with
        | some _ => none
        | none => some (t, k, z, cs.length)
      | _ => none
    | _ => none
  | _ => none

theorem ixOf_spec {st : St} {op : Op} {t : Tmp} {k : IntKind} {z : Int} {n : Nat} (h : ixOf st op = some (t, k, z, n)) : st.tmps.getD t .undef = .int k none z := by
  unfold ixOf at h
  repeat' split at h
  all_goals first | (cases h; done) | (cases h; assumption)

def splitN (z : Int) (f : Int → Option ρ) : Nat → Nat → Option ρ
  | 0, _ => none
  | m + 1, j => cond (z == (j : Int)) (f (j : Int)) (splitN z f m (j + 1))

theorem splitN_spec {z : Int} {f : Int → Option ρ} {r : ρ} : ∀ {m j : Nat}, splitN z f m j = some r → f z = some r
  | 0, _, h => by cases h
  | m + 1, j, h => by
    unfold splitN at h
    cases hz : z == (j : Int)
    · rw [hz] at h; exact splitN_spec h
    · rw [hz] at h
      have : z = (j : Int) := by simpa using hz
      rw [this]
      exact h

def splitIx (o : Oper) (exec : St → (St → Option ρ) → Option ρ) (st : St) (K : St → Option ρ) : Option ρ :=
  match ixOf st o.op with
  | some (t, k, z, n) => splitN z (fun j => exec (st.put (some t) (.int k (some j) j)) K) n 0
  | none => exec st K

theorem splitIx_sound {o : Oper} {exec : St → (St → Option ρ) → Option ρ} {st : St} {K : St → Option ρ} {r : ρ} (h : splitIx o exec st K = some r) {M : List Place} {a : Act} (ht : RelT M st.tmps a.tmps) :
    ∃ st', exec st' K = some r ∧ RelT M st'.tmps a.tmps ∧ st'.heap = st.heap := by
  unfold splitIx at h
  split at h
  · rename_i t k z n hx
    refine ⟨_, splitN_spec h, ?_, rfl⟩
    have h0 := ht.2 t
    rw [ixOf_spec hx] at h0
    obtain ⟨e, hk, _⟩ := relV_int h0
    have h1 := ht.put (x := .int k (some z) z) (v := .int k z) (RelX_int.2 ⟨by simp, hk, fun m hm => by cases hm; rfl⟩) t
    rw [← e] at h1
    have := congrArg Act.tmps (put_self (a := a) (d := t))
    simp only [Act.put] at this
    rw [this] at h1
    exact h1
  · exact ⟨st, h, ht, rfl⟩

/-- An operation with its guard, case by case where need be. -/
def guarded (ops : Array Oper) (o : Oper) (st : St) (exec : St → (St → Option ρ) → Option ρ) (K : St → Option ρ) : Option ρ :=
  guarded0 ops o st (splitIx o exec) K

theorem guarded_sound {ops : Array Oper} {o : Oper} {st : St} {exec : St → (St → Option ρ) → Option ρ} {K : St → Option ρ} {r : ρ} (h : guarded ops o st exec K = some r) {M : List Place} {a : Act} (ht : RelT M st.tmps a.tmps) :
    (Region.wanted o (yielded ops a.tmps) = true ∧ ∃ st' : St, exec st' K = some r ∧ RelT M st'.tmps a.tmps ∧ st'.heap = st.heap) ∨
    (Region.wanted o (yielded ops a.tmps) = false ∧ ∃ st' : St, K (st'.put o.dst (.tup [])) = some r ∧ RelT M st'.tmps a.tmps ∧ st'.heap = st.heap) := by
  rcases guarded0_sound h ht with ⟨hw, st', h1, h2, h3⟩ | hr
  · obtain ⟨st2, k1, k2, k3⟩ := splitIx_sound h1 h2
    exact .inl ⟨hw, st2, k1, k2, k3.trans h3⟩
  · exact .inr hr

def evList (P : Program) (cal : Cal ρ) (ops : Array Oper) : List Oper → St → (St → Option ρ) → Option ρ
  | [], st, K => K st
  | o :: l, st, K => guarded ops o st (evExec P cal o) fun st' => evList P cal ops l st' K

theorem evList_sound {P : Program} (hP : Callable P) {cal : Cal ρ} (hcal : ∀ f, CalAt P f (cal f)) {ops : Array Oper} {Q : Exit → Act → World → Prop} {K : St → Option ρ} {r : ρ} {B : Base} {w0 : World} : ∀ {l : List Oper} {st : St} {M : List Place} {a : Act} {w : World},
    evList P cal ops l st K = some r → Rel M st B w0 a w → (∀ M' st' a' w', Ext M M' → K st' = some r → Rel M' st' B w0 a' w' → Q .normal a' w') → wpList P ops Q l a w
  | [], st, M, a, w, h, hr, hn => hn M st a w (Ext.refl M) h hr
  | o :: l, st, M, a, w, h, hr, hn => by
    unfold wpList
    rcases guarded_sound h hr.tmps with ⟨hw, st', h', ht, hh⟩ | ⟨hw, st', h', ht, hh⟩
    · rw [if_pos hw]
      have hr' : Rel M st' B w0 a w := ⟨ht, hr.defers, by rw [hh]; exact hr.heap, hr.below⟩
      exact .inl (evExec_sound hP hcal h' hr' fun M' st2 a' w' hE hk hr2 => evList_sound hP hcal hk hr2 fun M2 st3 a3 w3 hE2 => hn M2 st3 a3 w3 (hE.trans hE2))
    · rw [if_neg (by rw [hw]; simp)]
      have hr' : Rel M st' B w0 a w := ⟨ht, hr.defers, by rw [hh]; exact hr.heap, hr.below⟩
      exact evList_sound hP hcal h' (hr'.put (relV_skip M) o.dst) hn

/-! ### regions that draw their order -/

def evQExec (P : Program) (qcal : QCal ρ) (o : Oper) (st : St) (K : St → Option ρ) : Option ρ :=
  match aq P st.heap st.get o.op with
  | some (req, x) => cond req (K (st.put o.dst x)) none
  | none => match callOf st.get o.op with
    | some (f, args) => match P.funcs[f]? with
      | some fn => match fn.body with
        | some _ => qcal f args st.heap fun x => K (st.put o.dst x)
        | none => none
      | none => none
    | none => none

def evQList (P : Program) (qcal : QCal ρ) (ops : Array Oper) : List Oper → St → (St → Option ρ) → Option ρ
  | [], st, K => K st
  | o :: l, st, K => guarded ops o st (evQExec P qcal o) fun st' => evQList P qcal ops l st' K

theorem evQExec_sound {P : Program} (hP : Callable P) {qcal : QCal ρ} (hq : ∀ f, QCalAt P f (qcal f)) {o : Oper} {st : St} {K : St → Option ρ} {r : ρ} (h : evQExec P qcal o st K = some r) {M : List Place} {B : Base} {a : Act} {w : World} (ht : RelT M st.tmps a.tmps) (hH : RelH M st.heap B w)
    {next : Act → Prop} (hn : ∀ st' v, K st' = some r → RelT M st'.tmps (a.put o.dst v).tmps → st'.heap = st.heap → next (a.put o.dst v)) : o.quiet P a (fun w' => Below w.heap.size w w') next := by
  have hg : ∀ x, RelV M (st.get x) (a.eval x) := fun x => get_rel ht x
  have putT : ∀ (x : AV) (v : Value), RelV M x v → RelT M (st.put o.dst x).tmps (a.put o.dst v).tmps ∧ (st.put o.dst x).heap = st.heap := by
    intro x v hv
    cases o.dst with
    | none => exact ⟨ht, rfl⟩
    | some d => exact ⟨ht.put hv d, rfl⟩
  unfold evQExec at h
  split at h
  · rename_i req x hqq
    cases req with
    | false => cases h
    | true =>
      obtain ⟨v, hv, hrun⟩ := aq_sound hH hg hqq rfl
      obtain ⟨p1, p2⟩ := putT x v hv
      refine ⟨v, fun w' hb => ?_, hn _ v h p1 p2⟩
      unfold Oper.quietAt
      rw [hrun w' hb]
      exact ⟨rfl, rfl⟩
  · split at h
    · rename_i f args hc
      split at h
      · rename_i fn hf
        split at h
        · rename_i c hb
          obtain ⟨vs, hl, hrun⟩ := callOf_run hP hg hc hf (by rw [hb]; rfl)
          obtain ⟨v, av, hk, hv, hcalls⟩ := hq f args st.heap _ r h M B w vs hl hH
          obtain ⟨p1, p2⟩ := putT av v hv
          refine ⟨v, fun w' hbw => ?_, hn _ v hk p1 p2⟩
          unfold Oper.quietAt
          rw [hrun w']
          exact ⟨rfl, (hcalls w' hbw).mono fun e w'' ⟨he, hb2⟩ => ⟨he, hbw.trans (hb2.mono hbw.size)⟩⟩
        · cases h
      · cases h
    · cases h

theorem evQList_sound {P : Program} (hP : Callable P) {qcal : QCal ρ} (hq : ∀ f, QCalAt P f (qcal f)) {ops : Array Oper} {Qa : Act → Prop} {K : St → Option ρ} {r : ρ} {M : List Place} {B : Base} {w : World} {H : Heap} (hH : RelH M H B w) : ∀ {l : List Oper} {st : St} {a : Act},
    evQList P qcal ops l st K = some r → RelT M st.tmps a.tmps → st.heap = H → a.defers = [] → (∀ st' a', K st' = some r → RelT M st'.tmps a'.tmps → st'.heap = H → a'.defers = [] → Qa a') → wpQuiet P ops (fun w' => Below w.heap.size w w') Qa l a
  | [], st, a, h, ht, hh, hd, hn => hn st a h ht hh hd
  | o :: l, st, a, h, ht, hh, hd, hn => by
    unfold wpQuiet
    have dput : ∀ v, (a.put o.dst v).defers = [] := fun v => by cases o.dst <;> exact hd
    rcases guarded_sound h ht with ⟨hw, st', h', ht', hh'⟩ | ⟨hw, st', h', ht', hh'⟩
    · rw [if_pos hw]
      exact evQExec_sound hP hq h' ht' (by rw [hh', hh]; exact hH) fun st2 v hk ht2 hh2 => evQList_sound hP hq hH hk ht2 (by rw [hh2, hh', hh]) (dput v) hn
    · rw [if_neg (by rw [hw]; simp)]
      refine evQList_sound hP hq hH h' ?_ ?_ (dput undef) hn
      · cases o.dst with
        | none => exact ht'
        | some d => exact ht'.put (relV_skip M) d
      · cases o.dst <;> exact hh'.trans hh

end Go.AE

/- The framework AE, part 16: functions by what they come to; loops by what they come to. -/
import Derived.Test.YtaogfbhifeobmaaFw15
set_option linter.unusedVariables false
set_option linter.unusedSimpArgs false
namespace Go.AE
open Go Go.RowKit

variable {ρ : Type}

/-- Nothing is known of slots; and of memory no more than that some of it stays as it is. -/
def st0 (n : Nat) : St := ⟨List.replicate n .undef, [none]⟩
/-- A block of which nothing is told. -/
def drop0 : Act := ⟨none, false, false, false⟩

/-- All that stays as it is, at one place. -/
noncomputable def fzOf (M : List Place) (k : Nat) : Option Obj := by
  classical exact if h : ∃ ob, FzAt M k ob then some h.choose else none
noncomputable def fzPlace (M : List Place) : Place := ⟨true, 0, 0, 0, 0, fzOf M⟩
theorem fzOf_at {M : List Place} {k : Nat} {ob : Obj} (h : fzOf M k = some ob) : FzAt M k ob := by
  unfold fzOf at h
  split at h
  · rename_i hx
    cases h
    exact hx.choose_spec
  · cases h
theorem fzPlace_sub {M : List Place} : FzSub [fzPlace M] M := fun k ob ⟨i, pl, h1, h2⟩ => by
  have : pl = fzPlace M := by simpa using List.mem_of_getElem? h1
  subst this
  exact fzOf_at h2
theorem fzPlace_sup {M : List Place} {H : Heap} {B : Base} {w : World} (r : RelH M H B w) : FzSub M [fzPlace M] := fun k ob h => by
  refine ⟨0, fzPlace M, rfl, ?_⟩
  show fzOf M k = some ob
  have hx : ∃ ob, FzAt M k ob := ⟨ob, h⟩
  have e : fzOf M k = some hx.choose := by
    unfold fzOf
    rw [dif_pos hx]
  have h1 := (r.fz k ob h).1
  have h2 := (r.fz k _ hx.choose_spec).1
  rw [h1] at h2
  rw [e, Option.some.inj h2]

theorem told0 {M : List Place} {st : St} {B : Base} {w : World} {a : Array Value} (hH : RelH M st.heap B w) (n : Nat) (hn : n = a.size) : Told M st B w a [drop0] [fzPlace M] (st0 n) := by
  refine ⟨⟨by simp [st0, hn], fun t => ?_⟩, ⟨rfl, hH.base, fun i o h => ?_, fun i j oi oj pi pj h => ?_, fun i o pl k h => ?_, fun i o pl h => ?_, fun k ob h => hH.fz k ob (fzPlace_sub k ob h), fun i o pl h => ?_, hH.bf⟩, rfl, fun i ac h => ?_, fzPlace_sup hH, fzPlace_sub⟩
  · have : (List.replicate n AV.undef).getD t .undef = .undef := by
      rw [List.getD_eq_getElem?_getD, List.getElem?_replicate]
      split <;> rfl
    show RelV _ ((List.replicate n AV.undef).getD t .undef) _
    rw [this]
    exact relV_undef _ _
  all_goals try (cases i <;> simp [st0] at h)
  subst h
  refine ⟨fzPlace M, rfl, fun b h => (by cases h), ⟨fun _ => ⟨fun h => (by cases h), fun h => (by cases h)⟩, fun k ob h => fzOf_at h⟩, fun oi h => (by simp [st0] at h), fun h => (by cases h)⟩

/-- A told state fits. -/
theorem ext_rel {M : List Place} {st : St} {B : Base} {w0 : World} {a : Go.Act} {w : World} (r : Rel M st B w0 a w) {its : List Item} {d : D (tysI its [])} (h : extI st true its [] () [drop0] = some d) {n : Nat} (hn : st.tmps.length = n) : ∃ M', Rel M' (bldI its [] d (st0 n)).1 B w0 a w := by
  obtain ⟨⟨M2, t⟩, _⟩ := extI_sound r.tmps r.heap (fun h => by cases h) (told0 (a := a.tmps) r.heap n (by rw [← hn]; exact r.tmps.1)) h
  exact ⟨M2, t.tmps, r.defers, t.heap, r.below⟩

/-! ### results -/

def aresL (P : Program) (st : St) : List ResultVar → Option (List AV)
  | [] => some []
  | .tmp t :: r => match aresL P st r with
    | some l => some (st.tmps.getD t .undef :: l)
    | none => none
  | .cell t ty :: r => match aload P st.heap ty (st.tmps.getD t .undef), aresL P st r with
    | some x, some l => some (x :: l)
    | _, _ => none

def retV (rs : Array Value) : Value := if h : rs.size = 1 then rs[0] else .tuple rs
def retA : List AV → AV
  | [x] => x
  | l => .tup l

def resOne (a : Array Value) (x : ResultVar) : Sem Value :=
  match x with
  | .tmp t => pure (a.getD t undef)
  | .cell c t => (do loadVar t (← asAddr (a.getD c undef)) : Sem Value)

theorem aresL_sound {P : Program} {M : List Place} {st : St} {B : Base} {w : World} {a : Array Value} (ht : RelT M st.tmps a) (hH : RelH M st.heap B w) : ∀ {rs : List ResultVar} {l : List AV}, aresL P st rs = some l →
    ∃ vs : List Value, RelL M l vs ∧ (rs.mapM (resOne a)).run P w = .ok vs w
  | [], l, h => by
    simp only [aresL, Option.some.injEq] at h
    subst h
    exact ⟨[], RelL_nil.2 rfl, by simp⟩
  | .tmp t :: r, l, h => by
    simp only [aresL] at h
    split at h
    · rename_i l' hl
      cases h
      obtain ⟨vs, h1, h2⟩ := aresL_sound ht hH hl
      have h3 : (resOne a (.tmp t)).run P w = .ok (a.getD t undef) w := rfl
      exact ⟨a.getD t undef :: vs, RelL_cons.2 ⟨_, _, rfl, ht.2 t, h1⟩, by rw [List.mapM_cons]; simp only [Sem.run_bind, Sem.run_pure, Result.andThen_ok, h2, h3]⟩
    · cases h
  | .cell c t :: r, l, h => by
    simp only [aresL] at h
    split at h
    · rename_i x l' hx hl
      cases h
      obtain ⟨vs, h1, h2⟩ := aresL_sound ht hH hl
      obtain ⟨A, u, e, hu, hrun⟩ := aload_sound hH (ht.2 c) hx
      have h3 : (resOne a (.cell c t)).run P w = .ok u w := by
        show ((do loadVar t (← asAddr (a.getD c undef)) : Sem Value)).run P w = _
        rw [Sem.run_bind, e]
        simp only [asAddr, Sem.run_pure, Result.andThen_ok]
        exact hrun w (Below.refl _ _)
      exact ⟨u :: vs, RelL_cons.2 ⟨_, _, rfl, hu, h1⟩, by rw [List.mapM_cons]; simp only [Sem.run_bind, Sem.run_pure, Result.andThen_ok, h2, h3]⟩
    · cases h

theorem results_run {P : Program} {M : List Place} {st : St} {B : Base} {w : World} {a : Array Value} (ht : RelT M st.tmps a) (hH : RelH M st.heap B w) {fn : Func} {l : List AV} (h : aresL P st fn.results.toList = some l) :
    ∃ vs : Array Value, RelL M l vs.toList ∧ (results fn a).run P w = .ok (retV vs) w := by
  obtain ⟨vs, h1, h2⟩ := aresL_sound ht hH h
  refine ⟨vs.toArray, by simpa using h1, ?_⟩
  have h3 : (fn.results.mapM (resOne a)).run P w = .ok vs.toArray w := by
    rw [Array.mapM_eq_mapM_toList]
    show ((List.toArray <$> fn.results.toList.mapM (resOne a) : Sem (Array Value))).run P w = _
    rw [map_eq_pure_bind, Sem.run_bind, h2]
    rfl
  have h4 : results fn a = (do
      let vs ← fn.results.mapM (resOne a)
      pure (if h : vs.size = 1 then vs[0] else .tuple vs)) := by
    unfold results
    have : (fun (x : ResultVar) => (match x with | .tmp t => pure (a.getD t undef) | .cell c t => (do loadVar t (← asAddr (a.getD c undef)) : Sem Value) : Sem Value)) = resOne a := by
      funext x
      cases x <;> rfl
    rw [← this]
    rfl
  rw [h4, Sem.run_bind, h3]
  rfl

theorem retA_rel {M : List Place} {l : List AV} {vs : Array Value} (h : RelL M l vs.toList) : RelV M (retA l) (retV vs) := by
  have hlen : ∀ {l : List AV} {vs : List Value}, RelL M l vs → l.length = vs.length := by
    intro l
    induction l with
    | nil => intro vs h; rw [RelL_nil] at h; subst h; rfl
    | cons x l ih => intro vs h; obtain ⟨v, r, rfl, _, hr⟩ := RelL_cons.1 h; simp [ih hr]
  have hl := hlen h
  simp at hl
  unfold retA retV
  split
  · rename_i x
    simp at hl
    rw [dif_pos hl.symm]
    obtain ⟨v, r, e, hx, hr⟩ := RelL_cons.1 h
    rw [RelL_nil] at hr
    subst hr
    have : vs[0]'(by omega) = v := by
      have := congrArg (fun l : List Value => l[0]?) e
      simpa [hl.symm] using this
    rw [this]
    exact hx
  · rename_i hne
    rw [dif_neg]
    · simp only [RelV, RelX]
      exact ⟨vs, rfl, h⟩
    · intro h1
      rw [h1] at hl
      obtain ⟨x, rfl⟩ := List.length_eq_one_iff.1 hl
      exact hne x rfl

/-! ### a function's body -/

def evBody (P : Program) (cal : Cal ρ) (qcal : QCal ρ) (ann : Nat → Option (Ann ρ)) (f : FuncId) (args : List AV) (H : Heap) (K : List AV → Heap → Option ρ) : Option ρ :=
  match P.funcs[f]? with
  | some fn => match fn.body with
    | some c => evCode P cal qcal ann c ⟨args ++ List.replicate (fn.ntmps - args.length) .undef, H⟩ fun e st => match e with
      | .normal | .ret => match aresL P st fn.results.toList with
        | some l => K l st.heap
        | none => none
      | _ => none
    | none => none
  | none => none

theorem relL_size {M : List Place} : ∀ {l : List AV} {vs : List Value}, RelL M l vs → l.length = vs.length
  | [], vs, h => by rw [RelL_nil] at h; subst h; rfl
  | x :: l, vs, h => by obtain ⟨v, r, rfl, _, hr⟩ := RelL_cons.1 h; simp [relL_size hr]

theorem relT_args {M : List Place} {args : List AV} {vs : Array Value} (h : RelL M args vs.toList) (n : Nat) : RelT M (args ++ List.replicate n .undef) (vs ++ Array.replicate n undef) := by
  have hs := relL_size h
  simp at hs
  refine ⟨by simp [hs], fun t => ?_⟩
  by_cases ht : t < args.length
  · have e1 : (args ++ List.replicate n AV.undef).getD t .undef = args[t] := by simp [List.getD_eq_getElem?_getD, List.getElem?_append_left ht, ht]
    rw [e1]
    obtain ⟨v, hv, hr⟩ := relL_get h (List.getElem?_eq_getElem ht)
    have e2 : (vs ++ Array.replicate n undef).getD t undef = v := by
      have hv' : vs[t]? = some v := by simpa using hv
      simp [Array.getElem?_append_left (show t < vs.size by omega), hv']
    rw [e2]
    exact hr
  · have e1 : (args ++ List.replicate n AV.undef).getD t .undef = .undef := by
      rw [List.getD_eq_getElem?_getD, List.getElem?_append_right (by omega), List.getElem?_replicate]
      split <;> rfl
    rw [e1]
    exact relV_undef _ _

theorem evBody_sound {P : Program} (hP : Callable P) {cal : Cal ρ} (hcal : ∀ f, CalAt P f (cal f)) {qcal : QCal ρ} (hq : ∀ f, QCalAt P f (qcal f)) {ann : Nat → Option (Ann ρ)} {x : Bool} {f : FuncId} {args : List AV} {H : Heap} {K : List AV → Heap → Option ρ} {r : ρ}
    (h : evBody P cal qcal ann f args H K = some r) {M : List Place} {B : Base} {w : World} {vs : Array Value}
    (hann : ∀ fn c, P.funcs[f]? = some fn → fn.body = some c → ∀ id an c', ann id = some an → (id, c') ∈ blocks c → AnnAt P x B w (.block id c') an)
    (hl : RelL M args vs.toList) (hH : RelH M H B w) :
    Calls P f vs w fun e w' => ∃ rs l H' M', e = .returned (retV rs) ∧ K l H' = some r ∧ ExtO x M M' ∧ RelL M' l rs.toList ∧ RelH M' H' B w' ∧ Beneath B w w' := by
  unfold evBody at h
  split at h
  · rename_i fn hf
    split at h
    · rename_i c hb
      have hs := relL_size hl
      simp at hs
      refine calls_of_wp hf hb ?_
      have hr0 : Rel M ⟨args ++ List.replicate (fn.ntmps - args.length) .undef, H⟩ B w { tmps := vs ++ Array.replicate (fn.ntmps - vs.size) undef, defers := [] } w :=
        ⟨by rw [hs]; exact relT_args hl _, rfl, hH, Beneath.refl _ _⟩
      refine evCode_sound hP hcal hq c (hann fn c hf hb) _ _ h M _ w _ hr0 fun e M' st' a' w' hE hk hr => ?_
      have fin : (match aresL P st' fn.results.toList with | some l => K l st'.heap | none => none) = some r →
          a'.defers = [] ∧ ∃ v, (results fn a'.tmps).run P w' = .ok v w' ∧ ∃ rs l H' M', Ending.returned v = .returned (retV rs) ∧ K l H' = some r ∧ ExtO x M M' ∧ RelL M' l rs.toList ∧ RelH M' H' B w' ∧ Beneath B w w' := by
        intro hk
        split at hk
        · rename_i l hres
          obtain ⟨rs, h1, h2⟩ := results_run hr.tmps hr.heap hres
          exact ⟨hr.defers, _, h2, rs, l, _, M', rfl, hk, hE, h1, hr.heap, hr.below⟩
        · cases hk
      cases e <;> simp only [reduceCtorEq] at hk
      case normal => exact fin hk
      case ret => exact fin hk
    · cases h
  · cases h

/-! ### the functions that are entered -/

/-- What is known of functions: the told ones, and the told ones that leave memory alone. -/
structure Env (ρ : Type) where
  sum : FuncId → Option (List AV → Heap → (AV → Heap → Option ρ) → Option ρ)
  qsum : FuncId → Option (List AV → Heap → (AV → Option ρ) → Option ρ)

structure EnvOk (P : Program) (E : Env ρ) : Prop where
  sum : ∀ f s, E.sum f = some s → CalAt P f s
  qsum : ∀ f s, E.qsum f = some s → QCalAt P f s

def qof (E : Env ρ) : QCal ρ := fun f args H K => match E.qsum f with
  | some s => s args H K
  | none => none

def evFn (P : Program) (E : Env ρ) : Nat → Cal ρ
  | 0 => fun _ _ _ _ => none
  | n + 1 => fun f args H K => match E.sum f with
    | some s => s args H K
    | none => evBody P (evFn P E n) (qof E) (fun _ => none) f args H fun l H' => K (retA l) H'

theorem qof_ok {P : Program} {E : Env ρ} (hE : EnvOk P E) (f : FuncId) : QCalAt P f (qof E f) := by
  intro args H K r h M B w vs hl hH
  unfold qof at h
  split at h
  · rename_i s hs
    exact hE.qsum f s hs args H K r h M B w vs hl hH
  · cases h

theorem evFn_ok {P : Program} (hP : Callable P) {E : Env ρ} (hE : EnvOk P E) : ∀ (n : Nat) (f : FuncId), CalAt P f (evFn P E n f)
  | 0, f => fun args H K r h => by cases h
  | n + 1, f => by
    intro args H K r h M B w vs hl hH
    unfold evFn at h
    split at h
    · rename_i s hs
      exact hE.sum f s hs args H K r h M B w vs hl hH
    · refine (evBody_sound hP (evFn_ok hP hE n) (qof_ok hE) (x := true) h (fun _ _ _ _ id an c' h1 => (by cases h1)) hl hH).mono ?_
      rintro e w' ⟨rs, l, H', M', h1, h2, h3, h4, h5, h6⟩
      exact ⟨retV rs, retA l, H', M', h1, h2, h3 rfl, h5, h6, retA_rel h4⟩

/-! ### told results -/

/-- A cell of what is given back: data; a constant; a slice of a row. -/
inductive CO where
  | hole (t : Ty)
  | const (a : AV)
  | row (k : IntKind) (sz : Nat) (own : Bool)

/-- What is given back: results (data, slices, what has cells), and what told blocks hold now. -/
inductive Out where
  | ty (t : Ty)
  | row (k : IntKind) (sz : Nat) (own : Bool := true)
  | agg (cs : List CO)
  | prow (pin : Nat) (k : IntKind)
  | psegs (pin : Nat) (cs : List CO)

@[reducible] def tysCO : List CO → List Ty → List Ty
  | [], acc => acc
  | .hole t :: r, acc => t :: tysCO r acc
  | .const _ :: r, acc => tysCO r acc
  | .row k _ _ :: r, acc => .row k :: tysCO r acc

@[reducible] def tysO : List Out → List Ty
  | [] => []
  | .ty t :: r => t :: tysO r
  | .row k _ _ :: r => .row k :: tysO r
  | .agg cs :: r => tysCO cs (tysO r)
  | .prow _ k :: r => .row k :: tysO r
  | .psegs _ cs :: r => tysCO cs (tysO r)

/-- How many rows there are. -/
def cntCO : List CO → Nat
  | [] => 0
  | .row _ _ _ :: r => cntCO r + 1
  | _ :: r => cntCO r

def slO (b sz : Nat) (l : List Int) (own : Bool) : AV := .sl b 0 (div1 l.length sz) sz (if own then .own else .whole)

/-- The cells; the rows; and the rest of the data. -/
def cellsCO : (cs : List CO) → (acc : List Ty) → D (tysCO cs acc) → Nat → List AV
  | [], _, _, _ => []
  | .hole t :: r, acc, d, b => mkC t d.1 :: cellsCO r acc d.2 b
  | .const a :: r, acc, d, b => a :: cellsCO r acc d b
  | .row _ sz own :: r, acc, d, b => slO b sz d.1 own :: cellsCO r acc d.2 (b + 1)
def newsCO : (cs : List CO) → (acc : List Ty) → D (tysCO cs acc) → Heap
  | [], _, _ => []
  | .hole _ :: r, acc, d => newsCO r acc d.2
  | .const _ :: r, acc, d => newsCO r acc d
  | .row k _ own :: r, acc, d => some ⟨.row k d.1, own, none⟩ :: newsCO r acc d.2
def restCO : (cs : List CO) → (acc : List Ty) → D (tysCO cs acc) → D acc
  | [], _, d => d
  | .hole _ :: r, acc, d => restCO r acc d.2
  | .const _ :: r, acc, d => restCO r acc d
  | .row _ _ _ :: r, acc, d => restCO r acc d.2

/-- The results; the new rows; what told blocks hold now. 'b': the number of the first new row. -/
def avsO : (os : List Out) → D (tysO os) → Nat → List AV
  | [], _, _ => []
  | .ty t :: r, d, b => mkT t d.1 :: avsO r d.2 b
  | .row _ sz own :: r, d, b => slO b sz d.1 own :: avsO r d.2 (b + 1)
  | .agg cs :: r, d, b => .agg (cellsCO cs (tysO r) d b) :: avsO r (restCO cs (tysO r) d) (b + cntCO cs)
  | .prow _ _ :: r, d, b => avsO r d.2 b
  | .psegs _ cs :: r, d, b => avsO r (restCO cs (tysO r) d) (b + cntCO cs)
def newsO : (os : List Out) → D (tysO os) → Heap
  | [], _ => []
  | .ty _ :: r, d => newsO r d.2
  | .row k _ own :: r, d => some ⟨.row k d.1, own, none⟩ :: newsO r d.2
  | .agg cs :: r, d => newsCO cs (tysO r) d ++ newsO r (restCO cs (tysO r) d)
  | .prow _ _ :: r, d => newsO r d.2
  | .psegs _ cs :: r, d => newsCO cs (tysO r) d ++ newsO r (restCO cs (tysO r) d)
def upsO : (os : List Out) → D (tysO os) → Nat → List (Nat × Cont)
  | [], _, _ => []
  | .ty _ :: r, d, b => upsO r d.2 b
  | .row _ _ _ :: r, d, b => upsO r d.2 (b + 1)
  | .agg cs :: r, d, b => upsO r (restCO cs (tysO r) d) (b + cntCO cs)
  | .prow pin k :: r, d, b => (pin, .row k d.1) :: upsO r d.2 b
  | .psegs pin cs :: r, d, b => (pin, .segs (cellsCO cs (tysO r) d b)) :: upsO r (restCO cs (tysO r) d) (b + cntCO cs)

theorem newsCO_len : ∀ {cs : List CO} {acc : List Ty} {d : D (tysCO cs acc)}, (newsCO cs acc d).length = cntCO cs
  | [], _, _ => rfl
  | .hole _ :: r, acc, d => newsCO_len (cs := r) (d := d.2)
  | .const _ :: r, acc, d => newsCO_len (cs := r) (d := d)
  | .row _ _ _ :: r, acc, d => by simp [newsCO, cntCO, newsCO_len (cs := r) (d := d.2)]

theorem newsCO_some : ∀ {cs : List CO} {acc : List Ty} {d : D (tysCO cs acc)}, ∀ x ∈ newsCO cs acc d, x ≠ none
  | [], _, _ => by simp [newsCO]
  | .hole _ :: r, acc, d => newsCO_some (cs := r) (d := d.2)
  | .const _ :: r, acc, d => newsCO_some (cs := r) (d := d)
  | .row _ _ _ :: r, acc, d => by
    intro x hx
    simp only [newsCO, List.mem_cons] at hx
    rcases hx with rfl | hx
    · simp
    · exact newsCO_some (cs := r) (d := d.2) x hx
theorem newsO_mem : ∀ {os : List Out} {d : D (tysO os)}, ∀ x ∈ newsO os d, x ≠ none
  | [], _ => by simp [newsO]
  | .ty _ :: r, d => newsO_mem (os := r) (d := d.2)
  | .row _ _ _ :: r, d => by
    intro x hx
    simp only [newsO, List.mem_cons] at hx
    rcases hx with rfl | hx
    · simp
    · exact newsO_mem (os := r) (d := d.2) x hx
  | .agg cs :: r, d => by
    intro x hx
    simp only [newsO, List.mem_append] at hx
    rcases hx with hx | hx
    · exact newsCO_some x hx
    · exact newsO_mem x hx
  | .prow _ _ :: r, d => newsO_mem (os := r) (d := d.2)
  | .psegs _ cs :: r, d => by
    intro x hx
    simp only [newsO, List.mem_append] at hx
    rcases hx with hx | hx
    · exact newsCO_some x hx
    · exact newsO_mem x hx
theorem newsO_some {os : List Out} {d : D (tysO os)} (i : Nat) (hi : i < (newsO os d).length) : (newsO os d)[i] ≠ none := newsO_mem _ (List.getElem_mem hi)

/-- Which block is the told one of that number? -/
def pinAt : Heap → Nat → Nat → Option Nat
  | [], _, _ => none
  | o :: r, k, i => match o with
    | some ob => if ob.pin = some k then some i else pinAt r k (i + 1)
    | none => pinAt r k (i + 1)

theorem pinAt_spec : ∀ {H : Heap} {k i b : Nat}, pinAt H k i = some b → i ≤ b ∧ ∃ o, H[b - i]? = some (some o) ∧ o.pin = some k
  | [], k, i, b, h => by cases h
  | o :: r, k, i, b, h => by
    have next : pinAt r k (i + 1) = some b → i ≤ b ∧ ∃ o', (o :: r)[b - i]? = some (some o') ∧ o'.pin = some k := by
      intro h
      obtain ⟨h1, o', h2, h3⟩ := pinAt_spec h
      refine ⟨by omega, o', ?_, h3⟩
      rw [show b - i = (b - (i + 1)) + 1 by omega]
      simpa using h2
    unfold pinAt at h
    split at h
    · rename_i ob
      split at h
      · rename_i hk
        cases h
        exact ⟨Nat.le_refl _, ob, by simp, hk⟩
      · exact next h
    · exact next h

/-- A slice's row, and which block is now given back. -/
def exRow (H : Heap) (k : IntKind) (sz : Nat) (own : Bool) (x : AV) (used : List Nat) : Option (List Int × List Nat) :=
  match x with
  | .nils => if 1 ≤ sz then some ([], used) else none
  | .sl b off len s c => if s = sz ∧ 1 ≤ sz ∧ used.contains b = false ∧ (own = true → c = .own) then
      match H[b]? with
      | some (some ⟨_, o, _⟩) => if own = true → o = true then
          match wholeC H (.sl b off len s c) with
          | some (.row k' l) => if k' = k then some (l, b :: used) else none
          | _ => none
        else none
      | _ => none
    else none
  | _ => none

def exCO (H : Heap) : (cs : List CO) → (acc : List Ty) → (List Nat → Option (D acc)) → List AV → List Nat → Option (D (tysCO cs acc))
  | [], _, rest, [], used => rest used
  | .hole t :: r, acc, rest, xs, used => match popC t xs with
    | some (v, ys) => match exCO H r acc rest ys used with
      | some d => some (v, d)
      | none => none
    | none => none
  | .const a :: r, acc, rest, x :: xs, used => if sameA a x then exCO H r acc rest xs used else none
  | .row k sz own :: r, acc, rest, x :: xs, used => match exRow H k sz own x used with
    | some (l, used') => match exCO H r acc rest xs used' with
      | some d => some (l, d)
      | none => none
    | none => none
  | _, _, _, _, _ => none

/-- What is given back, told. 'kept': the told blocks that are given back. -/
def exO (H : Heap) (kept : List Nat) : (os : List Out) → List AV → List Nat → Option (D (tysO os))
  | [], [], _ => some ()
  | .ty t :: r, x :: xs, used => match getT t x, exO H kept r xs used with
    | some v, some d => some (v, d)
    | _, _ => none
  | .row k sz own :: r, x :: xs, used => match exRow H k sz own x used with
    | some (l, used') => match exO H kept r xs used' with
      | some d => some (l, d)
      | none => none
    | none => none
  | .agg cs :: r, x :: xs, used => match x with
    | .agg ys => exCO H cs (tysO r) (exO H kept r xs) ys used
    | _ => none
  | .prow pin k :: r, xs, used => match pinAt H pin 0 with
    | some b => match H[b]? with
      | some (some ⟨.row k' l, true, _⟩) => if k' = k ∧ kept.contains b = true then (match exO H kept r xs used with | some d => some (l, d) | none => none) else none
      | _ => none
    | none => none
  | .psegs pin cs :: r, xs, used => match pinAt H pin 0 with
    | some b => match H[b]? with
      | some (some ⟨.segs ys, true, _⟩) => if kept.contains b = true then exCO H cs (tysO r) (exO H kept r xs) ys used else none
      | _ => none
    | none => none
  | _, _, _ => none

/-- The told blocks that are given back. -/
def keptIx (H : Heap) : List Out → List Nat
  | [] => []
  | .prow pin _ :: r => (match pinAt H pin 0 with | some b => [b] | none => []) ++ keptIx H r
  | .psegs pin _ :: r => (match pinAt H pin 0 with | some b => [b] | none => []) ++ keptIx H r
  | _ :: r => keptIx H r

/-- New rows, and where they lie. -/
structure News (B : Base) (w : World) (N : List Place) (H : Heap) : Prop where
  len : N.length = H.length
  obj : ∀ (i : Nat) (o : AObj), H[i]? = some (some o) → o.pin = none ∧ (∃ k l, o.c = .row k l) ∧ ∃ pl, N[i]? = some pl ∧ ObjOk [] o pl B w ∧ (pl.nil = false → B.vis pl.blk)
  sep : ∀ (i j : Nat) (oi oj : AObj) (pi pj : Place), H[i]? = some (some oi) → H[j]? = some (some oj) → N[i]? = some pi → N[j]? = some pj → i ≠ j → oi.own = true → pi.nil = false → pj.nil = false → pi.blk ≠ pj.blk

/-- Is something given back that leads to memory that stays as it is? -/
def deepCO : List CO → Bool
  | [] => false
  | .hole t :: r => t.deep || deepCO r
  | _ :: r => deepCO r
def deepO : List Out → Bool
  | [] => false
  | .ty t :: r => t.deep || deepO r
  | .agg cs :: r => deepCO cs || deepO r
  | .psegs _ cs :: r => deepCO cs || deepO r
  | _ :: r => deepO r
/-- The place at which such memory is told. -/
def fzH (os : List Out) : Heap := if deepO os then [none] else []

/-- What was given back is as told. -/
def RelOut (B : Base) (w : World) (os : List Out) (d : D (tysO os)) (vs : List Value) : Prop :=
  ∃ N F : List Place, News B w N (newsO os d) ∧ F.length = (fzH os).length ∧ (∀ k ob, ¬ FzAt N k ob) ∧
    (∀ k ob, FzAt F k ob → w.heap[k]? = some ob ∧ B.vis k ∧ (B.w k ∨ B.f k)) ∧
    (∀ (i : Nat) (pi : Place) (oi : AObj), N[i]? = some pi → (newsO os d)[i]? = some (some oi) → oi.own = true → pi.nil = false → ¬ B.f pi.blk ∧ ∀ ob, ¬ FzAt F pi.blk ob) ∧
    (∀ M : List Place, RelL (M ++ (N ++ F)) (avsO os d M.length) vs) ∧
    ∀ (M : List Place) (pin : Nat) (c : Cont), (pin, c) ∈ upsO os d M.length → ∃ pl, B.pin pin pl ∧ ObjOk (M ++ (N ++ F)) ⟨c, true, none⟩ pl B w ∧
      (∀ (i : Nat) (pi : Place), N[i]? = some pi → pi.nil = false → pl.nil = false → pi.blk ≠ pl.blk) ∧ (pl.nil = false → ∀ ob, ¬ FzAt F pl.blk ob)

theorem News.nil (B : Base) (w : World) : News B w [] [] := ⟨rfl, fun i o h => (by simp at h), fun i j oi oj pi pj h => (by simp at h)⟩

/-- Among which blocks new rows are. -/
def IntoB (M : List Place) (H : Heap) (used : List Nat) (N : List Place) (Hn : Heap) : Prop :=
  ∀ (i : Nat) (pi : Place) (oi : AObj), N[i]? = some pi → Hn[i]? = some (some oi) → pi.nil = false → ∃ b o p, b ∈ used ∧ H[b]? = some (some o) ∧ M[b]? = some p ∧ p.nil = false ∧ pi.blk = p.blk ∧ (oi.own = true → o.own = true)

/-- From which blocks new rows come. -/
def FromB (M : List Place) (H : Heap) (used : List Nat) (N : List Place) (Hn : Heap) : Prop :=
  ∀ (i : Nat) (pi : Place) (oi : AObj), N[i]? = some pi → Hn[i]? = some (some oi) → pi.nil = false → ∃ b o p, b ∉ used ∧ H[b]? = some (some o) ∧ M[b]? = some p ∧ p.nil = false ∧ pi.blk = p.blk ∧ (oi.own = true → o.own = true)

theorem News.append {B : Base} {w : World} {M : List Place} {H : Heap} (hH : RelH M H B w) {N1 N2 : List Place} {H1 H2 : Heap} {used used2 : List Nat} (h1 : News B w N1 H1) (h2 : News B w N2 H2) (f1 : FromB M H used N1 H1) (f2 : FromB M H used2 N2 H2)
    (hu : IntoB M H used2 N1 H1) : News B w (N1 ++ N2) (H1 ++ H2) := by
  have hl := h1.len
  have part : ∀ (i : Nat) (o : AObj) , (H1 ++ H2)[i]? = some (some o) → (i < N1.length ∧ H1[i]? = some (some o) ∧ (N1 ++ N2)[i]? = N1[i]?) ∨ (N1.length ≤ i ∧ H2[i - N1.length]? = some (some o) ∧ (N1 ++ N2)[i]? = N2[i - N1.length]?) := by
    intro i o h
    by_cases hi : i < N1.length
    · rw [List.getElem?_append_left (by omega)] at h
      exact .inl ⟨hi, h, List.getElem?_append_left hi⟩
    · rw [List.getElem?_append_right (by omega)] at h
      rw [← hl] at h
      exact .inr ⟨by omega, h, List.getElem?_append_right (by omega)⟩
  have cross : ∀ (i j : Nat) (oi oj : AObj) (pi pj : Place), N1[i]? = some pi → H1[i]? = some (some oi) → N2[j]? = some pj → H2[j]? = some (some oj) → (oi.own = true ∨ oj.own = true) → pi.nil = false → pj.nil = false → pi.blk ≠ pj.blk := by
    intro i j oi oj pi pj a1 a2 b1 b2 ho n1 n2
    obtain ⟨b, o, p, c1, c2, c3, c4, c5, c6⟩ := hu i pi oi a1 a2 n1
    obtain ⟨b', o', p', e1, e2, e3, e4, e5, e6⟩ := f2 j pj oj b1 b2 n2
    have hne : b ≠ b' := fun e => e1 (e ▸ c1)
    rw [c5, e5]
    rcases ho with ho | ho
    · exact hH.sep b b' o o' p p' c2 e2 c3 e3 hne (c6 ho) c4 e4
    · exact fun e => hH.sep b' b o' o p' p e2 c2 e3 c3 (fun e => hne e.symm) (e6 ho) e4 c4 e.symm
  refine ⟨by simp [hl, h2.len], fun i o h => ?_, fun i j oi oj pi pj hi hj hpi hpj hne how hni hnj => ?_⟩
  · rcases part i o h with ⟨_, g1, g2⟩ | ⟨_, g1, g2⟩
    · obtain ⟨a1, a2, pl, a3, a4⟩ := h1.obj i o g1
      exact ⟨a1, a2, pl, by rw [g2]; exact a3, a4⟩
    · obtain ⟨a1, a2, pl, a3, a4⟩ := h2.obj _ o g1
      exact ⟨a1, a2, pl, by rw [g2]; exact a3, a4⟩
  · rcases part i oi hi with ⟨l1, g1, g2⟩ | ⟨l1, g1, g2⟩ <;> rcases part j oj hj with ⟨l2, k1, k2⟩ | ⟨l2, k1, k2⟩
    · exact h1.sep i j oi oj pi pj g1 k1 (by rw [← g2]; exact hpi) (by rw [← k2]; exact hpj) hne how hni hnj
    · exact cross i _ oi oj pi pj (by rw [← g2]; exact hpi) g1 (by rw [← k2]; exact hpj) k1 (.inl how) hni hnj
    · exact fun e => cross j _ oj oi pj pi (by rw [← k2]; exact hpj) k1 (by rw [← g2]; exact hpi) g1 (.inr how) hnj hni e.symm
    · exact h2.sep _ _ oi oj pi pj g1 k1 (by rw [← g2]; exact hpi) (by rw [← k2]; exact hpj) (by omega) how hni hnj

/-- A row that is given back. -/
theorem exRow_sound {M : List Place} {H : Heap} {B : Base} {w : World} (hH : RelH M H B w) {k : IntKind} {sz : Nat} {own : Bool} {x : AV} {used used' : List Nat} {l : List Int} (h : exRow H k sz own x used = some (l, used')) {v : Value} (hx : RelV M x v) :
    ∃ pl, pl.fz = noFz ∧ News B w [pl] [some ⟨.row k l, own, none⟩] ∧ FromB M H used [pl] [some ⟨.row k l, own, none⟩] ∧ (∀ b ∈ used, b ∈ used') ∧
      IntoB M H used' [pl] [some ⟨.row k l, own, none⟩] ∧
      ∀ M' : List Place, ∀ b, M'[b]? = some pl → RelV M' (slO b sz l own) v := by
  -- one place
  have one : ∀ (pl : Place), ObjOk [] ⟨.row k l, own, none⟩ pl B w → (pl.nil = false → B.vis pl.blk) → News B w [pl] [some ⟨.row k l, own, none⟩] := by
    intro pl h1 h2
    refine ⟨rfl, fun i o ho => ?_, fun i j oi oj pi pj hi hj _ _ hne => ?_⟩
    · cases i with
      | zero => simp at ho; subst ho; exact ⟨rfl, ⟨k, l, rfl⟩, pl, rfl, h1, h2⟩
      | succ i => simp at ho
    · have h1 := (List.getElem?_eq_some_iff.1 hi).1
      have h2 := (List.getElem?_eq_some_iff.1 hj).1
      simp at h1 h2
      omega
  have at0 : ∀ (pl pi : Place) (oi : AObj) (i : Nat), [pl][i]? = some pi → [some (⟨.row k l, own, none⟩ : AObj)][i]? = some (some oi) → pi = pl ∧ oi = ⟨.row k l, own, none⟩ := by
    intro pl pi oi i h1 h2
    cases i with
    | zero => simp at h1 h2; exact ⟨h1.symm, h2.symm⟩
    | succ i => simp at h1
  unfold exRow at h
  split at h
  · split at h
    · rename_i hs
      cases h
      have hv : v = .slice none 0 0 := by simpa [RelV, RelX] using hx
      subst hv
      refine ⟨⟨true, 0, 0, 0, 0, noFz⟩, rfl, one _ (.inl ⟨rfl, rfl, by simp [RelO]⟩) (fun h => (by cases h)), fun i pi oi h1 h2 hn => ?_, fun b hb => hb, fun i pi oi h1 h2 hn => ?_, fun M' b hb => ?_⟩
      · rw [(at0 _ _ _ _ h1 h2).1] at hn; cases hn
      · rw [(at0 _ _ _ _ h1 h2).1] at hn; cases hn
      · unfold slO
        rw [div_len (n := ([] : List Int).length) (len := 0) (by simp) hs]
        simp only [RelV, RelX]
        exact ⟨⟨true, 0, 0, 0, 0, noFz⟩, none, 0, hb, rfl, by simp, Nat.le_refl _, fun _ => ⟨fun _ => rfl, rfl⟩, fun h => (by cases h), fun hf => (by cases own <;> simp at hf), fun _ => ⟨trivial, rfl, by simp, by simp⟩, fun _ => ⟨trivial, by simp⟩, by rw [has_iff]; simp [loB, hiB]⟩
    · cases h
  · rename_i b off len s c
    split at h
    · rename_i hcond
      obtain ⟨rfl, hs, hnu, hco⟩ := hcond
      split at h
      · rename_i oc o op hob
        split at h
        · rename_i hoo
          split at h
          · rename_i k' l' hwc
            split at h
            · rename_i hk
              subst hk
              cases h
              obtain ⟨us, hus, lus⟩ := wholeC_rel hH hx hwc (fun _ _ _ _ _ e => by cases e; rfl)
              obtain ⟨pl0, hpl0, hok0⟩ := hH.obj b _ hob
              have hx0 := hx
              simp only [RelV, RelX] at hx0
              obtain ⟨pl, A, cap, hpl, hv, hb, hcap, hnil, hnn, hfull, hown, hwhole, hhas⟩ := hx0
              rw [hpl0] at hpl
              cases hpl
              have hv : v = .slice A len cap := by simpa using hv
              have hlus := lus.1
              simp only [slLen] at hlus
              have hll : l.length = len * s := by have := congrArg List.length hus.1; simp at this; omega
              have hdiv := div_len hll hs
              have hnb : b ∉ used := fun hm => by
                have : used.contains b = true := by simpa using hm
                rw [this] at hnu; cases hnu
              have off0 : own = true → off = 0 ∧ pl0.off = 0 ∧ len * s = pl0.n ∧ cap * s ≤ pl0.size := fun ho => hown (hco ho)
              refine ⟨⟨pl0.nil, pl0.blk, pl0.off + off, len * s, pl0.size, noFz⟩, rfl, one _ ?_ (fun hn => hH.vis b _ pl0 hob hpl0 hn), fun i pi oi h1 h2 hn => ?_, fun b' hb' => by simp [hb'], fun i pi oi h1 h2 hn => ?_, fun M' b' hb' => ?_⟩
              · cases hn : pl0.nil with
                | true =>
                  have h1 := (hnil hn).2
                  have hl0 : len = 0 := by omega
                  have : l = [] := List.eq_nil_of_length_eq_zero (by rw [hll]; simp [hl0])
                  subst this
                  exact .inl ⟨rfl, by simp [hl0], by simp [RelO]⟩
                | false =>
                  rcases hok0 with ⟨n1, _⟩ | ⟨_, cs, el, fz, g1, g2, g3, g4, g5⟩
                  · rw [hn] at n1; cases n1
                  · refine .inr ⟨rfl, cs, el, fz, g1, g2, by simp only; omega, ?_, fun ho => ?_⟩
                    · simp only
                      have hu : us = (cs.toList.drop (pl0.off + off)).take (len * s) := by
                        obtain ⟨_, A2, cap2, hv2, _, hm⟩ := lus
                        simp only [slLen] at hv2 hm
                        by_cases hz : len * s = 0
                        · rw [hz] at hlus ⊢
                          have : us = [] := List.eq_nil_of_length_eq_zero hlus
                          rw [this]; simp
                        · rcases hm with hm | ⟨blk, o2, cs2, el2, fz2, e, hg2, hle2, hus2⟩
                          · exact absurd hm hz
                          · have hl0 : 0 < len := by
                              rcases Nat.eq_zero_or_pos len with h0 | h0
                              · rw [h0] at hz; simp at hz
                              · exact h0
                            have hA := (hnn hn).2 (.inl hl0)
                            rw [hv] at hv2
                            injection hv2 with e1
                            rw [← e1, hA] at e
                            injection e with e
                            injection e with e2 e3
                            rw [← e2, g1] at hg2
                            cases hg2
                            rw [hus2, ← e3]
                      rw [← hu]
                      exact hus
                    · simp only at ho
                      obtain ⟨z1, z2, z3⟩ := g5 (hoo ho)
                      obtain ⟨y1, y2, y3, y4⟩ := off0 ho
                      exact ⟨z1, by simp [y1, y2], z3⟩
              · obtain ⟨e1, e2⟩ := at0 _ _ _ _ h1 h2
                subst e1; subst e2
                exact ⟨b, _, pl0, hnb, hob, hpl0, hn, rfl, hoo⟩
              · obtain ⟨e1, e2⟩ := at0 _ _ _ _ h1 h2
                subst e1; subst e2
                exact ⟨b, _, pl0, by simp, hob, hpl0, hn, rfl, hoo⟩
              · unfold slO
                rw [hdiv]
                simp only [RelV, RelX]
                refine ⟨⟨pl0.nil, pl0.blk, pl0.off + off, len * s, pl0.size, noFz⟩, A, cap, hb', by rw [hv], by simp, hcap, fun hn => ⟨fun hf => ?_, (hnil hn).2⟩, fun hn => ⟨(hnn hn).1, fun hq => ?_⟩, fun hf => (by cases own <;> simp at hf), fun hf => ?_, fun _ => ⟨trivial, rfl⟩, hhas⟩
                · exact (hnil hn).1 (hco (by cases own with | true => rfl | false => simp at hf))
                · have h1 : 0 < len ∨ c = .own := by
                    rcases hq with hq | hq
                    · exact .inl hq
                    · exact .inr (hco (by cases own with | true => rfl | false => simp at hq))
                  simpa using (hnn hn).2 h1
                · have ho : own = true := by cases own with | true => rfl | false => simp at hf
                  obtain ⟨y1, y2, y3, y4⟩ := off0 ho
                  exact ⟨trivial, by simp [y1, y2], rfl, y4⟩
            · cases h
          · cases h
        · cases h
      · cases h
    · cases h
  · cases h

theorem FromB.append {M : List Place} {H : Heap} {used used2 : List Nat} {N1 N2 : List Place} {H1 H2 : Heap} (hl : N1.length = H1.length) (f1 : FromB M H used N1 H1) (f2 : FromB M H used2 N2 H2) (hu : ∀ b ∈ used, b ∈ used2) : FromB M H used (N1 ++ N2) (H1 ++ H2) := by
  intro i pi oi h1 h2 hn
  by_cases hi : i < N1.length
  · rw [List.getElem?_append_left hi] at h1
    rw [List.getElem?_append_left (by omega)] at h2
    exact f1 i pi oi h1 h2 hn
  · rw [List.getElem?_append_right (by omega)] at h1
    rw [List.getElem?_append_right (by omega), ← hl] at h2
    obtain ⟨b, o, p, a1, a2⟩ := f2 _ pi oi h1 h2 hn
    exact ⟨b, o, p, fun h => a1 (hu b h), a2⟩
theorem IntoB.append {M : List Place} {H : Heap} {used used2 : List Nat} {N1 N2 : List Place} {H1 H2 : Heap} (hl : N1.length = H1.length) (f1 : IntoB M H used N1 H1) (f2 : IntoB M H used2 N2 H2) (hu : ∀ b ∈ used, b ∈ used2) : IntoB M H used2 (N1 ++ N2) (H1 ++ H2) := by
  intro i pi oi h1 h2 hn
  by_cases hi : i < N1.length
  · rw [List.getElem?_append_left hi] at h1
    rw [List.getElem?_append_left (by omega)] at h2
    obtain ⟨b, o, p, a1, a2⟩ := f1 i pi oi h1 h2 hn
    exact ⟨b, o, p, hu b a1, a2⟩
  · rw [List.getElem?_append_right (by omega)] at h1
    rw [List.getElem?_append_right (by omega), ← hl] at h2
    exact f2 _ pi oi h1 h2 hn
theorem FromB.nil (M : List Place) (H : Heap) (used : List Nat) : FromB M H used [] [] := fun i pi oi h => by simp at h
theorem IntoB.nil (M : List Place) (H : Heap) (used : List Nat) : IntoB M H used [] [] := fun i pi oi h => by simp at h

theorem exCO_sound {M : List Place} {H : Heap} {B : Base} {w : World} (hH : RelH M H B w) : ∀ {cs : List CO} {acc : List Ty} {rest : List Nat → Option (D acc)} {xs : List AV} {vs : List Value} {used : List Nat} {d : D (tysCO cs acc)}, exCO H cs acc rest xs used = some d → RelC M xs vs →
    ∃ N used', (∀ k ob, ¬ FzAt N k ob) ∧ News B w N (newsCO cs acc d) ∧ FromB M H used N (newsCO cs acc d) ∧ (∀ b ∈ used, b ∈ used') ∧ IntoB M H used' N (newsCO cs acc d) ∧
      (∀ M' Nr : List Place, (deepCO cs = true → FzSub M Nr) → RelC (M' ++ N ++ Nr) (cellsCO cs acc d M'.length) vs) ∧ rest used' = some (restCO cs acc d)
  | [], acc, rest, xs, vs, used, d, h, hr => by
    cases xs with
    | nil =>
      simp only [exCO] at h
      rw [RelC_nil] at hr
      exact ⟨[], used, fun k ob h => FzAt.nil h, News.nil B w, FromB.nil _ _ _, fun b hb => hb, IntoB.nil _ _ _, fun M' Nr _ => by simp only [cellsCO]; rw [RelC_nil]; exact hr, h⟩
    | cons _ _ => simp [exCO] at h
  | .hole ty :: cs, acc, rest, xs, vs, used, d, h, hr => by
    simp only [exCO] at h
    split at h
    · rename_i v ys hp
      split at h
      · rename_i d' hd
        cases h
        obtain ⟨a, r, rfl, h1, h2⟩ := popC_rel (M' := M) (fun _ => FzSub.refl M) hp hr
        obtain ⟨N, used', a0, a1, a2, a3, a4, a5, a6⟩ := exCO_sound hH hd h2
        exact ⟨N, used', a0, a1, a2, a3, a4, fun M' Nr hz => RelC_cons.2 ⟨a, r, rfl, mkC_mono (fun hd k ob h => FzAt.right _ (hz (by simp [deepCO, hd]) k ob h)) h1, a5 M' Nr fun hd => hz (by simp [deepCO, hd])⟩, a6⟩
      · cases h
    · cases h
  | .const _ :: cs, acc, rest, [], vs, used, d, h, hr => by simp [exCO] at h
  | .row _ _ _ :: cs, acc, rest, [], vs, used, d, h, hr => by simp [exCO] at h
  | c :: cs, acc, rest, x :: xs, vs, used, d, h, hr => by
    obtain ⟨u, r, rfl, hx, hr'⟩ := RelC_cons.1 hr
    cases c with
    | hole ty =>
      simp only [exCO] at h
      split at h
      · rename_i v ys hp
        split at h
        · rename_i d' hd
          cases h
          obtain ⟨a, r', e, h1, h2⟩ := popC_rel (M' := M) (fun _ => FzSub.refl M) hp hr
          obtain ⟨N, used', a0, a1, a2, a3, a4, a5, a6⟩ := exCO_sound hH hd h2
          exact ⟨N, used', a0, a1, a2, a3, a4, fun M' Nr hz => RelC_cons.2 ⟨a, r', e, mkC_mono (fun hd k ob h => FzAt.right _ (hz (by simp [deepCO, hd]) k ob h)) h1, a5 M' Nr fun hd => hz (by simp [deepCO, hd])⟩, a6⟩
        · cases h
      · cases h
    | const k =>
      simp only [exCO] at h
      split at h
      · rename_i hs
        obtain ⟨N, used', a0, a1, a2, a3, a4, a5, a6⟩ := exCO_sound hH h hr'
        have : ∃ v, u = [v] := by
          have hl := RelX_length hx
          have : width x = 1 := by
            cases x <;> first | rfl | (exfalso; cases k <;> simp [sameA] at hs)
          rw [this] at hl
          exact List.length_eq_one_iff.1 hl
        obtain ⟨v, rfl⟩ := this
        exact ⟨N, used', a0, a1, a2, a3, a4, fun M' Nr hz => RelC_cons.2 ⟨[v], r, rfl, sameA_rel hs hx, a5 M' Nr hz⟩, a6⟩
      · cases h
    | row k sz own =>
      simp only [exCO] at h
      split at h
      · rename_i l used1 hrow
        split at h
        · rename_i d' hd
          cases h
          have : ∃ v, u = [v] := by
            have hl := RelX_length hx
            have : width x = 1 := by
              unfold exRow at hrow
              split at hrow <;> first | rfl | (cases hrow)
            rw [this] at hl
            exact List.length_eq_one_iff.1 hl
          obtain ⟨v, rfl⟩ := this
          obtain ⟨pl, b0, b1, b2, b3, b4, b5⟩ := exRow_sound hH hrow hx
          obtain ⟨N, used', a0, a1, a2, a3, a4, a5, a6⟩ := exCO_sound hH hd hr'
          refine ⟨[pl] ++ N, used', fun k ob h => (h.append).elim (fun h => FzAt.nil (FzAt.snoc (M := []) b0 h)) (a0 k ob), ?_, ?_, fun b hb => a3 b (b3 b hb), ?_, fun M' Nr hz => ?_, a6⟩
          · exact News.append hH (H1 := [some ⟨.row k l, own, none⟩]) b1 a1 b2 a2 b4
          · exact FromB.append (H1 := [some ⟨.row k l, own, none⟩]) rfl b2 a2 b3
          · exact IntoB.append (H1 := [some ⟨.row k l, own, none⟩]) rfl b4 a4 a3
          · have := a5 (M' ++ [pl]) Nr hz
            rw [List.length_append] at this
            refine RelC_cons.2 ⟨[v], r, rfl, b5 _ _ (by simp), ?_⟩
            simpa using this
        · cases h
      · cases h

theorem exO_sound {M : List Place} {H : Heap} {B : Base} {w : World} (hH : RelH M H B w) {kept : List Nat} : ∀ {os : List Out} {xs : List AV} {used : List Nat} {d : D (tysO os)} {vs : List Value}, exO H kept os xs used = some d → RelL M xs vs → (∀ b ∈ kept, b ∈ used) →
    ∃ N, (∀ k ob, ¬ FzAt N k ob) ∧ News B w N (newsO os d) ∧ FromB M H used N (newsO os d) ∧ (∀ M' Nr : List Place, (deepO os = true → FzSub M Nr) → RelL (M' ++ N ++ Nr) (avsO os d M'.length) vs) ∧
      ∀ (M' Nr : List Place), (deepO os = true → FzSub M Nr) → ∀ (pin : Nat) (c : Cont), (pin, c) ∈ upsO os d M'.length → ∃ pl b o, B.pin pin pl ∧ ObjOk (M' ++ N ++ Nr) ⟨c, true, none⟩ pl B w ∧ b ∈ kept ∧ H[b]? = some (some o) ∧ o.own = true ∧ M[b]? = some pl
  | [], xs, used, d, vs, h, hl, hk => by
    cases xs with
    | nil =>
      rw [RelL_nil] at hl
      exact ⟨[], fun k ob h => FzAt.nil h, News.nil B w, FromB.nil _ _ _, fun M' Nr _ => by simp only [avsO]; rw [RelL_nil]; exact hl, fun M' Nr _ pin c hm => by simp [upsO] at hm⟩
    | cons _ _ => simp [exO] at h
  | .ty t :: r, [], used, d, vs, h, hl, hk => by simp [exO] at h
  | .row k sz own :: r, [], used, d, vs, h, hl, hk => by simp [exO] at h
  | .agg cs :: r, [], used, d, vs, h, hl, hk => by simp [exO] at h
  | .ty t :: r, x :: xs, used, d, vs, h, hl, hk => by
    simp only [exO] at h
    split at h
    · rename_i v d' hv hd
      cases h
      obtain ⟨u, vs', rfl, hx, hr⟩ := RelL_cons.1 hl
      obtain ⟨N, a0, a1, a2, a3, a4⟩ := exO_sound hH hd hr hk
      exact ⟨N, a0, a1, a2, fun M' Nr hz => RelL_cons.2 ⟨u, vs', rfl, getT_rel (fun hd k ob h => FzAt.right _ (hz (by simp [deepO, hd]) k ob h)) hv hx, a3 M' Nr fun hd => hz (by simp [deepO, hd])⟩, fun M' Nr hz => a4 M' Nr fun hd => hz (by simp [deepO, hd])⟩
    · cases h
  | .row k sz own :: r, x :: xs, used, d, vs, h, hl, hk => by
    simp only [exO] at h
    split at h
    · rename_i l used1 hrow
      split at h
      · rename_i d' hd
        cases h
        obtain ⟨u, vs', rfl, hx, hr⟩ := RelL_cons.1 hl
        obtain ⟨pl, b0, b1, b2, b3, b4, b5⟩ := exRow_sound hH hrow hx
        obtain ⟨N, a0, a1, a2, a3, a4⟩ := exO_sound hH hd hr (fun b hb => b3 b (hk b hb))
        refine ⟨[pl] ++ N, fun k ob h => (h.append).elim (fun h => FzAt.nil (FzAt.snoc (M := []) b0 h)) (a0 k ob), ?_, ?_, fun M' Nr hz => ?_, fun M' Nr hz pin c hm => ?_⟩
        · exact News.append hH (H1 := [some ⟨.row k l, own, none⟩]) b1 a1 b2 a2 b4
        · exact FromB.append (H1 := [some ⟨.row k l, own, none⟩]) rfl b2 a2 b3
        · have := a3 (M' ++ [pl]) Nr hz
          rw [List.length_append] at this
          refine RelL_cons.2 ⟨u, vs', rfl, b5 _ _ (by simp), ?_⟩
          simpa using this
        · have := a4 (M' ++ [pl]) Nr hz pin c (by rw [List.length_append]; simpa [upsO] using hm)
          simpa using this
      · cases h
    · cases h
  | .agg cs :: r, x :: xs, used, d, vs, h, hl, hk => by
    simp only [exO] at h
    split at h
    · rename_i ys
      obtain ⟨u, vs', rfl, hx, hr⟩ := RelL_cons.1 hl
      obtain ⟨us, hu, hc⟩ := RelX_agg.1 hx
      obtain ⟨N1, used1, b0, b1, b2, b3, b4, b5, b6⟩ := exCO_sound hH h hc
      obtain ⟨N, a0, a1, a2, a3, a4⟩ := exO_sound hH b6 hr (fun b hb => b3 b (hk b hb))
      have hln : N1.length = cntCO cs := by rw [b1.len, newsCO_len]
      refine ⟨N1 ++ N, fun k ob h => (h.append).elim (b0 k ob) (a0 k ob), News.append hH b1 a1 b2 a2 b4, FromB.append b1.len b2 a2 b3, fun M' Nr hz => ?_, fun M' Nr hz pin c hm => ?_⟩
      · refine RelL_cons.2 ⟨u, vs', rfl, RelX_agg.2 ⟨us, hu, ?_⟩, ?_⟩
        · have := b5 M' (N ++ Nr) (fun hd k ob h => FzAt.right _ (hz (by simp [deepO, hd]) k ob h))
          simpa using this
        · have := a3 (M' ++ N1) Nr (fun hd => hz (by simp [deepO, hd]))
          rw [List.length_append, hln] at this
          simpa using this
      · have := a4 (M' ++ N1) Nr (fun hd => hz (by simp [deepO, hd])) pin c (by rw [List.length_append, hln]; simpa [upsO] using hm)
        simpa using this
    · cases h
  | .prow pin k :: r, xs, used, d, vs, h, hl, hk => by
    simp only [exO] at h
    split at h
    · rename_i b hb
      split at h
      · rename_i k' l pn hob
        split at h
        · rename_i hc
          obtain ⟨rfl, hkb⟩ := hc
          split at h
          · rename_i d' hd
            cases h
            obtain ⟨N, a0, a1, a2, a3, a4⟩ := exO_sound hH hd hl hk
            refine ⟨N, a0, a1, a2, a3, fun M' Nr hz pin' c hm => ?_⟩
            simp only [upsO, List.mem_cons, Prod.mk.injEq] at hm
            rcases hm with ⟨rfl, rfl⟩ | hm
            · obtain ⟨_, o, ho, hpo⟩ := pinAt_spec hb
              rw [Nat.sub_zero, hob] at ho
              cases ho
              obtain ⟨pl, hpl, hok⟩ := hH.obj b _ hob
              refine ⟨pl, b, _, hH.pin b _ pl _ hob hpl hpo, ?_, by simpa using hkb, hob, rfl, hpl⟩
              rcases hok with ⟨n1, n2, n3⟩ | ⟨n1, cs', el, fz, g1, g2, g3, g4, g5⟩
              · exact .inl ⟨n1, n2, n3⟩
              · exact .inr ⟨n1, cs', el, fz, g1, g2, g3, g4, g5⟩
            · exact a4 M' Nr hz pin' c hm
          · cases h
        · cases h
      · cases h
    · cases h
  | .psegs pin cs :: r, xs, used, d, vs, h, hl, hk => by
    simp only [exO] at h
    split at h
    · rename_i b hb
      split at h
      · rename_i ys pn hob
        split at h
        · rename_i hkb
          obtain ⟨_, o, ho, hpo⟩ := pinAt_spec hb
          rw [Nat.sub_zero, hob] at ho
          cases ho
          obtain ⟨pl, hpl, hok⟩ := hH.obj b _ hob
          have hvs : ∃ us, RelC M ys us ∧ (∀ M2 ys', RelC M2 ys' us → ObjOk M2 ⟨.segs ys', true, none⟩ pl B w) := by
            rcases hok with ⟨n1, n2, n3⟩ | ⟨n1, cs', el, fz, g1, g2, g3, g4, g5⟩
            · exact ⟨_, n3, fun M2 ys' hy => .inl ⟨n1, n2, hy⟩⟩
            · exact ⟨_, g4, fun M2 ys' hy => .inr ⟨n1, cs', el, fz, g1, g2, g3, hy, g5⟩⟩
          obtain ⟨us, hus, hus2⟩ := hvs
          obtain ⟨N1, used1, b0, b1, b2, b3, b4, b5, b6⟩ := exCO_sound hH h hus
          obtain ⟨N, a0, a1, a2, a3, a4⟩ := exO_sound hH b6 hl (fun b hb => b3 b (hk b hb))
          have hln : N1.length = cntCO cs := by rw [b1.len, newsCO_len]
          refine ⟨N1 ++ N, fun k ob h => (h.append).elim (b0 k ob) (a0 k ob), News.append hH b1 a1 b2 a2 b4, FromB.append b1.len b2 a2 b3, fun M' Nr hz => ?_, fun M' Nr hz pin' c hm => ?_⟩
          · have := a3 (M' ++ N1) Nr (fun hd => hz (by simp [deepO, hd]))
            rw [List.length_append, hln] at this
            simpa [avsO] using this
          · simp only [upsO, List.mem_cons, Prod.mk.injEq] at hm
            rcases hm with ⟨rfl, rfl⟩ | hm
            · refine ⟨pl, b, _, hH.pin b _ pl _ hob hpl hpo, ?_, by simpa using hkb, hob, rfl, hpl⟩
              have := hus2 _ _ (b5 M' (N ++ Nr) (fun hd k ob h => FzAt.right _ (hz (by simp [deepO, hd]) k ob h)))
              simpa using this
            · have := a4 (M' ++ N1) Nr (fun hd => hz (by simp [deepO, hd])) pin' c (by rw [List.length_append, hln]; exact hm)
              simpa using this
        · cases h
      · cases h
    · cases h

theorem relOut_of {M : List Place} {H : Heap} {B : Base} {w : World} (hH : RelH M H B w) {os : List Out} {xs : List AV} {d : D (tysO os)} {vs : List Value} (h : exO H (keptIx H os) os xs (keptIx H os) = some d) (hl : RelL M xs vs) : RelOut B w os d vs := by
  obtain ⟨N, a0, a1, a2, a3, a4⟩ := exO_sound hH h hl (fun b hb => hb)
  obtain ⟨F, hF, hF1, hF2⟩ : ∃ F : List Place, F.length = (fzH os).length ∧ (deepO os = true → FzSub M F) ∧ FzSub F M := by
    unfold fzH
    split
    · exact ⟨[fzPlace M], rfl, fun _ => fzPlace_sup hH, fzPlace_sub⟩
    · rename_i hd
      exact ⟨[], rfl, fun h => absurd h hd, fun k ob h => absurd h FzAt.nil⟩
  have own : ∀ (i : Nat) (pi : Place) (oi : AObj), N[i]? = some pi → (newsO os d)[i]? = some (some oi) → oi.own = true → pi.nil = false → ¬ B.f pi.blk ∧ ∀ ob, ¬ FzAt F pi.blk ob := by
    intro i pi oi hpi ho how hn
    obtain ⟨b', o', p', e1, e2, e3, e4, e5, e6⟩ := a2 i pi oi hpi ho hn
    obtain ⟨f1, f2⟩ := hH.fo b' o' p' e2 e3 (e6 how) e4
    rw [e5]
    exact ⟨f1, fun ob h => f2 ob (hF2 _ _ h)⟩
  refine ⟨N, F, a1, hF, a0, fun k ob h => hH.fz k ob (hF2 k ob h), own, fun M' => by simpa using a3 M' F hF1, fun M' pin c hm => ?_⟩
  obtain ⟨pl, b, o, c1, c2, c3, c4, c5, c6⟩ := a4 M' F hF1 pin c hm
  refine ⟨pl, c1, by simpa using c2, fun i pi hpi hn hn2 => ?_, fun hn ob h => (hH.fo b o pl c4 c6 c5 hn).2 ob (hF2 _ _ h)⟩
  have hi : i < (newsO os d).length := by rw [← a1.len]; exact (List.getElem?_eq_some_iff.1 hpi).1
  cases ho : (newsO os d)[i] with
  | none => exact absurd ho (newsO_some i hi)
  | some oi =>
    have ho' : (newsO os d)[i]? = some (some oi) := by rw [List.getElem?_eq_getElem hi, ho]
    obtain ⟨b', o', p', e1, e2, e3, e4, e5, e6⟩ := a2 i pi oi hpi ho' hn
    rw [e5]
    exact fun e => hH.sep b b' o o' pl p' c4 e2 c6 e3 (fun e => e1 (e ▸ c3)) c5 hn2 e4 e.symm

end Go.AE

/- A part of the proof, put together of my texts: Fw16, Fw17, Fw18, Fw19, Fw20, Fw21, Fw22, Fw23, Fw24, A02defs, A07defs, A08defs, B06defs. -/
import Derived.OpenShut
import GoSem.ClaimWide
import Derived.Maps.Range
import Derived.DeepKeys5
import Derived.Test.YtaogfbhifeobmaaGreatRowFormatTellsP2
set_option linter.unusedVariables false
set_option linter.unusedSimpArgs false
namespace Go.AE
open Go Go.RowKit
variable {ρ : Type}
def st0 (n : Nat) : St := ⟨List.replicate n .undef, [none]⟩
def drop0 : Act := ⟨none, false, false, false⟩
noncomputable def fzOf (M : List Place) (k : Nat) : Option Obj := by
  classical exact if h : ∃ ob, FzAt M k ob then some h.choose else none
noncomputable def fzPlace (M : List Place) : Place := ⟨true, 0, 0, 0, 0, fzOf M⟩
theorem fzOf_at {M : List Place} {k : Nat} {ob : Obj} (h : fzOf M k = some ob) : FzAt M k ob := by
  unfold fzOf at h
  split at h
  · rename_i hx
    cases h
    exact hx.choose_spec
  · cases h
theorem fzPlace_sub {M : List Place} : FzSub [fzPlace M] M := fun k ob ⟨i, pl, h1, h2⟩ => by
  have : pl = fzPlace M := by simpa using List.mem_of_getElem? h1
  subst this
  exact fzOf_at h2
theorem fzPlace_sup {M : List Place} {H : Heap} {B : Base} {w : World} (r : RelH M H B w) : FzSub M [fzPlace M] := fun k ob h => by
  refine ⟨0, fzPlace M, rfl, ?_⟩
  show fzOf M k = some ob
  have hx : ∃ ob, FzAt M k ob := ⟨ob, h⟩
  have e : fzOf M k = some hx.choose := by
    unfold fzOf
    rw [dif_pos hx]
  have h1 := (r.fz k ob h).1
  have h2 := (r.fz k _ hx.choose_spec).1
  rw [h1] at h2
  rw [e, Option.some.inj h2]
theorem told0 {M : List Place} {st : St} {B : Base} {w : World} {a : Array Value} (hH : RelH M st.heap B w) (n : Nat) (hn : n = a.size) : Told M st B w a [drop0] [fzPlace M] (st0 n) := by
  refine ⟨⟨by simp [st0, hn], fun t => ?_⟩, ⟨rfl, hH.base, fun i o h => ?_, fun i j oi oj pi pj h => ?_, fun i o pl k h => ?_, fun i o pl h => ?_, fun k ob h => hH.fz k ob (fzPlace_sub k ob h), fun i o pl h => ?_, hH.bf⟩, rfl, fun i ac h => ?_, fzPlace_sup hH, fzPlace_sub⟩
  · have : (List.replicate n AV.undef).getD t .undef = .undef := by
      rw [List.getD_eq_getElem?_getD, List.getElem?_replicate]
      split <;> rfl
    show RelV _ ((List.replicate n AV.undef).getD t .undef) _
    rw [this]
    exact relV_undef _ _
  all_goals try (cases i <;> simp [st0] at h)
  subst h
  refine ⟨fzPlace M, rfl, fun b h => (by cases h), ⟨fun _ => ⟨fun h => (by cases h), fun h => (by cases h)⟩, fun k ob h => fzOf_at h⟩, fun oi h => (by simp [st0] at h), fun h => (by cases h)⟩
theorem ext_rel {M : List Place} {st : St} {B : Base} {w0 : World} {a : Go.Act} {w : World} (r : Rel M st B w0 a w) {its : List Item} {d : D (tysI its [])} (h : extI st true its [] () [drop0] = some d) {n : Nat} (hn : st.tmps.length = n) : ∃ M', Rel M' (bldI its [] d (st0 n)).1 B w0 a w := by
  obtain ⟨⟨M2, t⟩, _⟩ := extI_sound r.tmps r.heap (fun h => by cases h) (told0 (a := a.tmps) r.heap n (by rw [← hn]; exact r.tmps.1)) h
  exact ⟨M2, t.tmps, r.defers, t.heap, r.below⟩
def aresL (P : Program) (st : St) : List ResultVar → Option (List AV)
  | [] => some []
  | .tmp t :: r => match aresL P st r with
    | some l => some (st.tmps.getD t .undef :: l)
    | none => none
  | .cell t ty :: r => match aload P st.heap ty (st.tmps.getD t .undef), aresL P st r with
    | some x, some l => some (x :: l)
    | _, _ => none
def retV (rs : Array Value) : Value := if h : rs.size = 1 then rs[0] else .tuple rs
def retA : List AV → AV
  | [x] => x
  | l => .tup l
def resOne (a : Array Value) (x : ResultVar) : Sem Value :=
  match x with
  | .tmp t => pure (a.getD t undef)
  | .cell c t => (do loadVar t (← asAddr (a.getD c undef)) : Sem Value)
theorem aresL_sound {P : Program} {M : List Place} {st : St} {B : Base} {w : World} {a : Array Value} (ht : RelT M st.tmps a) (hH : RelH M st.heap B w) : ∀ {rs : List ResultVar} {l : List AV}, aresL P st rs = some l →
    ∃ vs : List Value, RelL M l vs ∧ (rs.mapM (resOne a)).run P w = .ok vs w
  | [], l, h => by
    simp only [aresL, Option.some.injEq] at h
    subst h
    exact ⟨[], RelL_nil.2 rfl, by simp⟩
  | .tmp t :: r, l, h => by
    simp only [aresL] at h
    split at h
    · rename_i l' hl
      cases h
      obtain ⟨vs, h1, h2⟩ := aresL_sound ht hH hl
      have h3 : (resOne a (.tmp t)).run P w = .ok (a.getD t undef) w := rfl
      exact ⟨a.getD t undef :: vs, RelL_cons.2 ⟨_, _, rfl, ht.2 t, h1⟩, by rw [List.mapM_cons]; simp only [Sem.run_bind, Sem.run_pure, Result.andThen_ok, h2, h3]⟩
    · cases h
  | .cell c t :: r, l, h => by
    simp only [aresL] at h
    split at h
    · rename_i x l' hx hl
      cases h
      obtain ⟨vs, h1, h2⟩ := aresL_sound ht hH hl
      obtain ⟨A, u, e, hu, hrun⟩ := aload_sound hH (ht.2 c) hx
      have h3 : (resOne a (.cell c t)).run P w = .ok u w := by
        show ((do loadVar t (← asAddr (a.getD c undef)) : Sem Value)).run P w = _
        rw [Sem.run_bind, e]
        simp only [asAddr, Sem.run_pure, Result.andThen_ok]
        exact hrun w (Below.refl _ _)
      exact ⟨u :: vs, RelL_cons.2 ⟨_, _, rfl, hu, h1⟩, by rw [List.mapM_cons]; simp only [Sem.run_bind, Sem.run_pure, Result.andThen_ok, h2, h3]⟩
    · cases h
theorem results_run {P : Program} {M : List Place} {st : St} {B : Base} {w : World} {a : Array Value} (ht : RelT M st.tmps a) (hH : RelH M st.heap B w) {fn : Func} {l : List AV} (h : aresL P st fn.results.toList = some l) :
    ∃ vs : Array Value, RelL M l vs.toList ∧ (results fn a).run P w = .ok (retV vs) w := by
  obtain ⟨vs, h1, h2⟩ := aresL_sound ht hH h
  refine ⟨vs.toArray, by simpa using h1, ?_⟩
  have h3 : (fn.results.mapM (resOne a)).run P w = .ok vs.toArray w := by
    rw [Array.mapM_eq_mapM_toList]
    show ((List.toArray <$> fn.results.toList.mapM (resOne a) : Sem (Array Value))).run P w = _
    rw [map_eq_pure_bind, Sem.run_bind, h2]
    rfl
  have h4 : results fn a = (do
      let vs ← fn.results.mapM (resOne a)
      pure (if h : vs.size = 1 then vs[0] else .tuple vs)) := by
    unfold results
    have : (fun (x : ResultVar) => (match x with | .tmp t => pure (a.getD t undef) | .cell c t => (do loadVar t (← asAddr (a.getD c undef)) : Sem Value) : Sem Value)) = resOne a := by
      funext x
      cases x <;> rfl
    rw [← this]
    rfl
  rw [h4, Sem.run_bind, h3]
  rfl
theorem retA_rel {M : List Place} {l : List AV} {vs : Array Value} (h : RelL M l vs.toList) : RelV M (retA l) (retV vs) := by
  have hlen : ∀ {l : List AV} {vs : List Value}, RelL M l vs → l.length = vs.length := by
    intro l
    induction l with
    | nil => intro vs h; rw [RelL_nil] at h; subst h; rfl
    | cons x l ih => intro vs h; obtain ⟨v, r, rfl, _, hr⟩ := RelL_cons.1 h; simp [ih hr]
  have hl := hlen h
  simp at hl
  unfold retA retV
  split
  · rename_i x
    simp at hl
    rw [dif_pos hl.symm]
    obtain ⟨v, r, e, hx, hr⟩ := RelL_cons.1 h
    rw [RelL_nil] at hr
    subst hr
    have : vs[0]'(by omega) = v := by
      have := congrArg (fun l : List Value => l[0]?) e
      simpa [hl.symm] using this
    rw [this]
    exact hx
  · rename_i hne
    rw [dif_neg]
    · simp only [RelV, RelX]
      exact ⟨vs, rfl, h⟩
    · intro h1
      rw [h1] at hl
      obtain ⟨x, rfl⟩ := List.length_eq_one_iff.1 hl
      exact hne x rfl
def evBody (P : Program) (cal : Cal ρ) (qcal : QCal ρ) (ann : Nat → Option (Ann ρ)) (f : FuncId) (args : List AV) (H : Heap) (K : List AV → Heap → Option ρ) : Option ρ :=
  match P.funcs[f]? with
  | some fn => match fn.body with
    | some c => evCode P cal qcal ann c ⟨args ++ List.replicate (fn.ntmps - args.length) .undef, H⟩ fun e st => match e with
      | .normal | .ret => match aresL P st fn.results.toList with
        | some l => K l st.heap
        | none => none
      | _ => none
    | none => none
  | none => none
theorem relL_size {M : List Place} : ∀ {l : List AV} {vs : List Value}, RelL M l vs → l.length = vs.length
  | [], vs, h => by rw [RelL_nil] at h; subst h; rfl
  | x :: l, vs, h => by obtain ⟨v, r, rfl, _, hr⟩ := RelL_cons.1 h; simp [relL_size hr]
theorem relT_args {M : List Place} {args : List AV} {vs : Array Value} (h : RelL M args vs.toList) (n : Nat) : RelT M (args ++ List.replicate n .undef) (vs ++ Array.replicate n undef) := by
  have hs := relL_size h
  simp at hs
  refine ⟨by simp [hs], fun t => ?_⟩
  by_cases ht : t < args.length
  · have e1 : (args ++ List.replicate n AV.undef).getD t .undef = args[t] := by simp [List.getD_eq_getElem?_getD, List.getElem?_append_left ht, ht]
    rw [e1]
    obtain ⟨v, hv, hr⟩ := relL_get h (List.getElem?_eq_getElem ht)
    have e2 : (vs ++ Array.replicate n undef).getD t undef = v := by
      have hv' : vs[t]? = some v := by simpa using hv
      simp [Array.getElem?_append_left (show t < vs.size by omega), hv']
    rw [e2]
    exact hr
  · have e1 : (args ++ List.replicate n AV.undef).getD t .undef = .undef := by
      rw [List.getD_eq_getElem?_getD, List.getElem?_append_right (by omega), List.getElem?_replicate]
      split <;> rfl
    rw [e1]
    exact relV_undef _ _
theorem evBody_sound {P : Program} (hP : Callable P) {cal : Cal ρ} (hcal : ∀ f, CalAt P f (cal f)) {qcal : QCal ρ} (hq : ∀ f, QCalAt P f (qcal f)) {ann : Nat → Option (Ann ρ)} {x : Bool} {f : FuncId} {args : List AV} {H : Heap} {K : List AV → Heap → Option ρ} {r : ρ}
    (h : evBody P cal qcal ann f args H K = some r) {M : List Place} {B : Base} {w : World} {vs : Array Value}
    (hann : ∀ fn c, P.funcs[f]? = some fn → fn.body = some c → ∀ id an c', ann id = some an → (id, c') ∈ blocks c → AnnAt P x B w (.block id c') an)
    (hl : RelL M args vs.toList) (hH : RelH M H B w) :
    Calls P f vs w fun e w' => ∃ rs l H' M', e = .returned (retV rs) ∧ K l H' = some r ∧ ExtO x M M' ∧ RelL M' l rs.toList ∧ RelH M' H' B w' ∧ Beneath B w w' := by
  unfold evBody at h
  split at h
  · rename_i fn hf
    split at h
    · rename_i c hb
      have hs := relL_size hl
      simp at hs
      refine calls_of_wp hf hb ?_
      have hr0 : Rel M ⟨args ++ List.replicate (fn.ntmps - args.length) .undef, H⟩ B w { tmps := vs ++ Array.replicate (fn.ntmps - vs.size) undef, defers := [] } w :=
        ⟨by rw [hs]; exact relT_args hl _, rfl, hH, Beneath.refl _ _⟩
      refine evCode_sound hP hcal hq c (hann fn c hf hb) _ _ h M _ w _ hr0 fun e M' st' a' w' hE hk hr => ?_
      have fin : (match aresL P st' fn.results.toList with | some l => K l st'.heap | none => none) = some r →
          a'.defers = [] ∧ ∃ v, (results fn a'.tmps).run P w' = .ok v w' ∧ ∃ rs l H' M', Ending.returned v = .returned (retV rs) ∧ K l H' = some r ∧ ExtO x M M' ∧ RelL M' l rs.toList ∧ RelH M' H' B w' ∧ Beneath B w w' := by
        intro hk
        split at hk
        · rename_i l hres
          obtain ⟨rs, h1, h2⟩ := results_run hr.tmps hr.heap hres
          exact ⟨hr.defers, _, h2, rs, l, _, M', rfl, hk, hE, h1, hr.heap, hr.below⟩
        · cases hk
      cases e <;> simp only [reduceCtorEq] at hk
      case normal => exact fin hk
      case ret => exact fin hk
    · cases h
  · cases h
structure Env (ρ : Type) where
  sum : FuncId → Option (List AV → Heap → (AV → Heap → Option ρ) → Option ρ)
  qsum : FuncId → Option (List AV → Heap → (AV → Option ρ) → Option ρ)
structure EnvOk (P : Program) (E : Env ρ) : Prop where
  sum : ∀ f s, E.sum f = some s → CalAt P f s
  qsum : ∀ f s, E.qsum f = some s → QCalAt P f s
def qof (E : Env ρ) : QCal ρ := fun f args H K => match E.qsum f with
  | some s => s args H K
  | none => none
def evFn (P : Program) (E : Env ρ) : Nat → Cal ρ
  | 0 => fun _ _ _ _ => none
  | n + 1 => fun f args H K => match E.sum f with
    | some s => s args H K
    | none => evBody P (evFn P E n) (qof E) (fun _ => none) f args H fun l H' => K (retA l) H'
theorem qof_ok {P : Program} {E : Env ρ} (hE : EnvOk P E) (f : FuncId) : QCalAt P f (qof E f) := by
  intro args H K r h M B w vs hl hH
  unfold qof at h
  split at h
  · rename_i s hs
    exact hE.qsum f s hs args H K r h M B w vs hl hH
  · cases h
theorem evFn_ok {P : Program} (hP : Callable P) {E : Env ρ} (hE : EnvOk P E) : ∀ (n : Nat) (f : FuncId), CalAt P f (evFn P E n f)
  | 0, f => fun args H K r h => by cases h
  | n + 1, f => by
    intro args H K r h M B w vs hl hH
    unfold evFn at h
    split at h
    · rename_i s hs
      exact hE.sum f s hs args H K r h M B w vs hl hH
    · refine (evBody_sound hP (evFn_ok hP hE n) (qof_ok hE) (x := true) h (fun _ _ _ _ id an c' h1 => (by cases h1)) hl hH).mono ?_
      rintro e w' ⟨rs, l, H', M', h1, h2, h3, h4, h5, h6⟩
      exact ⟨retV rs, retA l, H', M', h1, h2, h3 rfl, h5, h6, retA_rel h4⟩
inductive CO where
  | hole (t : Ty)
  | const (a : AV)
  | row (k : IntKind) (sz : Nat) (own : Bool)
inductive Out where
  | ty (t : Ty)
  | row (k : IntKind) (sz : Nat) (own : Bool := true)
  | agg (cs : List CO)
  | prow (pin : Nat) (k : IntKind)
  | psegs (pin : Nat) (cs : List CO)
@[reducible] def tysCO : List CO → List Ty → List Ty
  | [], acc => acc
  | .hole t :: r, acc => t :: tysCO r acc
  | .const _ :: r, acc => tysCO r acc
  | .row k _ _ :: r, acc => .row k :: tysCO r acc
@[reducible] def tysO : List Out → List Ty
  | [] => []
  | .ty t :: r => t :: tysO r
  | .row k _ _ :: r => .row k :: tysO r
  | .agg cs :: r => tysCO cs (tysO r)
  | .prow _ k :: r => .row k :: tysO r
  | .psegs _ cs :: r => tysCO cs (tysO r)
def cntCO : List CO → Nat
  | [] => 0
  | .row _ _ _ :: r => cntCO r + 1
  | _ :: r => cntCO r
def slO (b sz : Nat) (l : List Int) (own : Bool) : AV := .sl b 0 (div1 l.length sz) sz (if own then .own else .whole)
def cellsCO : (cs : List CO) → (acc : List Ty) → D (tysCO cs acc) → Nat → List AV
  | [], _, _, _ => []
  | .hole t :: r, acc, d, b => mkC t d.1 :: cellsCO r acc d.2 b
  | .const a :: r, acc, d, b => a :: cellsCO r acc d b
  | .row _ sz own :: r, acc, d, b => slO b sz d.1 own :: cellsCO r acc d.2 (b + 1)
def newsCO : (cs : List CO) → (acc : List Ty) → D (tysCO cs acc) → Heap
  | [], _, _ => []
  | .hole _ :: r, acc, d => newsCO r acc d.2
  | .const _ :: r, acc, d => newsCO r acc d
  | .row k _ own :: r, acc, d => some ⟨.row k d.1, own, none⟩ :: newsCO r acc d.2
def restCO : (cs : List CO) → (acc : List Ty) → D (tysCO cs acc) → D acc
  | [], _, d => d
  | .hole _ :: r, acc, d => restCO r acc d.2
  | .const _ :: r, acc, d => restCO r acc d
  | .row _ _ _ :: r, acc, d => restCO r acc d.2
def avsO : (os : List Out) → D (tysO os) → Nat → List AV
  | [], _, _ => []
  | .ty t :: r, d, b => mkT t d.1 :: avsO r d.2 b
  | .row _ sz own :: r, d, b => slO b sz d.1 own :: avsO r d.2 (b + 1)
  | .agg cs :: r, d, b => .agg (cellsCO cs (tysO r) d b) :: avsO r (restCO cs (tysO r) d) (b + cntCO cs)
  | .prow _ _ :: r, d, b => avsO r d.2 b
  | .psegs _ cs :: r, d, b => avsO r (restCO cs (tysO r) d) (b + cntCO cs)
def newsO : (os : List Out) → D (tysO os) → Heap
  | [], _ => []
  | .ty _ :: r, d => newsO r d.2
  | .row k _ own :: r, d => some ⟨.row k d.1, own, none⟩ :: newsO r d.2
  | .agg cs :: r, d => newsCO cs (tysO r) d ++ newsO r (restCO cs (tysO r) d)
  | .prow _ _ :: r, d => newsO r d.2
  | .psegs _ cs :: r, d => newsCO cs (tysO r) d ++ newsO r (restCO cs (tysO r) d)
def upsO : (os : List Out) → D (tysO os) → Nat → List (Nat × Cont)
  | [], _, _ => []
  | .ty _ :: r, d, b => upsO r d.2 b
  | .row _ _ _ :: r, d, b => upsO r d.2 (b + 1)
  | .agg cs :: r, d, b => upsO r (restCO cs (tysO r) d) (b + cntCO cs)
  | .prow pin k :: r, d, b => (pin, .row k d.1) :: upsO r d.2 b
  | .psegs pin cs :: r, d, b => (pin, .segs (cellsCO cs (tysO r) d b)) :: upsO r (restCO cs (tysO r) d) (b + cntCO cs)
theorem newsCO_len : ∀ {cs : List CO} {acc : List Ty} {d : D (tysCO cs acc)}, (newsCO cs acc d).length = cntCO cs
  | [], _, _ => rfl
  | .hole _ :: r, acc, d => newsCO_len (cs := r) (d := d.2)
  | .const _ :: r, acc, d => newsCO_len (cs := r) (d := d)
  | .row _ _ _ :: r, acc, d => by simp [newsCO, cntCO, newsCO_len (cs := r) (d := d.2)]
theorem newsCO_some : ∀ {cs : List CO} {acc : List Ty} {d : D (tysCO cs acc)}, ∀ x ∈ newsCO cs acc d, x ≠ none
  | [], _, _ => by simp [newsCO]
  | .hole _ :: r, acc, d => newsCO_some (cs := r) (d := d.2)
  | .const _ :: r, acc, d => newsCO_some (cs := r) (d := d)
  | .row _ _ _ :: r, acc, d => by
    intro x hx
    simp only [newsCO, List.mem_cons] at hx
    rcases hx with rfl | hx
    · simp
    · exact newsCO_some (cs := r) (d := d.2) x hx
theorem newsO_mem : ∀ {os : List Out} {d : D (tysO os)}, ∀ x ∈ newsO os d, x ≠ none
  | [], _ => by simp [newsO]
  | .ty _ :: r, d => newsO_mem (os := r) (d := d.2)
  | .row _ _ _ :: r, d => by
    intro x hx
    simp only [newsO, List.mem_cons] at hx
    rcases hx with rfl | hx
    · simp
    · exact newsO_mem (os := r) (d := d.2) x hx
  | .agg cs :: r, d => by
    intro x hx
    simp only [newsO, List.mem_append] at hx
    rcases hx with hx | hx
    · exact newsCO_some x hx
    · exact newsO_mem x hx
  | .prow _ _ :: r, d => newsO_mem (os := r) (d := d.2)
  | .psegs _ cs :: r, d => by
    intro x hx
    simp only [newsO, List.mem_append] at hx
    rcases hx with hx | hx
    · exact newsCO_some x hx
    · exact newsO_mem x hx
theorem newsO_some {os : List Out} {d : D (tysO os)} (i : Nat) (hi : i < (newsO os d).length) : (newsO os d)[i] ≠ none := newsO_mem _ (List.getElem_mem hi)
def pinAt : Heap → Nat → Nat → Option Nat
  | [], _, _ => none
  | o :: r, k, i => match o with
    | some ob => if ob.pin = some k then some i else pinAt r k (i + 1)
    | none => pinAt r k (i + 1)
theorem pinAt_spec : ∀ {H : Heap} {k i b : Nat}, pinAt H k i = some b → i ≤ b ∧ ∃ o, H[b - i]? = some (some o) ∧ o.pin = some k
  | [], k, i, b, h => by cases h
  | o :: r, k, i, b, h => by
    have next : pinAt r k (i + 1) = some b → i ≤ b ∧ ∃ o', (o :: r)[b - i]? = some (some o') ∧ o'.pin = some k := by
      intro h
      obtain ⟨h1, o', h2, h3⟩ := pinAt_spec h
      refine ⟨by omega, o', ?_, h3⟩
      rw [show b - i = (b - (i + 1)) + 1 by omega]
      simpa using h2
    unfold pinAt at h
    split at h
    · rename_i ob
      split at h
      · rename_i hk
        cases h
        exact ⟨Nat.le_refl _, ob, by simp, hk⟩
      · exact next h
    · exact next h
def exRow (H : Heap) (k : IntKind) (sz : Nat) (own : Bool) (x : AV) (used : List Nat) : Option (List Int × List Nat) :=
  match x with
  | .nils => if 1 ≤ sz then some ([], used) else none
  | .sl b off len s c => if s = sz ∧ 1 ≤ sz ∧ used.contains b = false ∧ (own = true → c = .own) then
      match H[b]? with
      | some (some ⟨_, o, _⟩) => if own = true → o = true then
          match wholeC H (.sl b off len s c) with
          | some (.row k' l) => if k' = k then some (l, b :: used) else none
          | _ => none
        else none
      | _ => none
    else none
  | _ => none
def exCO (H : Heap) : (cs : List CO) → (acc : List Ty) → (List Nat → Option (D acc)) → List AV → List Nat → Option (D (tysCO cs acc))
  | [], _, rest, [], used => rest used
  | .hole t :: r, acc, rest, xs, used => match popC t xs with
    | some (v, ys) => match exCO H r acc rest ys used with
      | some d => some (v, d)
      | none => none
    | none => none
  | .const a :: r, acc, rest, x :: xs, used => if sameA a x then exCO H r acc rest xs used else none
  | .row k sz own :: r, acc, rest, x :: xs, used => match exRow H k sz own x used with
    | some (l, used') => match exCO H r acc rest xs used' with
      | some d => some (l, d)
      | none => none
    | none => none
  | _, _, _, _, _ => none
def exO (H : Heap) (kept : List Nat) : (os : List Out) → List AV → List Nat → Option (D (tysO os))
  | [], [], _ => some ()
  | .ty t :: r, x :: xs, used => match getT t x, exO H kept r xs used with
    | some v, some d => some (v, d)
    | _, _ => none
  | .row k sz own :: r, x :: xs, used => match exRow H k sz own x used with
    | some (l, used') => match exO H kept r xs used' with
      | some d => some (l, d)
      | none => none
    | none => none
  | .agg cs :: r, x :: xs, used => match x with
    | .agg ys => exCO H cs (tysO r) (exO H kept r xs) ys used
    | _ => none
  | .prow pin k :: r, xs, used => match pinAt H pin 0 with
    | some b => match H[b]? with
      | some (some ⟨.row k' l, true, _⟩) => if k' = k ∧ kept.contains b = true then (match exO H kept r xs used with | some d => some (l, d) | none => none) else none
      | _ => none
    | none => none
  | .psegs pin cs :: r, xs, used => match pinAt H pin 0 with
    | some b => match H[b]? with
      | some (some ⟨.segs ys, true, _⟩) => if kept.contains b = true then exCO H cs (tysO r) (exO H kept r xs) ys used else none
      | _ => none
    | none => none
  | _, _, _ => none
def keptIx (H : Heap) : List Out → List Nat
  | [] => []
  | .prow pin _ :: r => (match pinAt H pin 0 with | some b => [b] | none => []) ++ keptIx H r
  | .psegs pin _ :: r => (match pinAt H pin 0 with | some b => [b] | none => []) ++ keptIx H r
  | _ :: r => keptIx H r
structure News (B : Base) (w : World) (N : List Place) (H : Heap) : Prop where
  len : N.length = H.length
  obj : ∀ (i : Nat) (o : AObj), H[i]? = some (some o) → o.pin = none ∧ (∃ k l, o.c = .row k l) ∧ ∃ pl, N[i]? = some pl ∧ ObjOk [] o pl B w ∧ (pl.nil = false → B.vis pl.blk)
  sep : ∀ (i j : Nat) (oi oj : AObj) (pi pj : Place), H[i]? = some (some oi) → H[j]? = some (some oj) → N[i]? = some pi → N[j]? = some pj → i ≠ j → oi.own = true → pi.nil = false → pj.nil = false → pi.blk ≠ pj.blk
def deepCO : List CO → Bool
  | [] => false
  | .hole t :: r => t.deep || deepCO r
  | _ :: r => deepCO r
def deepO : List Out → Bool
  | [] => false
  | .ty t :: r => t.deep || deepO r
  | .agg cs :: r => deepCO cs || deepO r
  | .psegs _ cs :: r => deepCO cs || deepO r
  | _ :: r => deepO r
def fzH (os : List Out) : Heap := if deepO os then [none] else []
def RelOut (B : Base) (w : World) (os : List Out) (d : D (tysO os)) (vs : List Value) : Prop :=
  ∃ N F : List Place, News B w N (newsO os d) ∧ F.length = (fzH os).length ∧ (∀ k ob, ¬ FzAt N k ob) ∧
    (∀ k ob, FzAt F k ob → w.heap[k]? = some ob ∧ B.vis k ∧ (B.w k ∨ B.f k)) ∧
    (∀ (i : Nat) (pi : Place) (oi : AObj), N[i]? = some pi → (newsO os d)[i]? = some (some oi) → oi.own = true → pi.nil = false → ¬ B.f pi.blk ∧ ∀ ob, ¬ FzAt F pi.blk ob) ∧
    (∀ M : List Place, RelL (M ++ (N ++ F)) (avsO os d M.length) vs) ∧
    ∀ (M : List Place) (pin : Nat) (c : Cont), (pin, c) ∈ upsO os d M.length → ∃ pl, B.pin pin pl ∧ ObjOk (M ++ (N ++ F)) ⟨c, true, none⟩ pl B w ∧
      (∀ (i : Nat) (pi : Place), N[i]? = some pi → pi.nil = false → pl.nil = false → pi.blk ≠ pl.blk) ∧ (pl.nil = false → ∀ ob, ¬ FzAt F pl.blk ob)
theorem News.nil (B : Base) (w : World) : News B w [] [] := ⟨rfl, fun i o h => (by simp at h), fun i j oi oj pi pj h => (by simp at h)⟩
def IntoB (M : List Place) (H : Heap) (used : List Nat) (N : List Place) (Hn : Heap) : Prop :=
  ∀ (i : Nat) (pi : Place) (oi : AObj), N[i]? = some pi → Hn[i]? = some (some oi) → pi.nil = false → ∃ b o p, b ∈ used ∧ H[b]? = some (some o) ∧ M[b]? = some p ∧ p.nil = false ∧ pi.blk = p.blk ∧ (oi.own = true → o.own = true)
def FromB (M : List Place) (H : Heap) (used : List Nat) (N : List Place) (Hn : Heap) : Prop :=
  ∀ (i : Nat) (pi : Place) (oi : AObj), N[i]? = some pi → Hn[i]? = some (some oi) → pi.nil = false → ∃ b o p, b ∉ used ∧ H[b]? = some (some o) ∧ M[b]? = some p ∧ p.nil = false ∧ pi.blk = p.blk ∧ (oi.own = true → o.own = true)
theorem News.append {B : Base} {w : World} {M : List Place} {H : Heap} (hH : RelH M H B w) {N1 N2 : List Place} {H1 H2 : Heap} {used used2 : List Nat} (h1 : News B w N1 H1) (h2 : News B w N2 H2) (f1 : FromB M H used N1 H1) (f2 : FromB M H used2 N2 H2)
    (hu : IntoB M H used2 N1 H1) : News B w (N1 ++ N2) (H1 ++ H2) := by
  have hl := h1.len
  have part : ∀ (i : Nat) (o : AObj) , (H1 ++ H2)[i]? = some (some o) → (i < N1.length ∧ H1[i]? = some (some o) ∧ (N1 ++ N2)[i]? = N1[i]?) ∨ (N1.length ≤ i ∧ H2[i - N1.length]? = some (some o) ∧ (N1 ++ N2)[i]? = N2[i - N1.length]?) := by
    intro i o h
    by_cases hi : i < N1.length
    · rw [List.getElem?_append_left (by omega)] at h
      exact .inl ⟨hi, h, List.getElem?_append_left hi⟩
    · rw [List.getElem?_append_right (by omega)] at h
      rw [← hl] at h
      exact .inr ⟨by omega, h, List.getElem?_append_right (by omega)⟩
  have cross : ∀ (i j : Nat) (oi oj : AObj) (pi pj : Place), N1[i]? = some pi → H1[i]? = some (some oi) → N2[j]? = some pj → H2[j]? = some (some oj) → (oi.own = true ∨ oj.own = true) → pi.nil = false → pj.nil = false → pi.blk ≠ pj.blk := by
    intro i j oi oj pi pj a1 a2 b1 b2 ho n1 n2
    obtain ⟨b, o, p, c1, c2, c3, c4, c5, c6⟩ := hu i pi oi a1 a2 n1
    obtain ⟨b', o', p', e1, e2, e3, e4, e5, e6⟩ := f2 j pj oj b1 b2 n2
    have hne : b ≠ b' := fun e => e1 (e ▸ c1)
    rw [c5, e5]
    rcases ho with ho | ho
    · exact hH.sep b b' o o' p p' c2 e2 c3 e3 hne (c6 ho) c4 e4
    · exact fun e => hH.sep b' b o' o p' p e2 c2 e3 c3 (fun e => hne e.symm) (e6 ho) e4 c4 e.symm
  refine ⟨by simp [hl, h2.len], fun i o h => ?_, fun i j oi oj pi pj hi hj hpi hpj hne how hni hnj => ?_⟩
  · rcases part i o h with ⟨_, g1, g2⟩ | ⟨_, g1, g2⟩
    · obtain ⟨a1, a2, pl, a3, a4⟩ := h1.obj i o g1
      exact ⟨a1, a2, pl, by rw [g2]; exact a3, a4⟩
    · obtain ⟨a1, a2, pl, a3, a4⟩ := h2.obj _ o g1
      exact ⟨a1, a2, pl, by rw [g2]; exact a3, a4⟩
  · rcases part i oi hi with ⟨l1, g1, g2⟩ | ⟨l1, g1, g2⟩ <;> rcases part j oj hj with ⟨l2, k1, k2⟩ | ⟨l2, k1, k2⟩
    · exact h1.sep i j oi oj pi pj g1 k1 (by rw [← g2]; exact hpi) (by rw [← k2]; exact hpj) hne how hni hnj
    · exact cross i _ oi oj pi pj (by rw [← g2]; exact hpi) g1 (by rw [← k2]; exact hpj) k1 (.inl how) hni hnj
    · exact fun e => cross j _ oj oi pj pi (by rw [← k2]; exact hpj) k1 (by rw [← g2]; exact hpi) g1 (.inr how) hnj hni e.symm
    · exact h2.sep _ _ oi oj pi pj g1 k1 (by rw [← g2]; exact hpi) (by rw [← k2]; exact hpj) (by omega) how hni hnj
theorem exRow_sound {M : List Place} {H : Heap} {B : Base} {w : World} (hH : RelH M H B w) {k : IntKind} {sz : Nat} {own : Bool} {x : AV} {used used' : List Nat} {l : List Int} (h : exRow H k sz own x used = some (l, used')) {v : Value} (hx : RelV M x v) :
    ∃ pl, pl.fz = noFz ∧ News B w [pl] [some ⟨.row k l, own, none⟩] ∧ FromB M H used [pl] [some ⟨.row k l, own, none⟩] ∧ (∀ b ∈ used, b ∈ used') ∧
      IntoB M H used' [pl] [some ⟨.row k l, own, none⟩] ∧
      ∀ M' : List Place, ∀ b, M'[b]? = some pl → RelV M' (slO b sz l own) v := by
  have one : ∀ (pl : Place), ObjOk [] ⟨.row k l, own, none⟩ pl B w → (pl.nil = false → B.vis pl.blk) → News B w [pl] [some ⟨.row k l, own, none⟩] := by
    intro pl h1 h2
    refine ⟨rfl, fun i o ho => ?_, fun i j oi oj pi pj hi hj _ _ hne => ?_⟩
    · cases i with
      | zero => simp at ho; subst ho; exact ⟨rfl, ⟨k, l, rfl⟩, pl, rfl, h1, h2⟩
      | succ i => simp at ho
    · have h1 := (List.getElem?_eq_some_iff.1 hi).1
      have h2 := (List.getElem?_eq_some_iff.1 hj).1
      simp at h1 h2
      omega
  have at0 : ∀ (pl pi : Place) (oi : AObj) (i : Nat), [pl][i]? = some pi → [some (⟨.row k l, own, none⟩ : AObj)][i]? = some (some oi) → pi = pl ∧ oi = ⟨.row k l, own, none⟩ := by
    intro pl pi oi i h1 h2
    cases i with
    | zero => simp at h1 h2; exact ⟨h1.symm, h2.symm⟩
    | succ i => simp at h1
  unfold exRow at h
  split at h
  · split at h
    · rename_i hs
      cases h
      have hv : v = .slice none 0 0 := by simpa [RelV, RelX] using hx
      subst hv
      refine ⟨⟨true, 0, 0, 0, 0, noFz⟩, rfl, one _ (.inl ⟨rfl, rfl, by simp [RelO]⟩) (fun h => (by cases h)), fun i pi oi h1 h2 hn => ?_, fun b hb => hb, fun i pi oi h1 h2 hn => ?_, fun M' b hb => ?_⟩
      · rw [(at0 _ _ _ _ h1 h2).1] at hn; cases hn
      · rw [(at0 _ _ _ _ h1 h2).1] at hn; cases hn
      · unfold slO
        rw [div_len (n := ([] : List Int).length) (len := 0) (by simp) hs]
        simp only [RelV, RelX]
        exact ⟨⟨true, 0, 0, 0, 0, noFz⟩, none, 0, hb, rfl, by simp, Nat.le_refl _, fun _ => ⟨fun _ => rfl, rfl⟩, fun h => (by cases h), fun hf => (by cases own <;> simp at hf), fun _ => ⟨trivial, rfl, by simp, by simp⟩, fun _ => ⟨trivial, by simp⟩, by rw [has_iff]; simp [loB, hiB]⟩
    · cases h
  · rename_i b off len s c
    split at h
    · rename_i hcond
      obtain ⟨rfl, hs, hnu, hco⟩ := hcond
      split at h
      · rename_i oc o op hob
        split at h
        · rename_i hoo
          split at h
          · rename_i k' l' hwc
            split at h
            · rename_i hk
              subst hk
              cases h
              obtain ⟨us, hus, lus⟩ := wholeC_rel hH hx hwc (fun _ _ _ _ _ e => by cases e; rfl)
              obtain ⟨pl0, hpl0, hok0⟩ := hH.obj b _ hob
              have hx0 := hx
              simp only [RelV, RelX] at hx0
              obtain ⟨pl, A, cap, hpl, hv, hb, hcap, hnil, hnn, hfull, hown, hwhole, hhas⟩ := hx0
              rw [hpl0] at hpl
              cases hpl
              have hv : v = .slice A len cap := by simpa using hv
              have hlus := lus.1
              simp only [slLen] at hlus
              have hll : l.length = len * s := by have := congrArg List.length hus.1; simp at this; omega
              have hdiv := div_len hll hs
              have hnb : b ∉ used := fun hm => by
                have : used.contains b = true := by simpa using hm
                rw [this] at hnu; cases hnu
              have off0 : own = true → off = 0 ∧ pl0.off = 0 ∧ len * s = pl0.n ∧ cap * s ≤ pl0.size := fun ho => hown (hco ho)
              refine ⟨⟨pl0.nil, pl0.blk, pl0.off + off, len * s, pl0.size, noFz⟩, rfl, one _ ?_ (fun hn => hH.vis b _ pl0 hob hpl0 hn), fun i pi oi h1 h2 hn => ?_, fun b' hb' => by simp [hb'], fun i pi oi h1 h2 hn => ?_, fun M' b' hb' => ?_⟩
              · cases hn : pl0.nil with
                | true =>
                  have h1 := (hnil hn).2
                  have hl0 : len = 0 := by omega
                  have : l = [] := List.eq_nil_of_length_eq_zero (by rw [hll]; simp [hl0])
                  subst this
                  exact .inl ⟨rfl, by simp [hl0], by simp [RelO]⟩
                | false =>
                  rcases hok0 with ⟨n1, _⟩ | ⟨_, cs, el, fz, g1, g2, g3, g4, g5⟩
                  · rw [hn] at n1; cases n1
                  · refine .inr ⟨rfl, cs, el, fz, g1, g2, by simp only; omega, ?_, fun ho => ?_⟩
                    · simp only
                      have hu : us = (cs.toList.drop (pl0.off + off)).take (len * s) := by
                        obtain ⟨_, A2, cap2, hv2, _, hm⟩ := lus
                        simp only [slLen] at hv2 hm
                        by_cases hz : len * s = 0
                        · rw [hz] at hlus ⊢
                          have : us = [] := List.eq_nil_of_length_eq_zero hlus
                          rw [this]; simp
                        · rcases hm with hm | ⟨blk, o2, cs2, el2, fz2, e, hg2, hle2, hus2⟩
                          · exact absurd hm hz
                          · have hl0 : 0 < len := by
                              rcases Nat.eq_zero_or_pos len with h0 | h0
                              · rw [h0] at hz; simp at hz
                              · exact h0
                            have hA := (hnn hn).2 (.inl hl0)
                            rw [hv] at hv2
                            injection hv2 with e1
                            rw [← e1, hA] at e
                            injection e with e
                            injection e with e2 e3
                            rw [← e2, g1] at hg2
                            cases hg2
                            rw [hus2, ← e3]
                      rw [← hu]
                      exact hus
                    · simp only at ho
                      obtain ⟨z1, z2, z3⟩ := g5 (hoo ho)
                      obtain ⟨y1, y2, y3, y4⟩ := off0 ho
                      exact ⟨z1, by simp [y1, y2], z3⟩
              · obtain ⟨e1, e2⟩ := at0 _ _ _ _ h1 h2
                subst e1; subst e2
                exact ⟨b, _, pl0, hnb, hob, hpl0, hn, rfl, hoo⟩
              · obtain ⟨e1, e2⟩ := at0 _ _ _ _ h1 h2
                subst e1; subst e2
                exact ⟨b, _, pl0, by simp, hob, hpl0, hn, rfl, hoo⟩
              · unfold slO
                rw [hdiv]
                simp only [RelV, RelX]
                refine ⟨⟨pl0.nil, pl0.blk, pl0.off + off, len * s, pl0.size, noFz⟩, A, cap, hb', by rw [hv], by simp, hcap, fun hn => ⟨fun hf => ?_, (hnil hn).2⟩, fun hn => ⟨(hnn hn).1, fun hq => ?_⟩, fun hf => (by cases own <;> simp at hf), fun hf => ?_, fun _ => ⟨trivial, rfl⟩, hhas⟩
                · exact (hnil hn).1 (hco (by cases own with | true => rfl | false => simp at hf))
                · have h1 : 0 < len ∨ c = .own := by
                    rcases hq with hq | hq
                    · exact .inl hq
                    · exact .inr (hco (by cases own with | true => rfl | false => simp at hq))
                  simpa using (hnn hn).2 h1
                · have ho : own = true := by cases own with | true => rfl | false => simp at hf
                  obtain ⟨y1, y2, y3, y4⟩ := off0 ho
                  exact ⟨trivial, by simp [y1, y2], rfl, y4⟩
            · cases h
          · cases h
        · cases h
      · cases h
    · cases h
  · cases h
theorem FromB.append {M : List Place} {H : Heap} {used used2 : List Nat} {N1 N2 : List Place} {H1 H2 : Heap} (hl : N1.length = H1.length) (f1 : FromB M H used N1 H1) (f2 : FromB M H used2 N2 H2) (hu : ∀ b ∈ used, b ∈ used2) : FromB M H used (N1 ++ N2) (H1 ++ H2) := by
  intro i pi oi h1 h2 hn
  by_cases hi : i < N1.length
  · rw [List.getElem?_append_left hi] at h1
    rw [List.getElem?_append_left (by omega)] at h2
    exact f1 i pi oi h1 h2 hn
  · rw [List.getElem?_append_right (by omega)] at h1
    rw [List.getElem?_append_right (by omega), ← hl] at h2
    obtain ⟨b, o, p, a1, a2⟩ := f2 _ pi oi h1 h2 hn
    exact ⟨b, o, p, fun h => a1 (hu b h), a2⟩
theorem IntoB.append {M : List Place} {H : Heap} {used used2 : List Nat} {N1 N2 : List Place} {H1 H2 : Heap} (hl : N1.length = H1.length) (f1 : IntoB M H used N1 H1) (f2 : IntoB M H used2 N2 H2) (hu : ∀ b ∈ used, b ∈ used2) : IntoB M H used2 (N1 ++ N2) (H1 ++ H2) := by
  intro i pi oi h1 h2 hn
  by_cases hi : i < N1.length
  · rw [List.getElem?_append_left hi] at h1
    rw [List.getElem?_append_left (by omega)] at h2
    obtain ⟨b, o, p, a1, a2⟩ := f1 i pi oi h1 h2 hn
    exact ⟨b, o, p, hu b a1, a2⟩
  · rw [List.getElem?_append_right (by omega)] at h1
    rw [List.getElem?_append_right (by omega), ← hl] at h2
    exact f2 _ pi oi h1 h2 hn
theorem FromB.nil (M : List Place) (H : Heap) (used : List Nat) : FromB M H used [] [] := fun i pi oi h => by simp at h
theorem IntoB.nil (M : List Place) (H : Heap) (used : List Nat) : IntoB M H used [] [] := fun i pi oi h => by simp at h
theorem exCO_sound {M : List Place} {H : Heap} {B : Base} {w : World} (hH : RelH M H B w) : ∀ {cs : List CO} {acc : List Ty} {rest : List Nat → Option (D acc)} {xs : List AV} {vs : List Value} {used : List Nat} {d : D (tysCO cs acc)}, exCO H cs acc rest xs used = some d → RelC M xs vs →
    ∃ N used', (∀ k ob, ¬ FzAt N k ob) ∧ News B w N (newsCO cs acc d) ∧ FromB M H used N (newsCO cs acc d) ∧ (∀ b ∈ used, b ∈ used') ∧ IntoB M H used' N (newsCO cs acc d) ∧
      (∀ M' Nr : List Place, (deepCO cs = true → FzSub M Nr) → RelC (M' ++ N ++ Nr) (cellsCO cs acc d M'.length) vs) ∧ rest used' = some (restCO cs acc d)
  | [], acc, rest, xs, vs, used, d, h, hr => by
    cases xs with
    | nil =>
      simp only [exCO] at h
      rw [RelC_nil] at hr
      exact ⟨[], used, fun k ob h => FzAt.nil h, News.nil B w, FromB.nil _ _ _, fun b hb => hb, IntoB.nil _ _ _, fun M' Nr _ => by simp only [cellsCO]; rw [RelC_nil]; exact hr, h⟩
    | cons _ _ => simp [exCO] at h
  | .hole ty :: cs, acc, rest, xs, vs, used, d, h, hr => by
    simp only [exCO] at h
    split at h
    · rename_i v ys hp
      split at h
      · rename_i d' hd
        cases h
        obtain ⟨a, r, rfl, h1, h2⟩ := popC_rel (M' := M) (fun _ => FzSub.refl M) hp hr
        obtain ⟨N, used', a0, a1, a2, a3, a4, a5, a6⟩ := exCO_sound hH hd h2
        exact ⟨N, used', a0, a1, a2, a3, a4, fun M' Nr hz => RelC_cons.2 ⟨a, r, rfl, mkC_mono (fun hd k ob h => FzAt.right _ (hz (by simp [deepCO, hd]) k ob h)) h1, a5 M' Nr fun hd => hz (by simp [deepCO, hd])⟩, a6⟩
      · cases h
    · cases h
  | .const _ :: cs, acc, rest, [], vs, used, d, h, hr => by simp [exCO] at h
  | .row _ _ _ :: cs, acc, rest, [], vs, used, d, h, hr => by simp [exCO] at h
  | c :: cs, acc, rest, x :: xs, vs, used, d, h, hr => by
    obtain ⟨u, r, rfl, hx, hr'⟩ := RelC_cons.1 hr
    cases c with
    | hole ty =>
      simp only [exCO] at h
      split at h
      · rename_i v ys hp
        split at h
        · rename_i d' hd
          cases h
          obtain ⟨a, r', e, h1, h2⟩ := popC_rel (M' := M) (fun _ => FzSub.refl M) hp hr
          obtain ⟨N, used', a0, a1, a2, a3, a4, a5, a6⟩ := exCO_sound hH hd h2
          exact ⟨N, used', a0, a1, a2, a3, a4, fun M' Nr hz => RelC_cons.2 ⟨a, r', e, mkC_mono (fun hd k ob h => FzAt.right _ (hz (by simp [deepCO, hd]) k ob h)) h1, a5 M' Nr fun hd => hz (by simp [deepCO, hd])⟩, a6⟩
        · cases h
      · cases h
    | const k =>
      simp only [exCO] at h
      split at h
      · rename_i hs
        obtain ⟨N, used', a0, a1, a2, a3, a4, a5, a6⟩ := exCO_sound hH h hr'
        have : ∃ v, u = [v] := by
          have hl := RelX_length hx
          have : width x = 1 := by
            cases x <;> first | rfl | (exfalso; cases k <;> simp [sameA] at hs)
          rw [this] at hl
          exact List.length_eq_one_iff.1 hl
        obtain ⟨v, rfl⟩ := this
        exact ⟨N, used', a0, a1, a2, a3, a4, fun M' Nr hz => RelC_cons.2 ⟨[v], r, rfl, sameA_rel hs hx, a5 M' Nr hz⟩, a6⟩
      · cases h
    | row k sz own =>
      simp only [exCO] at h
      split at h
      · rename_i l used1 hrow
        split at h
        · rename_i d' hd
          cases h
          have : ∃ v, u = [v] := by
            have hl := RelX_length hx
            have : width x = 1 := by
              unfold exRow at hrow
              split at hrow <;> first | rfl | (cases hrow)
            rw [this] at hl
            exact List.length_eq_one_iff.1 hl
          obtain ⟨v, rfl⟩ := this
          obtain ⟨pl, b0, b1, b2, b3, b4, b5⟩ := exRow_sound hH hrow hx
          obtain ⟨N, used', a0, a1, a2, a3, a4, a5, a6⟩ := exCO_sound hH hd hr'
          refine ⟨[pl] ++ N, used', fun k ob h => (h.append).elim (fun h => FzAt.nil (FzAt.snoc (M := []) b0 h)) (a0 k ob), ?_, ?_, fun b hb => a3 b (b3 b hb), ?_, fun M' Nr hz => ?_, a6⟩
          · exact News.append hH (H1 := [some ⟨.row k l, own, none⟩]) b1 a1 b2 a2 b4
          · exact FromB.append (H1 := [some ⟨.row k l, own, none⟩]) rfl b2 a2 b3
          · exact IntoB.append (H1 := [some ⟨.row k l, own, none⟩]) rfl b4 a4 a3
          · have := a5 (M' ++ [pl]) Nr hz
            rw [List.length_append] at this
            refine RelC_cons.2 ⟨[v], r, rfl, b5 _ _ (by simp), ?_⟩
            simpa using this
        · cases h
      · cases h
theorem exO_sound {M : List Place} {H : Heap} {B : Base} {w : World} (hH : RelH M H B w) {kept : List Nat} : ∀ {os : List Out} {xs : List AV} {used : List Nat} {d : D (tysO os)} {vs : List Value}, exO H kept os xs used = some d → RelL M xs vs → (∀ b ∈ kept, b ∈ used) →
    ∃ N, (∀ k ob, ¬ FzAt N k ob) ∧ News B w N (newsO os d) ∧ FromB M H used N (newsO os d) ∧ (∀ M' Nr : List Place, (deepO os = true → FzSub M Nr) → RelL (M' ++ N ++ Nr) (avsO os d M'.length) vs) ∧
      ∀ (M' Nr : List Place), (deepO os = true → FzSub M Nr) → ∀ (pin : Nat) (c : Cont), (pin, c) ∈ upsO os d M'.length → ∃ pl b o, B.pin pin pl ∧ ObjOk (M' ++ N ++ Nr) ⟨c, true, none⟩ pl B w ∧ b ∈ kept ∧ H[b]? = some (some o) ∧ o.own = true ∧ M[b]? = some pl
  | [], xs, used, d, vs, h, hl, hk => by
    cases xs with
    | nil =>
      rw [RelL_nil] at hl
      exact ⟨[], fun k ob h => FzAt.nil h, News.nil B w, FromB.nil _ _ _, fun M' Nr _ => by simp only [avsO]; rw [RelL_nil]; exact hl, fun M' Nr _ pin c hm => by simp [upsO] at hm⟩
    | cons _ _ => simp [exO] at h
  | .ty t :: r, [], used, d, vs, h, hl, hk => by simp [exO] at h
  | .row k sz own :: r, [], used, d, vs, h, hl, hk => by simp [exO] at h
  | .agg cs :: r, [], used, d, vs, h, hl, hk => by simp [exO] at h
  | .ty t :: r, x :: xs, used, d, vs, h, hl, hk => by
    simp only [exO] at h
    split at h
    · rename_i v d' hv hd
      cases h
      obtain ⟨u, vs', rfl, hx, hr⟩ := RelL_cons.1 hl
      obtain ⟨N, a0, a1, a2, a3, a4⟩ := exO_sound hH hd hr hk
      exact ⟨N, a0, a1, a2, fun M' Nr hz => RelL_cons.2 ⟨u, vs', rfl, getT_rel (fun hd k ob h => FzAt.right _ (hz (by simp [deepO, hd]) k ob h)) hv hx, a3 M' Nr fun hd => hz (by simp [deepO, hd])⟩, fun M' Nr hz => a4 M' Nr fun hd => hz (by simp [deepO, hd])⟩
    · cases h
  | .row k sz own :: r, x :: xs, used, d, vs, h, hl, hk => by
    simp only [exO] at h
    split at h
    · rename_i l used1 hrow
      split at h
      · rename_i d' hd
        cases h
        obtain ⟨u, vs', rfl, hx, hr⟩ := RelL_cons.1 hl
        obtain ⟨pl, b0, b1, b2, b3, b4, b5⟩ := exRow_sound hH hrow hx
        obtain ⟨N, a0, a1, a2, a3, a4⟩ := exO_sound hH hd hr (fun b hb => b3 b (hk b hb))
        refine ⟨[pl] ++ N, fun k ob h => (h.append).elim (fun h => FzAt.nil (FzAt.snoc (M := []) b0 h)) (a0 k ob), ?_, ?_, fun M' Nr hz => ?_, fun M' Nr hz pin c hm => ?_⟩
        · exact News.append hH (H1 := [some ⟨.row k l, own, none⟩]) b1 a1 b2 a2 b4
        · exact FromB.append (H1 := [some ⟨.row k l, own, none⟩]) rfl b2 a2 b3
        · have := a3 (M' ++ [pl]) Nr hz
          rw [List.length_append] at this
          refine RelL_cons.2 ⟨u, vs', rfl, b5 _ _ (by simp), ?_⟩
          simpa using this
        · have := a4 (M' ++ [pl]) Nr hz pin c (by rw [List.length_append]; simpa [upsO] using hm)
          simpa using this
      · cases h
    · cases h
  | .agg cs :: r, x :: xs, used, d, vs, h, hl, hk => by
    simp only [exO] at h
    split at h
    · rename_i ys
      obtain ⟨u, vs', rfl, hx, hr⟩ := RelL_cons.1 hl
      obtain ⟨us, hu, hc⟩ := RelX_agg.1 hx
      obtain ⟨N1, used1, b0, b1, b2, b3, b4, b5, b6⟩ := exCO_sound hH h hc
      obtain ⟨N, a0, a1, a2, a3, a4⟩ := exO_sound hH b6 hr (fun b hb => b3 b (hk b hb))
      have hln : N1.length = cntCO cs := by rw [b1.len, newsCO_len]
      refine ⟨N1 ++ N, fun k ob h => (h.append).elim (b0 k ob) (a0 k ob), News.append hH b1 a1 b2 a2 b4, FromB.append b1.len b2 a2 b3, fun M' Nr hz => ?_, fun M' Nr hz pin c hm => ?_⟩
      · refine RelL_cons.2 ⟨u, vs', rfl, RelX_agg.2 ⟨us, hu, ?_⟩, ?_⟩
        · have := b5 M' (N ++ Nr) (fun hd k ob h => FzAt.right _ (hz (by simp [deepO, hd]) k ob h))
          simpa using this
        · have := a3 (M' ++ N1) Nr (fun hd => hz (by simp [deepO, hd]))
          rw [List.length_append, hln] at this
          simpa using this
      · have := a4 (M' ++ N1) Nr (fun hd => hz (by simp [deepO, hd])) pin c (by rw [List.length_append, hln]; simpa [upsO] using hm)
        simpa using this
    · cases h
  | .prow pin k :: r, xs, used, d, vs, h, hl, hk => by
    simp only [exO] at h
    split at h
    · rename_i b hb
      split at h
      · rename_i k' l pn hob
        split at h
        · rename_i hc
          obtain ⟨rfl, hkb⟩ := hc
          split at h
          · rename_i d' hd
            cases h
            obtain ⟨N, a0, a1, a2, a3, a4⟩ := exO_sound hH hd hl hk
            refine ⟨N, a0, a1, a2, a3, fun M' Nr hz pin' c hm => ?_⟩
            simp only [upsO, List.mem_cons, Prod.mk.injEq] at hm
            rcases hm with ⟨rfl, rfl⟩ | hm
            · obtain ⟨_, o, ho, hpo⟩ := pinAt_spec hb
              rw [Nat.sub_zero, hob] at ho
              cases ho
              obtain ⟨pl, hpl, hok⟩ := hH.obj b _ hob
              refine ⟨pl, b, _, hH.pin b _ pl _ hob hpl hpo, ?_, by simpa using hkb, hob, rfl, hpl⟩
              rcases hok with ⟨n1, n2, n3⟩ | ⟨n1, cs', el, fz, g1, g2, g3, g4, g5⟩
              · exact .inl ⟨n1, n2, n3⟩
              · exact .inr ⟨n1, cs', el, fz, g1, g2, g3, g4, g5⟩
            · exact a4 M' Nr hz pin' c hm
          · cases h
        · cases h
      · cases h
    · cases h
  | .psegs pin cs :: r, xs, used, d, vs, h, hl, hk => by
    simp only [exO] at h
    split at h
    · rename_i b hb
      split at h
      · rename_i ys pn hob
        split at h
        · rename_i hkb
          obtain ⟨_, o, ho, hpo⟩ := pinAt_spec hb
          rw [Nat.sub_zero, hob] at ho
          cases ho
          obtain ⟨pl, hpl, hok⟩ := hH.obj b _ hob
          have hvs : ∃ us, RelC M ys us ∧ (∀ M2 ys', RelC M2 ys' us → ObjOk M2 ⟨.segs ys', true, none⟩ pl B w) := by
            rcases hok with ⟨n1, n2, n3⟩ | ⟨n1, cs', el, fz, g1, g2, g3, g4, g5⟩
            · exact ⟨_, n3, fun M2 ys' hy => .inl ⟨n1, n2, hy⟩⟩
            · exact ⟨_, g4, fun M2 ys' hy => .inr ⟨n1, cs', el, fz, g1, g2, g3, hy, g5⟩⟩
          obtain ⟨us, hus, hus2⟩ := hvs
          obtain ⟨N1, used1, b0, b1, b2, b3, b4, b5, b6⟩ := exCO_sound hH h hus
          obtain ⟨N, a0, a1, a2, a3, a4⟩ := exO_sound hH b6 hl (fun b hb => b3 b (hk b hb))
          have hln : N1.length = cntCO cs := by rw [b1.len, newsCO_len]
          refine ⟨N1 ++ N, fun k ob h => (h.append).elim (b0 k ob) (a0 k ob), News.append hH b1 a1 b2 a2 b4, FromB.append b1.len b2 a2 b3, fun M' Nr hz => ?_, fun M' Nr hz pin' c hm => ?_⟩
          · have := a3 (M' ++ N1) Nr (fun hd => hz (by simp [deepO, hd]))
            rw [List.length_append, hln] at this
            simpa [avsO] using this
          · simp only [upsO, List.mem_cons, Prod.mk.injEq] at hm
            rcases hm with ⟨rfl, rfl⟩ | hm
            · refine ⟨pl, b, _, hH.pin b _ pl _ hob hpl hpo, ?_, by simpa using hkb, hob, rfl, hpl⟩
              have := hus2 _ _ (b5 M' (N ++ Nr) (fun hd k ob h => FzAt.right _ (hz (by simp [deepO, hd]) k ob h)))
              simpa using this
            · have := a4 (M' ++ N1) Nr (fun hd => hz (by simp [deepO, hd])) pin' c (by rw [List.length_append, hln]; exact hm)
              simpa using this
        · cases h
      · cases h
    · cases h
theorem relOut_of {M : List Place} {H : Heap} {B : Base} {w : World} (hH : RelH M H B w) {os : List Out} {xs : List AV} {d : D (tysO os)} {vs : List Value} (h : exO H (keptIx H os) os xs (keptIx H os) = some d) (hl : RelL M xs vs) : RelOut B w os d vs := by
  obtain ⟨N, a0, a1, a2, a3, a4⟩ := exO_sound hH h hl (fun b hb => hb)
  obtain ⟨F, hF, hF1, hF2⟩ : ∃ F : List Place, F.length = (fzH os).length ∧ (deepO os = true → FzSub M F) ∧ FzSub F M := by
    unfold fzH
    split
    · exact ⟨[fzPlace M], rfl, fun _ => fzPlace_sup hH, fzPlace_sub⟩
    · rename_i hd
      exact ⟨[], rfl, fun h => absurd h hd, fun k ob h => absurd h FzAt.nil⟩
  have own : ∀ (i : Nat) (pi : Place) (oi : AObj), N[i]? = some pi → (newsO os d)[i]? = some (some oi) → oi.own = true → pi.nil = false → ¬ B.f pi.blk ∧ ∀ ob, ¬ FzAt F pi.blk ob := by
    intro i pi oi hpi ho how hn
    obtain ⟨b', o', p', e1, e2, e3, e4, e5, e6⟩ := a2 i pi oi hpi ho hn
    obtain ⟨f1, f2⟩ := hH.fo b' o' p' e2 e3 (e6 how) e4
    rw [e5]
    exact ⟨f1, fun ob h => f2 ob (hF2 _ _ h)⟩
  refine ⟨N, F, a1, hF, a0, fun k ob h => hH.fz k ob (hF2 k ob h), own, fun M' => by simpa using a3 M' F hF1, fun M' pin c hm => ?_⟩
  obtain ⟨pl, b, o, c1, c2, c3, c4, c5, c6⟩ := a4 M' F hF1 pin c hm
  refine ⟨pl, c1, by simpa using c2, fun i pi hpi hn hn2 => ?_, fun hn ob h => (hH.fo b o pl c4 c6 c5 hn).2 ob (hF2 _ _ h)⟩
  have hi : i < (newsO os d).length := by rw [← a1.len]; exact (List.getElem?_eq_some_iff.1 hpi).1
  cases ho : (newsO os d)[i] with
  | none => exact absurd ho (newsO_some i hi)
  | some oi =>
    have ho' : (newsO os d)[i]? = some (some oi) := by rw [List.getElem?_eq_getElem hi, ho]
    obtain ⟨b', o', p', e1, e2, e3, e4, e5, e6⟩ := a2 i pi oi hpi ho' hn
    rw [e5]
    exact fun e => hH.sep b b' o o' pl p' c4 e2 c6 e3 (fun e => e1 (e ▸ c3)) c5 hn2 e4 e.symm
end Go.AE
set_option linter.unusedVariables false
set_option linter.unusedSimpArgs false
namespace Go.AE
open Go Go.RowKit
def emptyEnv (ρ : Type) : Env ρ := ⟨fun _ => none, fun _ => none⟩
theorem emptyEnv_ok (P : Program) (ρ : Type) : EnvOk P (emptyEnv ρ) := ⟨fun _ _ h => (by cases h), fun _ _ h => (by cases h)⟩
theorem relH_nil (w : World) : RelH [] [] (Base.at w.heap.size) w := ⟨rfl, fun k hk => ⟨hk, trivial⟩, fun i o h => (by simp at h), fun i j oi oj pi pj h => (by simp at h), fun i o pl k h => (by simp at h), fun i o pl h => (by simp at h), fun k ob h => absurd h FzAt.nil, fun i o pl h => (by simp at h), fun k hk h => absurd hk (Nat.not_le_of_lt h)⟩
abbrev M0 : List Place := [⟨true, 0, 0, 0, 0, noFz⟩]
abbrev H0 : Heap := [none]
theorem relH_0 (w : World) : RelH M0 H0 (Base.at w.heap.size) w := (relH_nil w).addNone _ (fun k ob h => by cases h)
theorem noOwn_0 : ∀ (i : Nat) (o : AObj), H0[i]? = some (some o) → o.own = false := fun i o h => by cases i <;> simp [H0] at h
def callableB (P : Program) : Bool := P.funcs.toList.all fun fn => !(fn.body.isSome && decide (fn.name = "runtime.NumGoroutine"))
theorem callable_of {P : Program} (h : callableB P = true) : Callable P := by
  intro g fn hg hb e
  have h1 := List.all_eq_true.1 h fn (by
    have := Array.mem_of_getElem? hg
    simpa using this)
  simp [hb, e] at h1
end Go.AE
set_option linter.unusedVariables false
set_option linter.unusedSimpArgs false
namespace Go.AE
open Go Go.RowKit
variable {ρ : Type}
def bldS (nt : Nat) (its : List Item) (d : D (tysI its [])) : St := (bldI its [] d (st0 nt)).1
def extS (nt : Nat) (its : List Item) (st : St) : Option (D (tysI its [])) := if st.tmps.length = nt then extI st true its [] () [drop0] else none
theorem extS_rel {M : List Place} {st : St} {B : Base} {w0 : World} {a : Go.Act} {w : World} (r : Rel M st B w0 a w) {its : List Item} {nt : Nat} {d : D (tysI its [])} (h : extS nt its st = some d) : ∃ M', Rel M' (bldS nt its d) B w0 a w := by
  unfold extS at h
  split at h
  · rename_i hn
    exact ext_rel r h hn
  · cases h
def annS (nt : Nat) (ins outs : List Item) (L : D (tysI ins []) → Option (D (tysI outs []))) : Ann ρ := fun st K =>
  (extS nt ins st).bind fun d => (L d).bind fun r => K .normal (bldS nt outs r)
def annX (nt : Nat) (ins outX outs : List Item) (e2 : Exit) (L : D (tysI ins []) → Option (D (tysI outX []) ⊕ D (tysI outs []))) : Ann ρ := fun st K =>
  (extS nt ins st).bind fun d => (L d).bind fun r => match r with
    | .inl r => K e2 (bldS nt outX r)
    | .inr r => K .normal (bldS nt outs r)
def kS (nt : Nat) (ins outs : List Item) (id : Nat) (L : D (tysI ins []) → Option (D (tysI outs []))) : Exit → St → Option (D (tysI outs [])) := fun e st => match e with
  | .normal => (extS nt ins st).bind L
  | .exit j => if j = id then extS nt outs st else none
  | _ => none
def kX (nt : Nat) (ins outX outs : List Item) (id : Nat) (e2 : Exit) (L : D (tysI ins []) → Option (D (tysI outX []) ⊕ D (tysI outs []))) : Exit → St → Option (D (tysI outX []) ⊕ D (tysI outs [])) := fun e st => match e with
  | .normal => (extS nt ins st).bind L
  | .exit j => if j = id then (extS nt outs st).bind fun r => some (.inr r) else (match e2 with
    | .exit i => if j = i then (extS nt outX st).bind fun r => some (.inl r) else none
    | _ => none)
  | .ret => (match e2 with
    | .ret => (extS nt outX st).bind fun r => some (.inl r)
    | _ => none)
  | _ => none
abbrev Cals := ∀ (σ : Type), Cal σ
abbrev QCals := ∀ (σ : Type), QCal σ
theorem annX_ok {P : Program} (hP : Callable P) {cal : Cals} (hcal : ∀ σ f, CalAt P f (cal σ f)) {qcal : QCals} (hq : ∀ σ f, QCalAt P f (qcal σ f)) {nt : Nat} {ins outX outs : List Item} {e2 : Exit} {id : Nat} {body : Code}
    {L : Nat → D (tysI ins []) → Option (D (tysI outX []) ⊕ D (tysI outs []))} {ann : Nat → Option (Ann (D (tysI outX []) ⊕ D (tysI outs [])))} {B : Base} {w0 : World}
    (hann : ∀ id an c', ann id = some an → (id, c') ∈ blocks body → AnnAt P false B w0 (.block id c') an) (h0 : ∀ d, L 0 d = none)
    (hs : ∀ k d, evCode P (cal _) (qcal _) ann body (bldS nt ins d) (kX nt ins outX outs id e2 (L k)) = L (k + 1) d) (he : e2 = .ret ∨ ∃ j, e2 = .exit j ∧ j ≠ id) (F : Nat) :
    AnnAt (ρ := ρ) P false B w0 (.block id (.loop body)) (annX nt ins outX outs e2 (L F)) := by
  intro st K r h M a w Q hr hn
  unfold annX at h
  simp only [Option.bind_eq_some_iff] at h
  obtain ⟨d, hd, x, hx, hk⟩ := h
  refine wp_block ?_
  obtain ⟨M1, hr1⟩ := extS_rel hr hd
  refine wp_loop_ind (fun n a' w' => ∃ d' M', L n d' = some x ∧ Rel M' (bldS nt ins d') B w0 a' w') (n := F) ⟨d, M1, hx, hr1⟩ ?_
  rintro n a1 w1 ⟨d1, M1, h1, hr1⟩
  cases n with
  | zero => rw [h0] at h1; cases h1
  | succ n =>
    rw [← hs] at h1
    refine evCode_sound hP (hcal _) (hq _) body hann _ _ h1 M1 a1 w1 _ hr1 fun e M' st' a' w' hE hk' hr' => ?_
    have out1 : ∀ {r'}, extS nt outs st' = some r' → x = .inr r' → Q .normal a' w' := by
      intro r' hr2 hx2
      subst hx2
      obtain ⟨M2, hr3⟩ := extS_rel hr' hr2
      exact hn .normal M2 _ a' w' (fun h => by cases h) hk hr3
    have out2 : ∀ {r'}, extS nt outX st' = some r' → x = .inl r' → Q e2 a' w' := by
      intro r' hr2 hx2
      subst hx2
      obtain ⟨M2, hr3⟩ := extS_rel hr' hr2
      exact hn e2 M2 _ a' w' (fun h => by cases h) hk hr3
    cases e with
    | normal =>
      simp only [kX, Option.bind_eq_some_iff] at hk'
      obtain ⟨d2, hd2, hL⟩ := hk'
      obtain ⟨M2, hr2⟩ := extS_rel hr' hd2
      exact ⟨n, by omega, d2, M2, hL, hr2⟩
    | exit j =>
      simp only [kX] at hk'
      unfold Exit.inBlock
      show if j = id then Q .normal a' w' else Q (.exit j) a' w'
      split at hk'
      · rename_i hj
        rw [if_pos hj]
        simp only [Option.bind_eq_some_iff, Option.some.injEq] at hk'
        obtain ⟨r', h2, h3⟩ := hk'
        exact out1 h2 h3.symm
      · rename_i hj
        rw [if_neg hj]
        split at hk'
        · split at hk'
          · rename_i i hi
            simp only [Option.bind_eq_some_iff, Option.some.injEq] at hk'
            obtain ⟨r', h2, h3⟩ := hk'
            subst hi
            exact out2 h2 h3.symm
          · cases hk'
        · cases hk'
    | ret =>
      simp only [kX] at hk'
      split at hk'
      · simp only [Option.bind_eq_some_iff, Option.some.injEq] at hk'
        obtain ⟨r', h2, h3⟩ := hk'
        exact out2 h2 h3.symm
      · cases hk'
    | goto l => simp only [kX] at hk'; cases hk'
    | panic ch => simp only [kX] at hk'; cases hk'
    | outgrown => simp only [kX] at hk'; cases hk'
theorem annS_ok {P : Program} (hP : Callable P) {cal : Cals} (hcal : ∀ σ f, CalAt P f (cal σ f)) {qcal : QCals} (hq : ∀ σ f, QCalAt P f (qcal σ f)) {nt : Nat} {ins outs : List Item} {id : Nat} {body : Code}
    {L : Nat → D (tysI ins []) → Option (D (tysI outs []))} {ann : Nat → Option (Ann (D (tysI outs [])))} {B : Base} {w0 : World}
    (hann : ∀ id an c', ann id = some an → (id, c') ∈ blocks body → AnnAt P false B w0 (.block id c') an) (h0 : ∀ d, L 0 d = none)
    (hs : ∀ k d, evCode P (cal _) (qcal _) ann body (bldS nt ins d) (kS nt ins outs id (L k)) = L (k + 1) d) (F : Nat) :
    AnnAt (ρ := ρ) P false B w0 (.block id (.loop body)) (annS nt ins outs (L F)) := by
  intro st K r h M a w Q hr hn
  unfold annS at h
  simp only [Option.bind_eq_some_iff] at h
  obtain ⟨d, hd, x, hx, hk⟩ := h
  refine wp_block ?_
  obtain ⟨M1, hr1⟩ := extS_rel hr hd
  refine wp_loop_ind (fun n a' w' => ∃ d' M', L n d' = some x ∧ Rel M' (bldS nt ins d') B w0 a' w') (n := F) ⟨d, M1, hx, hr1⟩ ?_
  rintro n a1 w1 ⟨d1, M1, h1, hr1⟩
  cases n with
  | zero => rw [h0] at h1; cases h1
  | succ n =>
    rw [← hs] at h1
    refine evCode_sound hP (hcal _) (hq _) body hann _ _ h1 M1 a1 w1 _ hr1 fun e M' st' a' w' hE hk' hr' => ?_
    cases e with
    | normal =>
      simp only [kS, Option.bind_eq_some_iff] at hk'
      obtain ⟨d2, hd2, hL⟩ := hk'
      obtain ⟨M2, hr2⟩ := extS_rel hr' hd2
      exact ⟨n, by omega, d2, M2, hL, hr2⟩
    | exit j =>
      simp only [kS] at hk'
      show if j = id then Q .normal a' w' else Q (.exit j) a' w'
      split at hk'
      · rename_i hj
        rw [if_pos hj]
        obtain ⟨M2, hr3⟩ := extS_rel hr' hk'
        exact hn .normal M2 _ a' w' (fun h => by cases h) hk hr3
      · cases hk'
    | ret => simp only [kS] at hk'; cases hk'
    | goto l => simp only [kS] at hk'; cases hk'
    | panic ch => simp only [kS] at hk'; cases hk'
    | outgrown => simp only [kS] at hk'; cases hk'
def noOwn : List Item → Bool
  | [] => true
  | .row _ _ _ own _ :: r => !own && noOwn r
  | .drow _ _ own _ :: r => !own && noOwn r
  | .segs _ _ own _ :: r => !own && noOwn r
  | _ :: r => noOwn r
def FnSpec (P : Program) (f : FuncId) (n : Nat) (ins : List Item) (os : List Out) (F : D (tysI ins []) → Option (D (tysO os))) : Prop :=
  ∀ (d : D (tysI ins [])) (r : D (tysO os)), F d = some r → ∀ (M : List Place) (B : Base) (w : World) (vs : Array Value), RelL M (bldS n ins d).tmps vs.toList → RelH M (bldS n ins d).heap B w →
    Calls P f vs w fun e w' => ∃ rs : Array Value, e = .returned (retV rs) ∧ Beneath B w w' ∧ RelOut B w' os r rs.toList
def endO (os : List Out) : List AV → Heap → Option (D (tysO os)) := fun l H => exO H (keptIx H os) os l (keptIx H os)
theorem fnSpec_of {P : Program} (hP : Callable P) {cal : Cals} (hcal : ∀ σ f, CalAt P f (cal σ f)) {qcal : QCals} (hq : ∀ σ f, QCalAt P f (qcal σ f)) {f : FuncId} {n : Nat} {ins : List Item} {os : List Out} {F : D (tysI ins []) → Option (D (tysO os))} {ann : Nat → Option (Ann (D (tysO os)))}
    (hann : ∀ fn c, P.funcs[f]? = some fn → fn.body = some c → ∀ id an c', ann id = some an → (id, c') ∈ blocks c → ∀ B w, AnnAt P false B w (.block id c') an)
    (h : ∀ d, evBody P (cal _) (qcal _) ann f (bldS n ins d).tmps (bldS n ins d).heap (endO os) = F d) : FnSpec P f n ins os F := by
  intro d r hd M B w vs hl hH
  rw [← h] at hd
  refine (evBody_sound hP (hcal _) (hq _) (x := false) hd (fun fn c h1 h2 id an c' h3 h4 => hann fn c h1 h2 id an c' h3 h4 _ _) hl hH).mono ?_
  rintro e w' ⟨rs, l, H', M', rfl, hk, _, hl', hH', hb⟩
  exact ⟨rs, rfl, hb, relOut_of hH' hk hl'⟩
theorem relL_of_relT {M : List Place} {ts : List AV} {a : Array Value} (h : RelT M ts a) : RelL M ts a.toList := by
  have key : ∀ (ts : List AV) (vs : List Value), ts.length = vs.length → (∀ t, RelV M (ts.getD t .undef) (vs.getD t undef)) → RelL M ts vs := by
    intro ts
    induction ts with
    | nil => intro vs h _; rw [RelL_nil]; exact List.length_eq_zero_iff.1 h.symm
    | cons x ts ih =>
      intro vs h h2
      cases vs with
      | nil => simp at h
      | cons v vs => exact RelL_cons.2 ⟨v, vs, rfl, by simpa using h2 0, ih vs (by simpa using h) fun t => by simpa using h2 (t + 1)⟩
  refine key ts a.toList (by simpa using h.1) fun t => ?_
  have := h.2 t
  rw [show a.getD t undef = a.toList.getD t undef from by simp [List.getD_eq_getElem?_getD, Array.getElem?_toList]] at this
  exact this
def extA (n : Nat) (ins : List Item) (args : List AV) (H : Heap) : Option (D (tysI ins [])) := if args.length = n then extI ⟨args, H⟩ false ins [] () [drop0] else none
def Base.anyPin (B : Base) : Base := ⟨B.w, B.vis, fun _ _ => True, B.f⟩
theorem RelH.anyPin {M : List Place} {H : Heap} {B : Base} {w : World} (r : RelH M H B w) : RelH M H B.anyPin w := ⟨r.len, r.base, r.obj, r.sep, fun _ _ _ _ _ _ _ => trivial, r.vis, r.fz, r.fo, r.bf⟩
theorem extA_told {M : List Place} {args : List AV} {H : Heap} {B : Base} {w : World} {vs : Array Value} {n : Nat} {ins : List Item} {d : D (tysI ins [])} (hl : RelL M args vs.toList) (hH : RelH M H B w) (h : extA n ins args H = some d) :
    ∃ M', Told M ⟨args, H⟩ B.anyPin w vs (drop0 :: actsI ⟨args, H⟩ false ins) M' (bldS n ins d) := by
  unfold extA at h
  split at h
  · rename_i hlen
    have ht : RelT M args vs := by
      have := relT_args hl 0
      simpa using this
    have hs : n = vs.size := by rw [← hlen]; exact ht.1
    obtain ⟨⟨M2, t⟩, _⟩ := extI_sound (st := ⟨args, H⟩) (B := B.anyPin) ht hH.anyPin (fun _ _ _ => trivial) (told0 (B := B.anyPin) (st := ⟨args, H⟩) (a := vs) hH.anyPin n hs) h
    exact ⟨M2, by simpa [bldS] using t⟩
  · cases h
def nodupPins : Heap → Bool
  | [] => true
  | o :: r => (match o with
    | some ob => match ob.pin with
      | some k => (pinAt r k 0).isNone
      | none => true
    | none => true) && nodupPins r
theorem pinAt_none : ∀ {H : Heap} {k i : Nat}, pinAt H k i = none → ∀ (j : Nat) (o : AObj), H[j]? = some (some o) → o.pin ≠ some k
  | [], _, _, _, j, o, h => by simp at h
  | x :: r, k, i, hn, j, o, h => by
    unfold pinAt at hn
    cases j with
    | zero =>
      simp at h
      subst h
      simp only at hn
      split at hn
      · cases hn
      · assumption
    | succ j =>
      have h' : r[j]? = some (some o) := by simpa using h
      cases x with
      | none => exact pinAt_none hn j o h'
      | some ob =>
        simp only at hn
        split at hn
        · cases hn
        · exact pinAt_none hn j o h'
theorem nodupPins_eq : ∀ {H : Heap}, nodupPins H = true → ∀ (i j : Nat) (oi oj : AObj) (k : Nat), H[i]? = some (some oi) → H[j]? = some (some oj) → oi.pin = some k → oj.pin = some k → i = j
  | [], _, i, j, oi, oj, k, h, _, _, _ => by simp at h
  | x :: r, hn, i, j, oi, oj, k, hi, hj, h1, h2 => by
    simp only [nodupPins, Bool.and_eq_true] at hn
    obtain ⟨hx, hr⟩ := hn
    cases i with
    | zero =>
      cases j with
      | zero => rfl
      | succ j =>
        simp at hi
        subst hi
        simp only [h1, Option.isNone_iff_eq_none] at hx
        exact absurd h2 (pinAt_none hx j oj (by simpa using hj))
    | succ i =>
      cases j with
      | zero =>
        simp at hj
        subst hj
        simp only [h2, Option.isNone_iff_eq_none] at hx
        exact absurd h1 (pinAt_none hx i oi (by simpa using hi))
      | succ j =>
        have := nodupPins_eq hr i j oi oj k (by simpa using hi) (by simpa using hj) h1 h2
        omega
def findU : List (Nat × Cont) → Nat → Option Cont
  | [], _ => none
  | (j, c) :: r, k => if j = k then some c else findU r k
theorem findU_mem : ∀ {l : List (Nat × Cont)} {k : Nat} {c : Cont}, findU l k = some c → (k, c) ∈ l
  | [], _, _, h => by cases h
  | (j, c') :: r, k, c, h => by
    unfold findU at h
    split at h
    · rename_i hj
      cases h
      subst hj
      simp
    · simp [findU_mem h]
def updB (ups : List (Nat × Cont)) (shared : Bool) (whole : Bool) (o : AObj) (b : Nat) (H : Heap) : Heap :=
  match o.own with
  | true => match whole, o.pin with
    | true, some k => match findU ups k, H[b]? with
      | some c, some (some o') => H.set b (some ⟨c, true, o'.pin⟩)
      | _, _ => H.set b none
    | _, _ => H.set b none
  | false => match shared, H[b]? with
    | true, some (some o') => H.set b (some ⟨o'.c, false, o'.pin⟩)
    | _, _ => H
def postH (ups : List (Nat × Cont)) (shared : Bool) : List Act → Heap → Heap → Heap
  | ac :: r, some o :: H1, H => postH ups shared r H1 (match ac.id with | some b => updB ups shared ac.whole o b H | none => H)
  | _ :: r, none :: H1, H => postH ups shared r H1 H
  | _, _, H => H
theorem updB_len (ups : List (Nat × Cont)) (shared whole : Bool) (o : AObj) (b : Nat) (H : Heap) : (updB ups shared whole o b H).length = H.length := by
  unfold updB
  repeat' split
  all_goals simp
theorem postH_len (ups : List (Nat × Cont)) (shared : Bool) : ∀ (acts : List Act) (H1 H : Heap), (postH ups shared acts H1 H).length = H.length
  | [], _, _ => rfl
  | _ :: _, [], _ => rfl
  | ac :: r, some o :: H1, H => by
    rw [postH, postH_len ups shared r H1]
    split
    · exact updB_len _ _ _ _ _ _
    · rfl
  | _ :: r, none :: H1, H => by rw [postH, postH_len ups shared r H1]
def Left (ups : List (Nat × Cont)) (shared : Bool) (acts : List Act) (H1 : Heap) (j : Nat) (o o2 : AObj) : Prop :=
  o2.pin = o.pin ∧ ((o2.c = o.c ∧ (o2.own = true → o.own = true) ∧ ∀ (i : Nat) (ac : Act) (o1 : AObj), acts[i]? = some ac → H1[i]? = some (some o1) → ac.id = some j → o1.own = false ∧ (shared = true → o2.own = false)) ∨
    (∃ (i : Nat) (ac : Act) (o1 : AObj) (k : Nat), acts[i]? = some ac ∧ H1[i]? = some (some o1) ∧ ac.id = some j ∧ ac.whole = true ∧ o1.own = true ∧ o1.pin = some k ∧ (k, o2.c) ∈ ups))
theorem set_case {H : Heap} {b j : Nat} {x : Option AObj} {o : AObj} (h : (H.set b x)[j]? = some (some o)) : (b = j ∧ x = some o) ∨ (b ≠ j ∧ H[j]? = some (some o)) := by
  rw [List.getElem?_set] at h
  split at h
  · rename_i e
    split at h
    · exact .inl ⟨e, by simpa using h⟩
    · cases h
  · rename_i e
    exact .inr ⟨e, h⟩
theorem postH_spec {ups : List (Nat × Cont)} {shared : Bool} : ∀ {acts : List Act} {H1 H : Heap} {j : Nat} {o2 : AObj}, (postH ups shared acts H1 H)[j]? = some (some o2) → ∃ o, H[j]? = some (some o) ∧ Left ups shared acts H1 j o o2
  | [], H1, H, j, o2, h => ⟨o2, by simpa [postH] using h, rfl, .inl ⟨rfl, fun h => h, fun i ac o1 hi => by simp at hi⟩⟩
  | ac :: r, [], H, j, o2, h => ⟨o2, by simpa [postH] using h, rfl, .inl ⟨rfl, fun h => h, fun i ac o1 _ hi => by simp at hi⟩⟩
  | ac :: r, none :: H1, H, j, o2, h => by
    rw [postH] at h
    obtain ⟨o, h1, h2, h3⟩ := postH_spec h
    refine ⟨o, h1, h2, ?_⟩
    rcases h3 with ⟨a1, a2, a3⟩ | ⟨i, ac', o1, k, b1, b2, b3⟩
    · refine .inl ⟨a1, a2, fun i ac' o1 hi hi1 => ?_⟩
      cases i with
      | zero => simp at hi1
      | succ i => exact a3 i ac' o1 (by simpa using hi) (by simpa using hi1)
    · exact .inr ⟨i + 1, ac', o1, k, by simpa using b1, by simpa using b2, b3⟩
  | ac :: r, some o1 :: H1, H, j, o2, h => by
    rw [postH] at h
    obtain ⟨o', h1, h2, h3⟩ := postH_spec h
    have step : ∃ o, H[j]? = some (some o) ∧ o'.pin = o.pin ∧ ((o'.c = o.c ∧ (o'.own = true → o.own = true) ∧ (ac.id = some j → o1.own = false ∧ (shared = true → o'.own = false))) ∨
        (o'.own = true ∧ ∃ k, ac.id = some j ∧ ac.whole = true ∧ o1.own = true ∧ o1.pin = some k ∧ (k, o'.c) ∈ ups)) := by
      cases hid : ac.id with
      | none =>
        rw [hid] at h1
        exact ⟨o', h1, rfl, .inl ⟨rfl, fun h => h, fun h => by cases h⟩⟩
      | some b =>
        rw [hid] at h1
        simp only at h1
        have other : b ≠ j → H[j]? = some (some o') → ∃ o, H[j]? = some (some o) ∧ o'.pin = o.pin ∧ ((o'.c = o.c ∧ (o'.own = true → o.own = true) ∧ (some b = some j → o1.own = false ∧ (shared = true → o'.own = false))) ∨
            (o'.own = true ∧ ∃ k, some b = some j ∧ ac.whole = true ∧ o1.own = true ∧ o1.pin = some k ∧ (k, o'.c) ∈ ups)) :=
          fun hne hH => ⟨o', hH, rfl, .inl ⟨rfl, fun h => h, fun e => absurd (Option.some.inj e) hne⟩⟩
        unfold updB at h1
        split at h1
        · rename_i how
          split at h1
          · rename_i k hw hp
            split at h1
            · rename_i c ob hfu hHb
              rcases set_case h1 with ⟨rfl, e⟩ | ⟨e, h1⟩
              · cases e
                exact ⟨ob, hHb, rfl, .inr ⟨rfl, k, rfl, hw, how, hp, findU_mem hfu⟩⟩
              · exact other e h1
            · rcases set_case h1 with ⟨rfl, e⟩ | ⟨e, h1⟩
              · cases e
              · exact other e h1
          · rcases set_case h1 with ⟨rfl, e⟩ | ⟨e, h1⟩
            · cases e
            · exact other e h1
        · rename_i how
          split at h1
          · rename_i ob hHb
            rcases set_case h1 with ⟨rfl, e⟩ | ⟨e, h1⟩
            · cases e
              exact ⟨ob, hHb, rfl, .inl ⟨rfl, fun h => (by cases h), fun _ => ⟨how, fun _ => rfl⟩⟩⟩
            · exact other e h1
          · rename_i hno
            refine ⟨o', h1, rfl, .inl ⟨rfl, fun h => h, fun e => ⟨how, fun hs => ?_⟩⟩⟩
            cases e
            exact absurd h1 (hno o' hs)
    obtain ⟨o, s1, s2, s3⟩ := step
    refine ⟨o, s1, by rw [h2, s2], ?_⟩
    rcases h3 with ⟨a1, a2, a3⟩ | ⟨i, ac', o1', k, b1, b2, b3⟩
    · rcases s3 with ⟨c1, c2, c3⟩ | ⟨c1, k, c2, c3, c4, c5, c6⟩
      · refine .inl ⟨by rw [a1, c1], fun h => c2 (a2 h), fun i ac' o1' hi hi1 hid => ?_⟩
        cases i with
        | zero =>
          simp at hi hi1
          subst hi; subst hi1
          obtain ⟨d1, d2⟩ := c3 hid
          refine ⟨d1, fun hs => ?_⟩
          cases ho : o2.own with
          | false => rfl
          | true => rw [d2 hs] at a2; exact absurd (a2 ho) (by simp)
        | succ i => exact a3 i ac' o1' (by simpa using hi) (by simpa using hi1) hid
      · exact .inr ⟨0, ac, o1, k, by simp, by simp, c2, c3, c4, c5, by rw [a1]; exact c6⟩
    · exact .inr ⟨i + 1, ac', o1', k, by simpa using b1, by simpa using b2, b3⟩
def sharedCO : List CO → Bool
  | [] => false
  | .row _ _ own :: r => !own || sharedCO r
  | _ :: r => sharedCO r
def sharedO : List Out → Bool
  | [] => false
  | .row _ _ own :: r => !own || sharedO r
  | .agg cs :: r => sharedCO cs || sharedO r
  | .psegs _ cs :: r => sharedCO cs || sharedO r
  | _ :: r => sharedO r
theorem sharedCO_of : ∀ {cs : List CO} {acc : List Ty} {d : D (tysCO cs acc)} {o : AObj}, some o ∈ newsCO cs acc d → o.own = false → sharedCO cs = true
  | [], _, _, o, h, _ => by simp [newsCO] at h
  | .hole _ :: r, acc, d, o, h, ho => sharedCO_of (cs := r) (d := d.2) h ho
  | .const _ :: r, acc, d, o, h, ho => sharedCO_of (cs := r) (d := d) h ho
  | .row _ _ own :: r, acc, d, o, h, ho => by
    simp only [newsCO, List.mem_cons] at h
    rcases h with h | h
    · cases h
      simp only at ho
      simp [sharedCO, ho]
    · simp [sharedCO, sharedCO_of (cs := r) (d := d.2) h ho]
theorem sharedO_of : ∀ {os : List Out} {d : D (tysO os)} {o : AObj}, some o ∈ newsO os d → o.own = false → sharedO os = true
  | [], _, o, h, _ => by simp [newsO] at h
  | .ty _ :: r, d, o, h, ho => sharedO_of (os := r) (d := d.2) h ho
  | .row _ _ own :: r, d, o, h, ho => by
    simp only [newsO, List.mem_cons] at h
    rcases h with h | h
    · cases h
      simp only at ho
      simp [sharedO, ho]
    · simp [sharedO, sharedO_of (os := r) (d := d.2) h ho]
  | .agg cs :: r, d, o, h, ho => by
    simp only [newsO, List.mem_append] at h
    rcases h with h | h
    · simp [sharedO, sharedCO_of h ho]
    · simp [sharedO, sharedO_of h ho]
  | .prow _ _ :: r, d, o, h, ho => sharedO_of (os := r) (d := d.2) h ho
  | .psegs _ cs :: r, d, o, h, ho => by
    simp only [newsO, List.mem_append] at h
    rcases h with h | h
    · simp [sharedO, sharedCO_of h ho]
    · simp [sharedO, sharedO_of h ho]
def smRun (n : Nat) (ins : List Item) (os : List Out) (F : D (tysI ins []) → Option (D (tysO os))) : List AV → Heap → (AV → Heap → Option ρ) → Option ρ := fun args H K =>
  (extA n ins args H).bind fun d => if nodupPins (bldS n ins d).heap = true then
    (F d).bind fun r => K (retA (avsO os r H.length)) (postH (upsO os r H.length) (sharedO os) (drop0 :: actsI ⟨args, H⟩ false ins) (bldS n ins d).heap H ++ (newsO os r ++ fzH os))
  else none
theorem blk_lt {M : List Place} {o : AObj} {pl : Place} {B : Base} {w : World} (h : ObjOk M o pl B w) (hn : pl.nil = false) : pl.blk < w.heap.size := by
  rcases h with ⟨n1, _⟩ | ⟨_, cs, el, fz, g1, _⟩
  · rw [hn] at n1; cases n1
  · exact (Array.getElem?_eq_some_iff.1 g1).1
theorem smRun_ok {P : Program} {f : FuncId} {n : Nat} {ins : List Item} {os : List Out} {F : D (tysI ins []) → Option (D (tysO os))} (h : FnSpec P f n ins os F) : CalAt (ρ := ρ) P f (smRun n ins os F) := by
  intro args H K r hk M B w vs hl hH
  unfold smRun at hk
  simp only [Option.bind_eq_some_iff] at hk
  obtain ⟨d, hd, hk⟩ := hk
  split at hk
  case isFalse => cases hk
  rename_i hnd
  simp only [Option.bind_eq_some_iff] at hk
  obtain ⟨x, hx, hk⟩ := hk
  obtain ⟨M1, t⟩ := extA_told hl hH hd
  generalize hst : bldS n ins d = st1 at *
  generalize hac : drop0 :: actsI ⟨args, H⟩ false ins = acts at *
  have src : ∀ (i : Nat) (o1 : AObj) (pl : Place), st1.heap[i]? = some (some o1) → M1[i]? = some pl → pl.nil = false →
      (∃ ac b o p, acts[i]? = some ac ∧ ac.id = some b ∧ H[b]? = some (some o) ∧ M[b]? = some p ∧ p.nil = false ∧ pl.blk = p.blk ∧ (o1.own = true → o.own = true) ∧ (ac.whole = true → pl = p)) ∨
      (o1.own = false ∧ ∃ ob, FzAt M pl.blk ob) := by
    intro i o1 pl h1 h2 hn
    have hi : i < acts.length := by rw [t.len]; exact (List.getElem?_eq_some_iff.1 h2).1
    obtain ⟨p1, hp1, a1, a2, a3, _⟩ := t.act i acts[i] (List.getElem?_eq_getElem hi)
    rw [h2] at hp1
    cases hp1
    cases hid : (acts[i]).id with
    | none =>
      obtain ⟨q1, q2⟩ := (a2.1 hid).2 hn
      exact .inr ⟨by rw [a3 o1 h1, q1], q2⟩
    | some b =>
      obtain ⟨o, p, b1, b2, b3, b4, b5, b6⟩ := a1 b hid
      exact .inl ⟨acts[i], b, o, p, List.getElem?_eq_getElem hi, hid, b1, b2, by rw [← b3]; exact hn, b4, fun ho => b5 (by rw [← a3 o1 h1]; exact ho), b6⟩
  let B1 : Base := ⟨fun k => w.heap.size ≤ k ∨ ∃ (i : Nat) (o1 : AObj) (pl : Place), st1.heap[i]? = some (some o1) ∧ o1.own = true ∧ M1[i]? = some pl ∧ pl.nil = false ∧ pl.blk = k,
    fun k => w.heap.size ≤ k ∨ (∃ (i : Nat) (o1 : AObj) (pl : Place), st1.heap[i]? = some (some o1) ∧ M1[i]? = some pl ∧ pl.nil = false ∧ pl.blk = k) ∨ ∃ ob, FzAt M k ob,
    fun k pl => ∃ (i : Nat) (o1 : AObj), st1.heap[i]? = some (some o1) ∧ M1[i]? = some pl ∧ o1.pin = some k,
    fun k => B.f k ∨ ∃ ob, FzAt M k ob⟩
  have wB : ∀ k, B1.w k → B.w k := by
    rintro k (hk | ⟨i, o1, pl, h1, h2, h3, h4, rfl⟩)
    · exact (hH.base k hk).1
    · rcases src i o1 pl h1 h3 h4 with ⟨ac, b, o, p, _, _, c3, c4, c5, c6, c7, _⟩ | ⟨q, _⟩
      · obtain ⟨p', hp', hok⟩ := hH.obj b o c3
        rw [c4] at hp'
        cases hp'
        rcases hok with ⟨n1, _⟩ | ⟨_, _, _, _, _, _, _, _, g5⟩
        · rw [c5] at n1; cases n1
        · rw [c6]; exact (g5 (c7 h2)).2.2
      · rw [q] at h2; cases h2
  have visB : ∀ k, B1.vis k → B.vis k := by
    rintro k (hk | ⟨i, o1, pl, h1, h3, h4, rfl⟩ | ⟨ob, hk⟩)
    · exact (hH.base k hk).2
    · rcases src i o1 pl h1 h3 h4 with ⟨ac, b, o, p, _, _, c3, c4, c5, c6, _⟩ | ⟨_, ob, q⟩
      · rw [c6]; exact hH.vis b o p c3 c4 c5
      · exact (hH.fz _ _ q).2.1
    · exact (hH.fz _ _ hk).2.1
  have notF : ∀ (i : Nat) (o1 : AObj) (pl : Place), st1.heap[i]? = some (some o1) → M1[i]? = some pl → o1.own = true → pl.nil = false → ¬ B1.f pl.blk := by
    intro i o1 pl h1 h3 h2 h4
    rcases src i o1 pl h1 h3 h4 with ⟨ac, b, o, p, _, _, c3, c4, c5, c6, c7, _⟩ | ⟨q, _⟩
    · obtain ⟨f1, f2⟩ := hH.fo b o p c3 c4 (c7 h2) c5
      rw [c6]
      rintro (h | ⟨ob, h⟩)
      · exact f1 h
      · exact f2 ob h
    · rw [q] at h2; cases h2
  have hH1 : RelH M1 st1.heap B1 w := by
    refine ⟨t.heap.len, fun k hk => ⟨.inl hk, .inl hk⟩, fun i o1 ho1 => ?_, t.heap.sep, fun i o1 pl k h1 h2 h3 => ⟨i, o1, h1, h2, h3⟩, fun i o1 pl h1 h2 h3 => .inr (.inl ⟨i, o1, pl, h1, h2, h3, rfl⟩),
      fun k ob h => ⟨(t.heap.fz k ob h).1, .inr (.inr ⟨ob, t.zf k ob h⟩), .inr (.inr ⟨ob, t.zf k ob h⟩)⟩, fun i o1 pl h1 h2 h3 h4 => ⟨notF i o1 pl h1 h2 h3 h4, (t.heap.fo i o1 pl h1 h2 h3 h4).2⟩, fun k hk h => h.elim (hH.bf k hk) fun ⟨ob, h⟩ => absurd (hH.fz_lt h) (by omega)⟩
    obtain ⟨pl, hpl, hok⟩ := t.heap.obj i o1 ho1
    refine ⟨pl, hpl, ?_⟩
    rcases hok with hok | ⟨n1, cs, el, fz, g1, g2, g3, g4, g5⟩
    · exact .inl hok
    · exact .inr ⟨n1, cs, el, fz, g1, g2, g3, g4, fun ho => ⟨(g5 ho).1, (g5 ho).2.1, .inr ⟨i, o1, pl, ho1, ho, hpl, n1, rfl⟩⟩⟩
  refine (h d x hx M1 B1 w vs (by rw [hst]; exact relL_of_relT t.tmps) (by rw [hst]; exact hH1)).mono ?_
  rintro e w' ⟨rs, rfl, hb, N, Fz, hN, hFl, hN0, hF1, hF2, hav, hups⟩
  have hlen := hH.len
  have hEx : Ext M (M ++ (N ++ Fz)) := Ext.snoc M _
  have hE0 : Ext [] (M ++ (N ++ Fz)) := fun b pl e => (by simp at e)
  have hbB : Beneath B w w' := ⟨hb.os, hb.tape, hb.output, hb.size, fun k hk hw => hb.block k hk fun h1 => hw (wB k h1)⟩
  refine ⟨_, _, _, M ++ (N ++ Fz), rfl, hk, hEx, ?_, hbB, retA_rel (by rw [hlen]; exact hav M)⟩
  have hlpost := postH_len (upsO os x H.length) (sharedO os) acts st1.heap H
  generalize hH2 : postH (upsO os x H.length) (sharedO os) acts st1.heap H = H2 at *
  have part : ∀ (i : Nat) (o : AObj) (pl : Place), (H2 ++ (newsO os x ++ fzH os))[i]? = some (some o) → (M ++ (N ++ Fz))[i]? = some pl →
      (i < M.length ∧ M[i]? = some pl ∧ ∃ o0, H[i]? = some (some o0) ∧ Left (upsO os x H.length) (sharedO os) acts st1.heap i o0 o) ∨ (∃ j, i = M.length + j ∧ (newsO os x)[j]? = some (some o) ∧ N[j]? = some pl) := by
    intro i o pl h1 h2
    by_cases hi : i < M.length
    · rw [List.getElem?_append_left (by omega)] at h1
      rw [List.getElem?_append_left hi] at h2
      rw [← hH2] at h1
      exact .inl ⟨hi, h2, postH_spec h1⟩
    · rw [List.getElem?_append_right (by omega)] at h1 h2
      rw [hlpost, hlen] at h1
      by_cases hi2 : i - M.length < N.length
      · rw [List.getElem?_append_left (by rw [← hN.len]; exact hi2)] at h1
        rw [List.getElem?_append_left hi2] at h2
        exact .inr ⟨i - M.length, by omega, h1, h2⟩
      · rw [List.getElem?_append_right (by rw [← hN.len]; omega)] at h1
        exfalso
        have := List.mem_of_getElem? h1
        unfold fzH at this
        split at this <;> simp at this
  have upd : ∀ (j : Nat) (o0 o : AObj) (pl : Place), H[j]? = some (some o0) → M[j]? = some pl →
      (∃ (i : Nat) (ac : Act) (o1 : AObj) (k : Nat), acts[i]? = some ac ∧ st1.heap[i]? = some (some o1) ∧ ac.id = some j ∧ ac.whole = true ∧ o1.own = true ∧ o1.pin = some k ∧ (k, o.c) ∈ upsO os x H.length) →
      o0.own = true ∧ ObjOk (M ++ (N ++ Fz)) ⟨o.c, true, none⟩ pl B1 w' ∧ (∀ (i : Nat) (pi : Place), N[i]? = some pi → pi.nil = false → pl.nil = false → pi.blk ≠ pl.blk) ∧ (pl.nil = false → ∀ ob, ¬ FzAt Fz pl.blk ob) := by
    rintro j o0 o pl h1 h2 ⟨i, ac, o1, k, a1, a2, a3, a4, a5, a6, a7⟩
    obtain ⟨p1, hp1, c1, _, c3, _⟩ := t.act i ac a1
    obtain ⟨o', p, d1, d2, _, _, d5, d6⟩ := c1 j a3
    have d1' : H[j]? = some (some o') := d1
    rw [h1] at d1'
    cases d1'
    rw [h2] at d2
    cases d2
    have hpp := d6 a4
    subst hpp
    rw [hlen] at a7
    obtain ⟨pl', ⟨i', o1', e1, e2, e3⟩, f2, f3, f4⟩ := hups M k o.c a7
    have := nodupPins_eq hnd i i' o1 o1' k a2 e1 a6 e3
    subst this
    rw [hp1] at e2
    cases e2
    exact ⟨d5 (by rw [← c3 o1 a2]; exact a5), f2, f3, f4⟩
  have newB : ∀ (j : Nat) (o : AObj) (pl : Place), (newsO os x)[j]? = some (some o) → N[j]? = some pl → pl.nil = false → B1.vis pl.blk ∧ (o.own = true → B1.w pl.blk) := by
    intro j o pl h1 h2 hn
    obtain ⟨_, _, p, hp, hok, hv⟩ := hN.obj j o h1
    rw [h2] at hp
    cases hp
    refine ⟨hv hn, fun ho => ?_⟩
    rcases hok with ⟨n1, _⟩ | ⟨_, _, _, _, _, _, _, _, g5⟩
    · rw [hn] at n1; cases n1
    · exact (g5 ho).2.2
  have cross : ∀ (i j : Nat) (oi oj o0 : AObj) (pi pj : Place), M[i]? = some pi → H[i]? = some (some o0) → Left (upsO os x H.length) (sharedO os) acts st1.heap i o0 oi → (newsO os x)[j]? = some (some oj) → N[j]? = some pj →
      (oi.own = true ∨ oj.own = true) → pi.nil = false → pj.nil = false → pi.blk ≠ pj.blk := by
    intro i j oi oj o0 pi pj h1 h2 h3 h4 h5 ho hni hnj
    obtain ⟨v1, v2⟩ := newB j oj pj h4 h5 hnj
    obtain ⟨p', hp', hok⟩ := hH.obj i o0 h2
    rw [h1] at hp'
    cases hp'
    have hlt := blk_lt hok hni
    rcases h3 with ⟨_, ⟨c1, c2, c3⟩ | hu⟩
    · cases hoj : oj.own with
      | true =>
        rcases v2 hoj with hk | ⟨i1, o1, pl, e1, e2, e3, e4, e5⟩
        · omega
        · obtain ⟨ac, b, ob, p, a1, a2, a3, a4, a5, a6, a7, _⟩ := (src i1 o1 pl e1 e3 e4).resolve_right (fun q => by rw [q.1] at e2; cases e2)
          have hbi : b ≠ i := by
            rintro rfl
            have := (c3 i1 ac o1 a1 e1 a2).1
            rw [e2] at this
            cases this
          rw [← e5, a6]
          exact fun e => hH.sep b i ob o0 p pi a3 h2 a4 h1 hbi (a7 e2) a5 hni e.symm
      | false =>
        have hoi : oi.own = true := by
          rcases ho with ho | ho
          · exact ho
          · rw [hoj] at ho; cases ho
        have hsh : sharedO os = true := sharedO_of (List.mem_of_getElem? h4) hoj
        have still : ∀ ob, FzAt M pj.blk ob → pi.blk ≠ pj.blk := fun ob hz e => (hH.fo i o0 pi h2 h1 (c2 hoi) hni).2 ob (by rw [e]; exact hz)
        rcases v1 with hk | ⟨i1, o1, pl, e1, e3, e4, e5⟩ | ⟨ob, hz⟩
        · omega
        · rcases src i1 o1 pl e1 e3 e4 with ⟨ac, b, ob, p, a1, a2, a3, a4, a5, a6, _⟩ | ⟨_, ob, hz⟩
          · have hbi : i ≠ b := by
              rintro rfl
              have := (c3 i1 ac o1 a1 e1 a2).2 hsh
              rw [hoi] at this
              cases this
            rw [← e5, a6]
            exact hH.sep i b o0 ob pi p h2 a3 h1 a4 hbi (c2 hoi) hni a5
          · exact still ob (by rw [← e5]; exact hz)
        · exact still ob hz
    · obtain ⟨_, _, u3, _⟩ := upd i o0 oi pi h2 h1 hu
      exact fun e => u3 j pj h5 hnj hni e.symm
  have frozen : ∀ k ob, FzAt (M ++ (N ++ Fz)) k ob → FzAt M k ob ∨ FzAt Fz k ob := fun k ob h => (h.append).imp id fun h => (h.append).resolve_left (hN0 k ob)
  have b1f : ∀ k, B1.w k ∨ B1.f k → B.w k ∨ B.f k := by
    rintro k (h | h | ⟨ob, h⟩)
    · exact .inl (wB k h)
    · exact .inr h
    · exact (hH.fz k ob h).2.2
  refine ⟨by simp [hlpost, hN.len, hlen, hFl], fun k hk => hH.base k (Nat.le_trans hb.size hk), fun i o ho => ?_, fun i j oi oj pi pj hi hj hpi hpj hne how hni hnj => ?_, fun i o pl k ho hp hk' => ?_, fun i o pl ho hp hn => ?_, fun k ob hk => ?_, fun i o pl ho hp how hn => ?_, fun k hk => hH.bf k (Nat.le_trans hb.size hk)⟩
  · have hi : i < (M ++ (N ++ Fz)).length := by
      have := (List.getElem?_eq_some_iff.1 ho).1
      rw [List.length_append, List.length_append, hlpost, hlen, ← hN.len, ← hFl] at this
      rw [List.length_append, List.length_append]
      exact this
    refine ⟨(M ++ (N ++ Fz))[i], List.getElem?_eq_getElem hi, ?_⟩
    generalize hpl : (M ++ (N ++ Fz))[i] = pl
    have hp : (M ++ (N ++ Fz))[i]? = some pl := by rw [List.getElem?_eq_getElem hi, hpl]
    rcases part i o pl ho hp with ⟨_, h2, o0, h3, h4⟩ | ⟨j, rfl, h2, h3⟩
    · obtain ⟨p', hp', hok⟩ := hH.obj i o0 h3
      rw [h2] at hp'
      cases hp'
      rcases h4 with ⟨_, ⟨c1, c2, c3⟩ | hu⟩
      · rcases hok with ⟨n1, n2, n3⟩ | ⟨n1, cs, el, fz, g1, g2, g3, g4, g5⟩
        · exact .inl ⟨n1, n2, by rw [c1]; exact n3.mono hEx⟩
        · refine .inr ⟨n1, cs, el, fz, ?_, g2, g3, by rw [c1]; exact g4.mono hEx, fun h => g5 (c2 h)⟩
          rw [hb.block _ ((Array.getElem?_eq_some_iff.1 g1).1)]
          · exact g1
          · rintro (hk | ⟨i1, o1, pl1, e1, e2, e3, e4, e5⟩)
            · have := (Array.getElem?_eq_some_iff.1 g1).1
              omega
            · obtain ⟨ac, b, ob, p, a1, a2, a3, a4, a5, a6, a7, _⟩ := (src i1 o1 pl1 e1 e3 e4).resolve_right (fun q => by rw [q.1] at e2; cases e2)
              have hbi : b ≠ i := by
                rintro rfl
                have := (c3 i1 ac o1 a1 e1 a2).1
                rw [e2] at this
                cases this
              exact hH.sep b i ob o0 p pl a3 h3 a4 h2 hbi (a7 e2) a5 n1 (by rw [← a6]; exact e5)
      · obtain ⟨u1, u2, _⟩ := upd i o0 o pl h3 h2 hu
        rcases hok with ⟨n1, n2, n3⟩ | ⟨n1, cs, el, fz, g1, g2, g3, g4, g5⟩
        · rcases u2 with ⟨m1, m2, m3⟩ | ⟨m1, _⟩
          · exact .inl ⟨m1, m2, m3⟩
          · rw [n1] at m1; cases m1
        · rcases u2 with ⟨m1, _⟩ | ⟨m1, cs', el', fz', f1, f2, f3, f4, f5⟩
          · rw [n1] at m1; cases m1
          · exact .inr ⟨m1, cs', el', fz', f1, f2, f3, f4, fun _ => ⟨(f5 rfl).1, (f5 rfl).2.1, (g5 u1).2.2⟩⟩
    · obtain ⟨_, _, p, hp', hok, hv⟩ := hN.obj j o h2
      rw [h3] at hp'
      cases hp'
      rcases hok with ⟨n1, n2, n3⟩ | ⟨n1, cs, el, fz, g1, g2, g3, g4, g5⟩
      · exact .inl ⟨n1, n2, n3.mono hE0⟩
      · exact .inr ⟨n1, cs, el, fz, g1, g2, g3, g4.mono hE0, fun h => ⟨(g5 h).1, (g5 h).2.1, wB _ (g5 h).2.2⟩⟩
  · rcases part i oi pi hi hpi with ⟨_, h2, o0, h3, h4⟩ | ⟨j1, rfl, h2, h3⟩ <;> rcases part j oj pj hj hpj with ⟨_, k2, o0', k3, k4⟩ | ⟨j2, rfl, k2, k3⟩
    · have ho : o0.own = true := by
        rcases h4 with ⟨_, ⟨c1, c2, c3⟩ | hu⟩
        · exact c2 how
        · exact (upd i o0 oi pi h3 h2 hu).1
      exact hH.sep i j o0 o0' pi pj h3 k3 h2 k2 hne ho hni hnj
    · exact cross i j2 oi oj o0 pi pj h2 h3 h4 k2 k3 (.inl how) hni hnj
    · exact fun e => cross j j1 oj oi o0' pj pi k2 k3 k4 h2 h3 (.inr how) hnj hni e.symm
    · exact hN.sep j1 j2 oi oj pi pj h2 k2 h3 k3 (fun e => hne (by rw [e])) how hni hnj
  · rcases part i o pl ho hp with ⟨_, h2, o0, h3, h4⟩ | ⟨j, rfl, h2, h3⟩
    · exact hH.pin i o0 pl k h3 h2 (by rw [← h4.1]; exact hk')
    · rw [(hN.obj j o h2).1] at hk'; cases hk'
  · rcases part i o pl ho hp with ⟨_, h2, o0, h3, h4⟩ | ⟨j, rfl, h2, h3⟩
    · exact hH.vis i o0 pl h3 h2 hn
    · exact visB _ (newB j o pl h2 h3 hn).1
  · rcases frozen k ob hk with h | h
    · obtain ⟨z1, z2, z3⟩ := hH.fz k ob h
      refine ⟨?_, z2, z3⟩
      rw [hb.block k (hH.fz_lt h)]
      · exact z1
      · rintro (hk | ⟨i1, o1, pl1, e1, e2, e3, e4, e5⟩)
        · have := hH.fz_lt h
          omega
        · exact notF i1 o1 pl1 e1 e3 e2 e4 (.inr ⟨ob, by rw [e5]; exact h⟩)
    · obtain ⟨z1, z2, z3⟩ := hF1 k ob h
      exact ⟨z1, visB k z2, b1f k z3⟩
  · rcases part i o pl ho hp with ⟨_, h2, o0, h3, h4⟩ | ⟨j, rfl, h2, h3⟩
    · have how0 : o0.own = true := by
        rcases h4 with ⟨_, ⟨c1, c2, c3⟩ | hu⟩
        · exact c2 how
        · exact (upd i o0 o pl h3 h2 hu).1
      obtain ⟨f1, f2⟩ := hH.fo i o0 pl h3 h2 how0 hn
      refine ⟨f1, fun ob h => ?_⟩
      rcases frozen _ ob h with h | h
      · exact f2 ob h
      · rcases h4 with ⟨_, ⟨c1, c2, c3⟩ | hu⟩
        · obtain ⟨p', hp', hok⟩ := hH.obj i o0 h3
          rw [h2] at hp'
          cases hp'
          have hlt := blk_lt hok hn
          rcases (hF1 _ ob h).2.2 with (hk | ⟨i1, o1, pl1, e1, e2, e3, e4, e5⟩) | (hk | ⟨ob', hk⟩)
          · omega
          · obtain ⟨ac, b, ob2, p, a1, a2, a3, a4, a5, a6, a7, _⟩ := (src i1 o1 pl1 e1 e3 e4).resolve_right (fun q => by rw [q.1] at e2; cases e2)
            have hbi : b ≠ i := by
              rintro rfl
              have := (c3 i1 ac o1 a1 e1 a2).1
              rw [e2] at this
              cases this
            exact hH.sep b i ob2 o0 p pl a3 h3 a4 h2 hbi (a7 e2) a5 hn (by rw [← a6]; exact e5)
          · exact f1 hk
          · exact f2 ob' hk
        · exact (upd i o0 o pl h3 h2 hu).2.2.2 hn ob h
    · obtain ⟨g1, g2⟩ := hF2 j pl o h3 h2 how hn
      refine ⟨fun h => g1 (.inl h), fun ob h => ?_⟩
      rcases frozen _ ob h with h | h
      · exact g1 (.inr ⟨ob, h⟩)
      · exact g2 ob h
def allTy : List Out → Bool
  | [] => true
  | .ty (.row _) :: _ => false
  | .ty t :: r => !t.deep && allTy r
  | _ => false
def valCs : (cs : List CTy) → DC cs → List Value
  | [], _ => []
  | .int k :: r, d => .int k d.1 :: valCs r d.2
  | .bool :: r, d => .bool d.1 :: valCs r d.2
  | .is k _ :: r, d => List.map (Value.int k) d.1 ++ valCs r d.2
  | .str :: r, d => .string (mkS d.1) :: valCs r d.2
  | .fsl _ _ :: r, d => valCs r d.2
  | .dsl _ :: r, d => valCs r d.2
theorem valCs_eq {M : List Place} : ∀ {cs : List CTy} {d : DC cs} {a : List Value}, deepC cs = false → RelC M (mkCs cs d) a → a = valCs cs d
  | [], d, a, _, h => RelC_nil.1 h
  | .int k :: r, d, a, hd, h => by
    obtain ⟨b, t, rfl, hx, hr⟩ := RelC_cons.1 h
    have h2 : deepC r = false := hd
    rw [valCs_eq (cs := r) h2 hr, (RelX_int.1 hx).1]
    rfl
  | .bool :: r, d, a, hd, h => by
    obtain ⟨b, t, rfl, hx, hr⟩ := RelC_cons.1 h
    have h2 : deepC r = false := hd
    simp only [mk1, RelX] at hx
    rw [valCs_eq (cs := r) h2 hr, hx.1]
    rfl
  | .is k n :: r, d, a, hd, h => by
    obtain ⟨b, t, rfl, hx, hr⟩ := RelC_cons.1 h
    have h2 : deepC r = false := hd
    rw [valCs_eq (cs := r) h2 hr, (RelX_is.1 hx).2.1]
    rfl
  | .str :: r, d, a, hd, h => by
    obtain ⟨b, t, rfl, hx, hr⟩ := RelC_cons.1 h
    have h2 : deepC r = false := hd
    simp only [mk1, RelX] at hx
    rw [valCs_eq (cs := r) h2 hr, hx.1]
    rfl
  | .fsl _ _ :: r, d, a, hd, h => by simp [deepC] at hd
  | .dsl _ :: r, d, a, hd, h => by simp [deepC] at hd
def valT : (t : Ty) → t.den → Value
  | .int k, x => .int k x
  | .bool, x => .bool x
  | .is k _, l => .agg (List.map (Value.int k) l).toArray
  | .row _, _ => undef
  | .agg cs, d => .agg (valCs cs d).toArray
  | .str, l => .string (mkS l)
  | .fsl _ _, _ => undef
  | .dsl _, _ => undef
  | .drow _, _ => undef
  | .mapc _, _ => undef
def valO : (os : List Out) → D (tysO os) → List Value
  | [], _ => []
  | .ty t :: r, d => valT t d.1 :: valO r d.2
  | .row _ _ _ :: r, d => valO r d.2
  | .agg cs :: r, d => valO r (restCO cs (tysO r) d)
  | .prow _ _ :: r, d => valO r d.2
  | .psegs _ cs :: r, d => valO r (restCO cs (tysO r) d)
theorem valT_eq {M : List Place} {t : Ty} {x : t.den} {v : Value} (ht : ∀ k, t ≠ .row k) (hd : t.deep = false) (h : RelV M (mkT t x) v) : v = valT t x := by
  cases t with
  | int k => exact (relV_int h).1
  | bool => exact (relV_bool h).1
  | is k n =>
    obtain ⟨vs, e, hc⟩ := RelX_agg.1 h
    have e : v = .agg vs := by simpa using e
    subst e
    have := (RelX_is.1 (RelC_single.1 hc)).2.1
    simp only [valT]
    congr 1
    apply Array.toList_inj.1
    simpa using this
  | row k => exact absurd rfl (ht k)
  | agg cs =>
    obtain ⟨vs, e, hc⟩ := RelX_agg.1 h
    have e : v = .agg vs := by simpa using e
    subst e
    have := valCs_eq hd hc
    simp only [valT]
    congr 1
    apply Array.toList_inj.1
    simpa using this
  | str =>
    simp only [mkT, RelV, RelX] at h
    simpa [valT] using h.1
  | fsl k sz => cases hd
  | dsl e => cases hd
  | drow e => cases hd
  | mapc i => cases hd
theorem mkCs_any {M M' : List Place} {cs : List CTy} {d : DC cs} {a : List Value} (hd : deepC cs = false) (h : RelC M (mkCs cs d) a) : RelC M' (mkCs cs d) a := by
  induction cs generalizing a with
  | nil => exact RelC_nil.2 (RelC_nil.1 h)
  | cons t r ih =>
    obtain ⟨b, t', rfl, hx, hr⟩ := RelC_cons.1 h
    have h2 : deepC r = false := by cases t <;> first | exact hd | cases hd
    refine RelC_cons.2 ⟨b, t', rfl, ?_, ih h2 hr⟩
    cases t with
    | fsl k sz => cases hd
    | dsl e => cases hd
    | _ => simpa only [mk1, RelX] using hx
theorem mkT_any {M M' : List Place} {t : Ty} {x : t.den} {v : Value} (hd : t.deep = false) (h : RelV M (mkT t x) v) : RelV M' (mkT t x) v := by
  cases t with
  | int k => exact RelX_int.2 (RelX_int.1 h)
  | bool => simpa only [mkT, RelV, RelX] using h
  | is k n =>
    obtain ⟨vs, e, hc⟩ := RelX_agg.1 h
    exact RelX_agg.2 ⟨vs, e, RelC_single.2 (RelX_is.2 (RelX_is.1 (RelC_single.1 hc)))⟩
  | row k => exact relV_undef _ _
  | agg cs =>
    obtain ⟨vs, e, hc⟩ := RelX_agg.1 h
    exact RelX_agg.2 ⟨vs, e, mkCs_any hd hc⟩
  | str => simpa only [mkT, RelV, RelX] using h
  | fsl k sz => cases hd
  | dsl e => cases hd
  | drow e => exact relV_undef _ _
  | mapc i => cases hd
theorem valO_eq : ∀ {os : List Out} {d : D (tysO os)} {M : List Place} {b : Nat} {vs : List Value}, allTy os = true → RelL M (avsO os d b) vs → vs = valO os d ∧ RelL [] (avsO os d 0) vs
  | [], d, M, b, vs, _, h => by
    simp only [avsO, RelL_nil] at h
    subst h
    exact ⟨rfl, RelL_nil.2 rfl⟩
  | .ty t :: r, d, M, b, vs, ha, h => by
    obtain ⟨v, vs', rfl, hv, hr⟩ := RelL_cons.1 h
    have ha' : allTy r = true ∧ (∀ k, t ≠ .row k) ∧ t.deep = false := by
      cases t <;> simp only [allTy, Bool.and_eq_true, Bool.not_eq_true', reduceCtorEq] at ha <;> exact ⟨ha.2, fun k h => (by cases h), ha.1⟩
    obtain ⟨e, hl⟩ := valO_eq ha'.1 hr
    have hv2 := valT_eq ha'.2.1 ha'.2.2 hv
    refine ⟨by rw [e, hv2]; rfl, RelL_cons.2 ⟨v, vs', rfl, ?_, hl⟩⟩
    exact mkT_any ha'.2.2 hv
  | .row k sz _ :: r, d, M, b, vs, ha, h => by simp [allTy] at ha
  | .agg cs :: r, d, M, b, vs, ha, h => by simp [allTy] at ha
  | .prow _ _ :: r, d, M, b, vs, ha, h => by simp [allTy] at ha
  | .psegs _ _ :: r, d, M, b, vs, ha, h => by simp [allTy] at ha
def smQRun (n : Nat) (ins : List Item) (os : List Out) (F : D (tysI ins []) → Option (D (tysO os))) : List AV → Heap → (AV → Option ρ) → Option ρ := fun args H K =>
  (extA n ins args H).bind fun d => (F d).bind fun r => K (retA (avsO os r 0))
theorem noOwn_heap : ∀ {its : List Item} {acc : List Ty} {d : D (tysI its acc)} {st : St}, noOwn its = true → (∀ (i : Nat) o, st.heap[i]? = some (some o) → o.own = false) → ∀ (i : Nat) o, (bldI its acc d st).1.heap[i]? = some (some o) → o.own = false := by
  intro its
  induction its with
  | nil => intro acc d st _ h; exact h
  | cons it its ih =>
    intro acc d st hn h
    have snoc : ∀ (x : Option AObj), (∀ o, x = some o → o.own = false) → ∀ (i : Nat) o, (st.heap ++ [x])[i]? = some (some o) → o.own = false := by
      intro x hx i o hi
      rw [List.getElem?_append] at hi
      split at hi
      · exact h i o hi
      · rcases Nat.eq_zero_or_pos (i - st.heap.length) with h0 | h0
        · rw [h0] at hi
          simp at hi
          exact hx o hi
        · rw [List.getElem?_eq_none (by simp; omega)] at hi; cases hi
    cases it with
    | row k sz src own pin =>
      simp only [noOwn, Bool.and_eq_true, Bool.not_eq_true'] at hn
      exact ih hn.2 (snoc _ (by rintro o ⟨⟩; exact hn.1))
    | segs cs src own pin =>
      simp only [noOwn, Bool.and_eq_true, Bool.not_eq_true'] at hn
      exact ih hn.2 (snoc _ (by rintro o ⟨⟩; exact hn.1))
    | drow e src own pin =>
      simp only [noOwn, Bool.and_eq_true, Bool.not_eq_true'] at hn
      exact ih hn.2 (snoc _ (by rintro o ⟨⟩; exact hn.1))
    | drop => exact ih hn (snoc _ (by rintro o ⟨⟩))
    | slot t ty => exact ih hn h
    | const t a => exact ih hn h
    | sl t b sz c => exact ih hn h
    | ptr t b w => exact ih hn h
    | fn t f cs => exact ih hn h
    | cells t cs => exact ih hn h
def Base.fresh (n : Nat) : Base := ⟨fun k => n ≤ k, fun _ => True, fun _ _ => True, fun k => k < n⟩
theorem Beneath.below' {w w' : World} (h : Beneath (Base.fresh w.heap.size) w w') : Below w.heap.size w w' := ⟨h.os, h.tape, h.output, h.size, fun k hk => h.block k hk (fun h2 => Nat.lt_irrefl _ (Nat.lt_of_lt_of_le hk h2))⟩
theorem smQRun_ok {P : Program} {f : FuncId} {n : Nat} {ins : List Item} {os : List Out} {F : D (tysI ins []) → Option (D (tysO os))} (h : FnSpec P f n ins os F) (hn : noOwn ins = true) (ha : allTy os = true) : QCalAt (ρ := ρ) P f (smQRun n ins os F) := by
  intro args H K r hk M B w vs hl hH
  unfold smQRun at hk
  simp only [Option.bind_eq_some_iff] at hk
  obtain ⟨d, hd, x, hx, hk⟩ := hk
  have hrun : ∀ w', Below w.heap.size w w' → Calls P f vs w' fun e w'' => ∃ rs : Array Value, e = .returned (retV rs) ∧ rs = (valO os x).toArray ∧ RelL [] (avsO os x 0) (valO os x) ∧ Below w'.heap.size w' w'' := by
    intro w' hb
    obtain ⟨M1, t⟩ := extA_told hl (hH.below hb) hd
    have hno := noOwn_heap (acc := []) (d := d) (st := st0 n) hn (fun i o hi => by cases i <;> simp [st0] at hi)
    have hH1 : RelH M1 (bldS n ins d).heap (Base.fresh w'.heap.size) w' := by
      refine ⟨t.heap.len, fun k hk => ⟨hk, trivial⟩, fun i o ho => ?_, t.heap.sep, fun _ _ _ _ _ _ _ => trivial, fun _ _ _ _ _ _ => trivial, fun k ob h => ⟨(t.heap.fz k ob h).1, trivial, .inr (t.heap.fz_lt h)⟩, fun i o pl ho hp how hn => (by rw [hno i o ho] at how; cases how), fun k hk h => absurd hk (Nat.not_le_of_lt h)⟩
      obtain ⟨pl, hp, hok⟩ := t.heap.obj i o ho
      refine ⟨pl, hp, ?_⟩
      rcases hok with hok | ⟨hn, cs, el, fz, h1, h2, h3, h4, h5⟩
      · exact .inl hok
      · exact .inr ⟨hn, cs, el, fz, h1, h2, h3, h4, fun ho2 => by rw [hno i o ho] at ho2; cases ho2⟩
    refine (h d x hx M1 (Base.fresh w'.heap.size) w' vs (relL_of_relT t.tmps) hH1).mono ?_
    rintro e w'' ⟨rs, rfl, hb', N, Fz, _, _, _, _, _, hav, _⟩
    obtain ⟨e1, e2⟩ := valO_eq (b := 0) ha (by simpa using hav [])
    refine ⟨rs, rfl, ?_, by rw [← e1]; exact e2, hb'.below'⟩
    apply Array.toList_inj.1
    simpa using e1
  obtain ⟨e, w', fr, ⟨rs, _, _, hro, _⟩, _⟩ := hrun w (Below.refl _ _) []
  refine ⟨retV (valO os x).toArray, _, hk, RelX.mono (fun b pl e => (by simp at e)) _ _ (retA_rel (M := []) (by simpa using hro)), fun w' hb => (hrun w' hb).mono ?_⟩
  rintro e w'' ⟨rs, rfl, rfl, _, hb'⟩
  exact ⟨rfl, hb'⟩
end Go.AE
set_option linter.unusedVariables false
set_option linter.unusedSimpArgs false
namespace Go.AE
open Go Go.RowKit
structure ToldF where
  f : FuncId
  n : Nat
  ins : List Item
  os : List Out
  F : D (tysI ins []) → Option (D (tysO os))
def ToldF.ok (P : Program) (t : ToldF) : Prop := FnSpec P t.f t.n t.ins t.os t.F
def toldAny : List ToldF → FuncId → Bool
  | [], _ => false
  | t :: r, f => if t.f = f then true else toldAny r f
def smTry {ρ : Type} : List ToldF → FuncId → List AV → Heap → (AV → Heap → Option ρ) → Option ρ
  | [], _, _, _, _ => none
  | t :: r, f, args, H, K => if t.f = f then
      match extA t.n t.ins args H with
      | some _ => smRun t.n t.ins t.os t.F args H K
      | none => smTry r f args H K
    else smTry r f args H K
def toldAnyQ : List ToldF → FuncId → Bool
  | [], _ => false
  | t :: r, f => if t.f = f ∧ allTy t.os = true ∧ noOwn t.ins = true then true else toldAnyQ r f
def smTryQ {ρ : Type} : List ToldF → FuncId → List AV → Heap → (AV → Option ρ) → Option ρ
  | [], _, _, _, _ => none
  | t :: r, f, args, H, K => if t.f = f ∧ allTy t.os = true ∧ noOwn t.ins = true then
      match extA t.n t.ins args H with
      | some _ => smQRun t.n t.ins t.os t.F args H K
      | none => smTryQ r f args H K
    else smTryQ r f args H K
def envOf (l : List ToldF) (ρ : Type) : Env ρ :=
  ⟨fun f => if toldAny l f = true then some (smTry l f) else none, fun f => if toldAnyQ l f = true then some (smTryQ l f) else none⟩
def AllOk (P : Program) : List ToldF → Prop
  | [] => True
  | t :: r => t.ok P ∧ AllOk P r
theorem smTry_ok {P : Program} {ρ : Type} : ∀ {l : List ToldF}, AllOk P l → ∀ f, CalAt (ρ := ρ) P f (smTry l f)
  | [], _, f => fun args H K r h => by cases h
  | t :: l, hl, f => by
    intro args H K r h
    unfold smTry at h
    split at h
    · rename_i hf
      subst hf
      split at h
      · exact smRun_ok hl.1 args H K r h
      · exact smTry_ok hl.2 t.f args H K r h
    · exact smTry_ok hl.2 f args H K r h
theorem smTryQ_ok {P : Program} {ρ : Type} : ∀ {l : List ToldF}, AllOk P l → ∀ f, QCalAt (ρ := ρ) P f (smTryQ l f)
  | [], _, f => fun args H K r h => by cases h
  | t :: l, hl, f => by
    intro args H K r h
    unfold smTryQ at h
    split at h
    · rename_i hf
      obtain ⟨rfl, ha, hn⟩ := hf
      split at h
      · exact smQRun_ok hl.1 hn ha args H K r h
      · exact smTryQ_ok hl.2 t.f args H K r h
    · exact smTryQ_ok hl.2 f args H K r h
theorem envOf_ok {P : Program} {l : List ToldF} (h : AllOk P l) (ρ : Type) : EnvOk P (envOf l ρ) := by
  refine ⟨fun f s hs => ?_, fun f s hs => ?_⟩
  · simp only [envOf] at hs
    split at hs
    · cases hs; exact smTry_ok h f
    · cases hs
  · simp only [envOf] at hs
    split at hs
    · cases hs; exact smTryQ_ok h f
    · cases hs
abbrev calT (P : Program) (l : List ToldF) : Cals := fun σ => evFn P (envOf l σ) 40
abbrev qcalT (l : List ToldF) : QCals := fun σ => qof (envOf l σ)
theorem calT_ok {P : Program} (hP : Callable P) {l : List ToldF} (h : AllOk P l) (σ : Type) (f : FuncId) : CalAt P f (calT P l σ f) := evFn_ok hP (envOf_ok h σ) 40 f
theorem qcalT_ok {P : Program} {l : List ToldF} (h : AllOk P l) (σ : Type) (f : FuncId) : QCalAt P f (qcalT l σ f) := qof_ok (envOf_ok h σ) f
def annOf {ρ : Type} : List (Nat × Ann ρ) → Nat → Option (Ann ρ)
  | [], _ => none
  | (i, a) :: r, id => if id = i then some a else annOf r id
def AnnsOk {ρ : Type} (P : Program) (c : Code) (l : List (Nat × Ann ρ)) : Prop :=
  ∀ (B : Base) (w : World) (id : Nat) (an : Ann ρ) (c' : Code), annOf l id = some an → (id, c') ∈ blocks c → AnnAt P false B w (.block id c') an
theorem annsOk_nil {ρ : Type} (P : Program) (c : Code) : AnnsOk (ρ := ρ) P c [] := fun _ _ _ _ _ h => by cases h
def blocksAt (c : Code) (id : Nat) : List Code := ((blocks c).filter fun p => p.1 == id).map (·.2)
theorem annsOk_cons {ρ : Type} {P : Program} {c body : Code} {id : Nat} {an : Ann ρ} {l : List (Nat × Ann ρ)} (hb : blocksAt c id = [.loop body])
    (h : ∀ B w, AnnAt P false B w (.block id (.loop body)) an) (hl : AnnsOk P c l) : AnnsOk P c ((id, an) :: l) := by
  intro B w id' an' c' ha hc
  unfold annOf at ha
  split at ha
  · rename_i hid
    subst hid
    cases ha
    have : c' ∈ blocksAt c id' := by
      unfold blocksAt
      rw [List.mem_map]
      exact ⟨(id', c'), by simp [hc], rfl⟩
    rw [hb, List.mem_singleton] at this
    subst this
    exact h B w
  · exact hl B w id' an' c' ha hc
def loopAt (c : Code) (id : Nat) : Code := match blocksAt c id with
  | [.loop b] => b
  | _ => .skip
def bodyOf (fn : Func) : Code := match fn.body with
  | some c => c
  | none => .skip
theorem toldF_ok {P : Program} (hP : Callable P) {l : List ToldF} (hl : AllOk P l) {fn : Func} {t : ToldF} {anns : List (Nat × Ann (D (tysO t.os)))} (hf : P.funcs[t.f]? = some fn) (ha : AnnsOk P (bodyOf fn) anns)
    (h : ∀ d, evBody P (calT P l _) (qcalT l _) (annOf anns) t.f (bldS t.n t.ins d).tmps (bldS t.n t.ins d).heap (endO t.os) = t.F d) : t.ok P := by
  refine fnSpec_of hP (calT_ok hP hl) (qcalT_ok hl) (ann := annOf anns) (fun fn' c h1 h2 id an c' h3 h4 B w => ?_) h
  rw [hf] at h1
  cases h1
  unfold bodyOf at ha
  rw [h2] at ha
  exact ha B w id an c' h3 h4
theorem toldS_ok {P : Program} (hP : Callable P) {l : List ToldF} (hl : AllOk P l) {nt : Nat} {ins outs : List Item} {id : Nat} {body : Code}
    {L : Nat → D (tysI ins []) → Option (D (tysI outs []))} {anns : List (Nat × Ann (D (tysI outs [])))} (ha : AnnsOk P body anns) (h0 : ∀ d, L 0 d = none)
    (hs : ∀ k d, evCode P (calT P l _) (qcalT l _) (annOf anns) body (bldS nt ins d) (kS nt ins outs id (L k)) = L (k + 1) d) (F : Nat) {ρ : Type} (B : Base) (w : World) :
    AnnAt (ρ := ρ) P false B w (.block id (.loop body)) (annS nt ins outs (L F)) :=
  annS_ok hP (calT_ok hP hl) (qcalT_ok hl) (ann := annOf anns) (fun id an c' h1 h2 => ha B w id an c' h1 h2) h0 hs F
theorem toldX_ok {P : Program} (hP : Callable P) {l : List ToldF} (hl : AllOk P l) {nt : Nat} {ins outX outs : List Item} {e2 : Exit} {id : Nat} {body : Code}
    {L : Nat → D (tysI ins []) → Option (D (tysI outX []) ⊕ D (tysI outs []))} {anns : List (Nat × Ann (D (tysI outX []) ⊕ D (tysI outs [])))} (ha : AnnsOk P body anns) (h0 : ∀ d, L 0 d = none)
    (hs : ∀ k d, evCode P (calT P l _) (qcalT l _) (annOf anns) body (bldS nt ins d) (kX nt ins outX outs id e2 (L k)) = L (k + 1) d) (he : e2 = .ret ∨ ∃ j, e2 = .exit j ∧ j ≠ id) (F : Nat) {ρ : Type} (B : Base) (w : World) :
    AnnAt (ρ := ρ) P false B w (.block id (.loop body)) (annX nt ins outX outs e2 (L F)) :=
  annX_ok hP (calT_ok hP hl) (qcalT_ok hl) (ann := annOf anns) (fun id an c' h1 h2 => ha B w id an c' h1 h2) h0 hs he F
@[reducible] def u0 {R U : Type} (f : R) (_ : U) : R := f
@[reducible] def u1 {R U A0 : Type} (f : A0 → R) (d : A0 × U) : R := u0 (f d.1) d.2
@[reducible] def u2 {R U A0 A1 : Type} (f : A0 → A1 → R) (d : A0 × A1 × U) : R := u1 (f d.1) d.2
@[reducible] def u3 {R U A0 A1 A2 : Type} (f : A0 → A1 → A2 → R) (d : A0 × A1 × A2 × U) : R := u2 (f d.1) d.2
@[reducible] def u4 {R U A0 A1 A2 A3 : Type} (f : A0 → A1 → A2 → A3 → R) (d : A0 × A1 × A2 × A3 × U) : R := u3 (f d.1) d.2
@[reducible] def u5 {R U A0 A1 A2 A3 A4 : Type} (f : A0 → A1 → A2 → A3 → A4 → R) (d : A0 × A1 × A2 × A3 × A4 × U) : R := u4 (f d.1) d.2
@[reducible] def u6 {R U A0 A1 A2 A3 A4 A5 : Type} (f : A0 → A1 → A2 → A3 → A4 → A5 → R) (d : A0 × A1 × A2 × A3 × A4 × A5 × U) : R := u5 (f d.1) d.2
@[reducible] def u7 {R U A0 A1 A2 A3 A4 A5 A6 : Type} (f : A0 → A1 → A2 → A3 → A4 → A5 → A6 → R) (d : A0 × A1 × A2 × A3 × A4 × A5 × A6 × U) : R := u6 (f d.1) d.2
@[reducible] def u8 {R U A0 A1 A2 A3 A4 A5 A6 A7 : Type} (f : A0 → A1 → A2 → A3 → A4 → A5 → A6 → A7 → R) (d : A0 × A1 × A2 × A3 × A4 × A5 × A6 × A7 × U) : R := u7 (f d.1) d.2
@[reducible] def u9 {R U A0 A1 A2 A3 A4 A5 A6 A7 A8 : Type} (f : A0 → A1 → A2 → A3 → A4 → A5 → A6 → A7 → A8 → R) (d : A0 × A1 × A2 × A3 × A4 × A5 × A6 × A7 × A8 × U) : R := u8 (f d.1) d.2
@[reducible] def u10 {R U A0 A1 A2 A3 A4 A5 A6 A7 A8 A9 : Type} (f : A0 → A1 → A2 → A3 → A4 → A5 → A6 → A7 → A8 → A9 → R) (d : A0 × A1 × A2 × A3 × A4 × A5 × A6 × A7 × A8 × A9 × U) : R := u9 (f d.1) d.2
@[reducible] def u11 {R U A0 A1 A2 A3 A4 A5 A6 A7 A8 A9 A10 : Type} (f : A0 → A1 → A2 → A3 → A4 → A5 → A6 → A7 → A8 → A9 → A10 → R) (d : A0 × A1 × A2 × A3 × A4 × A5 × A6 × A7 × A8 × A9 × A10 × U) : R := u10 (f d.1) d.2
@[reducible] def u12 {R U A0 A1 A2 A3 A4 A5 A6 A7 A8 A9 A10 A11 : Type} (f : A0 → A1 → A2 → A3 → A4 → A5 → A6 → A7 → A8 → A9 → A10 → A11 → R) (d : A0 × A1 × A2 × A3 × A4 × A5 × A6 × A7 × A8 × A9 × A10 × A11 × U) : R := u11 (f d.1) d.2
@[reducible] def u13 {R U A0 A1 A2 A3 A4 A5 A6 A7 A8 A9 A10 A11 A12 : Type} (f : A0 → A1 → A2 → A3 → A4 → A5 → A6 → A7 → A8 → A9 → A10 → A11 → A12 → R) (d : A0 × A1 × A2 × A3 × A4 × A5 × A6 × A7 × A8 × A9 × A10 × A11 × A12 × U) : R := u12 (f d.1) d.2
@[reducible] def u14 {R U A0 A1 A2 A3 A4 A5 A6 A7 A8 A9 A10 A11 A12 A13 : Type} (f : A0 → A1 → A2 → A3 → A4 → A5 → A6 → A7 → A8 → A9 → A10 → A11 → A12 → A13 → R) (d : A0 × A1 × A2 × A3 × A4 × A5 × A6 × A7 × A8 × A9 × A10 × A11 × A12 × A13 × U) : R := u13 (f d.1) d.2
@[reducible] def u15 {R U A0 A1 A2 A3 A4 A5 A6 A7 A8 A9 A10 A11 A12 A13 A14 : Type} (f : A0 → A1 → A2 → A3 → A4 → A5 → A6 → A7 → A8 → A9 → A10 → A11 → A12 → A13 → A14 → R) (d : A0 × A1 × A2 × A3 × A4 × A5 × A6 × A7 × A8 × A9 × A10 × A11 × A12 × A13 × A14 × U) : R := u14 (f d.1) d.2
@[reducible] def u16 {R U A0 A1 A2 A3 A4 A5 A6 A7 A8 A9 A10 A11 A12 A13 A14 A15 : Type} (f : A0 → A1 → A2 → A3 → A4 → A5 → A6 → A7 → A8 → A9 → A10 → A11 → A12 → A13 → A14 → A15 → R) (d : A0 × A1 × A2 × A3 × A4 × A5 × A6 × A7 × A8 × A9 × A10 × A11 × A12 × A13 × A14 × A15 × U) : R := u15 (f d.1) d.2
@[reducible] def u17 {R U A0 A1 A2 A3 A4 A5 A6 A7 A8 A9 A10 A11 A12 A13 A14 A15 A16 : Type} (f : A0 → A1 → A2 → A3 → A4 → A5 → A6 → A7 → A8 → A9 → A10 → A11 → A12 → A13 → A14 → A15 → A16 → R) (d : A0 × A1 × A2 × A3 × A4 × A5 × A6 × A7 × A8 × A9 × A10 × A11 × A12 × A13 × A14 × A15 × A16 × U) : R := u16 (f d.1) d.2
@[reducible] def u18 {R U A0 A1 A2 A3 A4 A5 A6 A7 A8 A9 A10 A11 A12 A13 A14 A15 A16 A17 : Type} (f : A0 → A1 → A2 → A3 → A4 → A5 → A6 → A7 → A8 → A9 → A10 → A11 → A12 → A13 → A14 → A15 → A16 → A17 → R) (d : A0 × A1 × A2 × A3 × A4 × A5 × A6 × A7 × A8 × A9 × A10 × A11 × A12 × A13 × A14 × A15 × A16 × A17 × U) : R := u17 (f d.1) d.2
@[reducible] def u19 {R U A0 A1 A2 A3 A4 A5 A6 A7 A8 A9 A10 A11 A12 A13 A14 A15 A16 A17 A18 : Type} (f : A0 → A1 → A2 → A3 → A4 → A5 → A6 → A7 → A8 → A9 → A10 → A11 → A12 → A13 → A14 → A15 → A16 → A17 → A18 → R) (d : A0 × A1 × A2 × A3 × A4 × A5 × A6 × A7 × A8 × A9 × A10 × A11 × A12 × A13 × A14 × A15 × A16 × A17 × A18 × U) : R := u18 (f d.1) d.2
@[reducible] def u20 {R U A0 A1 A2 A3 A4 A5 A6 A7 A8 A9 A10 A11 A12 A13 A14 A15 A16 A17 A18 A19 : Type} (f : A0 → A1 → A2 → A3 → A4 → A5 → A6 → A7 → A8 → A9 → A10 → A11 → A12 → A13 → A14 → A15 → A16 → A17 → A18 → A19 → R) (d : A0 × A1 × A2 × A3 × A4 × A5 × A6 × A7 × A8 × A9 × A10 × A11 × A12 × A13 × A14 × A15 × A16 × A17 × A18 × A19 × U) : R := u19 (f d.1) d.2
@[reducible] def u21 {R U A0 A1 A2 A3 A4 A5 A6 A7 A8 A9 A10 A11 A12 A13 A14 A15 A16 A17 A18 A19 A20 : Type} (f : A0 → A1 → A2 → A3 → A4 → A5 → A6 → A7 → A8 → A9 → A10 → A11 → A12 → A13 → A14 → A15 → A16 → A17 → A18 → A19 → A20 → R) (d : A0 × A1 × A2 × A3 × A4 × A5 × A6 × A7 × A8 × A9 × A10 × A11 × A12 × A13 × A14 × A15 × A16 × A17 × A18 × A19 × A20 × U) : R := u20 (f d.1) d.2
@[reducible] def u22 {R U A0 A1 A2 A3 A4 A5 A6 A7 A8 A9 A10 A11 A12 A13 A14 A15 A16 A17 A18 A19 A20 A21 : Type} (f : A0 → A1 → A2 → A3 → A4 → A5 → A6 → A7 → A8 → A9 → A10 → A11 → A12 → A13 → A14 → A15 → A16 → A17 → A18 → A19 → A20 → A21 → R) (d : A0 × A1 × A2 × A3 × A4 × A5 × A6 × A7 × A8 × A9 × A10 × A11 × A12 × A13 × A14 × A15 × A16 × A17 × A18 × A19 × A20 × A21 × U) : R := u21 (f d.1) d.2
@[reducible] def u23 {R U A0 A1 A2 A3 A4 A5 A6 A7 A8 A9 A10 A11 A12 A13 A14 A15 A16 A17 A18 A19 A20 A21 A22 : Type} (f : A0 → A1 → A2 → A3 → A4 → A5 → A6 → A7 → A8 → A9 → A10 → A11 → A12 → A13 → A14 → A15 → A16 → A17 → A18 → A19 → A20 → A21 → A22 → R) (d : A0 × A1 × A2 × A3 × A4 × A5 × A6 × A7 × A8 × A9 × A10 × A11 × A12 × A13 × A14 × A15 × A16 × A17 × A18 × A19 × A20 × A21 × A22 × U) : R := u22 (f d.1) d.2
@[reducible] def u24 {R U A0 A1 A2 A3 A4 A5 A6 A7 A8 A9 A10 A11 A12 A13 A14 A15 A16 A17 A18 A19 A20 A21 A22 A23 : Type} (f : A0 → A1 → A2 → A3 → A4 → A5 → A6 → A7 → A8 → A9 → A10 → A11 → A12 → A13 → A14 → A15 → A16 → A17 → A18 → A19 → A20 → A21 → A22 → A23 → R) (d : A0 × A1 × A2 × A3 × A4 × A5 × A6 × A7 × A8 × A9 × A10 × A11 × A12 × A13 × A14 × A15 × A16 × A17 × A18 × A19 × A20 × A21 × A22 × A23 × U) : R := u23 (f d.1) d.2
@[reducible] def u25 {R U A0 A1 A2 A3 A4 A5 A6 A7 A8 A9 A10 A11 A12 A13 A14 A15 A16 A17 A18 A19 A20 A21 A22 A23 A24 : Type} (f : A0 → A1 → A2 → A3 → A4 → A5 → A6 → A7 → A8 → A9 → A10 → A11 → A12 → A13 → A14 → A15 → A16 → A17 → A18 → A19 → A20 → A21 → A22 → A23 → A24 → R) (d : A0 × A1 × A2 × A3 × A4 × A5 × A6 × A7 × A8 × A9 × A10 × A11 × A12 × A13 × A14 × A15 × A16 × A17 × A18 × A19 × A20 × A21 × A22 × A23 × A24 × U) : R := u24 (f d.1) d.2
@[reducible] def u26 {R U A0 A1 A2 A3 A4 A5 A6 A7 A8 A9 A10 A11 A12 A13 A14 A15 A16 A17 A18 A19 A20 A21 A22 A23 A24 A25 : Type} (f : A0 → A1 → A2 → A3 → A4 → A5 → A6 → A7 → A8 → A9 → A10 → A11 → A12 → A13 → A14 → A15 → A16 → A17 → A18 → A19 → A20 → A21 → A22 → A23 → A24 → A25 → R) (d : A0 × A1 × A2 × A3 × A4 × A5 × A6 × A7 × A8 × A9 × A10 × A11 × A12 × A13 × A14 × A15 × A16 × A17 × A18 × A19 × A20 × A21 × A22 × A23 × A24 × A25 × U) : R := u25 (f d.1) d.2
@[reducible] def u27 {R U A0 A1 A2 A3 A4 A5 A6 A7 A8 A9 A10 A11 A12 A13 A14 A15 A16 A17 A18 A19 A20 A21 A22 A23 A24 A25 A26 : Type} (f : A0 → A1 → A2 → A3 → A4 → A5 → A6 → A7 → A8 → A9 → A10 → A11 → A12 → A13 → A14 → A15 → A16 → A17 → A18 → A19 → A20 → A21 → A22 → A23 → A24 → A25 → A26 → R) (d : A0 × A1 × A2 × A3 × A4 × A5 × A6 × A7 × A8 × A9 × A10 × A11 × A12 × A13 × A14 × A15 × A16 × A17 × A18 × A19 × A20 × A21 × A22 × A23 × A24 × A25 × A26 × U) : R := u26 (f d.1) d.2
@[reducible] def u28 {R U A0 A1 A2 A3 A4 A5 A6 A7 A8 A9 A10 A11 A12 A13 A14 A15 A16 A17 A18 A19 A20 A21 A22 A23 A24 A25 A26 A27 : Type} (f : A0 → A1 → A2 → A3 → A4 → A5 → A6 → A7 → A8 → A9 → A10 → A11 → A12 → A13 → A14 → A15 → A16 → A17 → A18 → A19 → A20 → A21 → A22 → A23 → A24 → A25 → A26 → A27 → R) (d : A0 × A1 × A2 × A3 × A4 × A5 × A6 × A7 × A8 × A9 × A10 × A11 × A12 × A13 × A14 × A15 × A16 × A17 × A18 × A19 × A20 × A21 × A22 × A23 × A24 × A25 × A26 × A27 × U) : R := u27 (f d.1) d.2
@[reducible] def u29 {R U A0 A1 A2 A3 A4 A5 A6 A7 A8 A9 A10 A11 A12 A13 A14 A15 A16 A17 A18 A19 A20 A21 A22 A23 A24 A25 A26 A27 A28 : Type} (f : A0 → A1 → A2 → A3 → A4 → A5 → A6 → A7 → A8 → A9 → A10 → A11 → A12 → A13 → A14 → A15 → A16 → A17 → A18 → A19 → A20 → A21 → A22 → A23 → A24 → A25 → A26 → A27 → A28 → R) (d : A0 × A1 × A2 × A3 × A4 × A5 × A6 × A7 × A8 × A9 × A10 × A11 × A12 × A13 × A14 × A15 × A16 × A17 × A18 × A19 × A20 × A21 × A22 × A23 × A24 × A25 × A26 × A27 × A28 × U) : R := u28 (f d.1) d.2
@[reducible] def u30 {R U A0 A1 A2 A3 A4 A5 A6 A7 A8 A9 A10 A11 A12 A13 A14 A15 A16 A17 A18 A19 A20 A21 A22 A23 A24 A25 A26 A27 A28 A29 : Type} (f : A0 → A1 → A2 → A3 → A4 → A5 → A6 → A7 → A8 → A9 → A10 → A11 → A12 → A13 → A14 → A15 → A16 → A17 → A18 → A19 → A20 → A21 → A22 → A23 → A24 → A25 → A26 → A27 → A28 → A29 → R) (d : A0 × A1 × A2 × A3 × A4 × A5 × A6 × A7 × A8 × A9 × A10 × A11 × A12 × A13 × A14 × A15 × A16 × A17 × A18 × A19 × A20 × A21 × A22 × A23 × A24 × A25 × A26 × A27 × A28 × A29 × U) : R := u29 (f d.1) d.2
@[reducible] def u31 {R U A0 A1 A2 A3 A4 A5 A6 A7 A8 A9 A10 A11 A12 A13 A14 A15 A16 A17 A18 A19 A20 A21 A22 A23 A24 A25 A26 A27 A28 A29 A30 : Type} (f : A0 → A1 → A2 → A3 → A4 → A5 → A6 → A7 → A8 → A9 → A10 → A11 → A12 → A13 → A14 → A15 → A16 → A17 → A18 → A19 → A20 → A21 → A22 → A23 → A24 → A25 → A26 → A27 → A28 → A29 → A30 → R) (d : A0 × A1 × A2 × A3 × A4 × A5 × A6 × A7 × A8 × A9 × A10 × A11 × A12 × A13 × A14 × A15 × A16 × A17 × A18 × A19 × A20 × A21 × A22 × A23 × A24 × A25 × A26 × A27 × A28 × A29 × A30 × U) : R := u30 (f d.1) d.2
@[reducible] def u32 {R U A0 A1 A2 A3 A4 A5 A6 A7 A8 A9 A10 A11 A12 A13 A14 A15 A16 A17 A18 A19 A20 A21 A22 A23 A24 A25 A26 A27 A28 A29 A30 A31 : Type} (f : A0 → A1 → A2 → A3 → A4 → A5 → A6 → A7 → A8 → A9 → A10 → A11 → A12 → A13 → A14 → A15 → A16 → A17 → A18 → A19 → A20 → A21 → A22 → A23 → A24 → A25 → A26 → A27 → A28 → A29 → A30 → A31 → R) (d : A0 × A1 × A2 × A3 × A4 × A5 × A6 × A7 × A8 × A9 × A10 × A11 × A12 × A13 × A14 × A15 × A16 × A17 × A18 × A19 × A20 × A21 × A22 × A23 × A24 × A25 × A26 × A27 × A28 × A29 × A30 × A31 × U) : R := u31 (f d.1) d.2
structure TL where
  nt : Nat
  ins : List Item
  outs : List Item
  id : Nat
  L : Nat → D (tysI ins []) → Option (D (tysI outs []))
  S : Nat → D (tysI ins []) → Option (D (tysI outs []))
def TL.ann (t : TL) (F : Nat) {ρ : Type} : Ann ρ := annS t.nt t.ins t.outs (t.L F)
def TL.ok (P : Program) (fn : Func) (t : TL) (F : Nat) : Prop := ∀ {ρ : Type} (B : Base) (w : World), AnnAt (ρ := ρ) P false B w (.block t.id (.loop (loopAt (bodyOf fn) t.id))) (t.ann F)
structure TX where
  nt : Nat
  ins : List Item
  outX : List Item
  outs : List Item
  e2 : Exit
  id : Nat
  L : Nat → D (tysI ins []) → Option (D (tysI outX []) ⊕ D (tysI outs []))
  S : Nat → D (tysI ins []) → Option (D (tysI outX []) ⊕ D (tysI outs []))
def TX.ann (t : TX) (F : Nat) {ρ : Type} : Ann ρ := annX t.nt t.ins t.outX t.outs t.e2 (t.L F)
def TX.ok (P : Program) (fn : Func) (t : TX) (F : Nat) : Prop := ∀ {ρ : Type} (B : Base) (w : World), AnnAt (ρ := ρ) P false B w (.block t.id (.loop (loopAt (bodyOf fn) t.id))) (t.ann F)
theorem aN {ρ : Type} {P : Program} {c : Code} : AnnsOk (ρ := ρ) P c [] := annsOk_nil P c
theorem aL {ρ : Type} {P : Program} {fn : Func} {c : Code} {t : TL} {F : Nat} {l : List (Nat × Ann ρ)} (hb : blocksAt c t.id = [.loop (loopAt (bodyOf fn) t.id)]) (h : t.ok P fn F) (hl : AnnsOk P c l) : AnnsOk P c ((t.id, t.ann F) :: l) :=
  annsOk_cons hb (fun B w => h B w) hl
theorem aX {ρ : Type} {P : Program} {fn : Func} {c : Code} {t : TX} {F : Nat} {l : List (Nat × Ann ρ)} (hb : blocksAt c t.id = [.loop (loopAt (bodyOf fn) t.id)]) (h : t.ok P fn F) (hl : AnnsOk P c l) : AnnsOk P c ((t.id, t.ann F) :: l) :=
  annsOk_cons hb (fun B w => h B w) hl
theorem okF {P : Program} (hP : Callable P) {l : List ToldF} (hl : AllOk P l) {fn : Func} {t : ToldF} (anns : List (Nat × Ann (D (tysO t.os)))) (hf : P.funcs[t.f]? = some fn) (ha : AnnsOk P (bodyOf fn) anns)
    (h : ∀ d, evBody P (calT P l _) (qcalT l _) (annOf anns) t.f (bldS t.n t.ins d).tmps (bldS t.n t.ins d).heap (endO t.os) = t.F d) : t.ok P :=
  toldF_ok hP hl hf ha h
theorem okL {P : Program} (hP : Callable P) {l : List ToldF} (hl : AllOk P l) {fn : Func} {t : TL} {F : Nat} (anns : List (Nat × Ann (D (tysI t.outs [])))) (ha : AnnsOk P (loopAt (bodyOf fn) t.id) anns)
    (h0 : ∀ d, t.L 0 d = none) (h1 : ∀ k d, t.S k d = t.L (k + 1) d)
    (hs : ∀ k d, evCode P (calT P l _) (qcalT l _) (annOf anns) (loopAt (bodyOf fn) t.id) (bldS t.nt t.ins d) (kS t.nt t.ins t.outs t.id (t.L k)) = t.S k d) : t.ok P fn F := by
  intro ρ B w
  exact toldS_ok hP hl ha h0 (fun k d => (hs k d).trans (h1 k d)) F B w
theorem okX {P : Program} (hP : Callable P) {l : List ToldF} (hl : AllOk P l) {fn : Func} {t : TX} {F : Nat} (anns : List (Nat × Ann (D (tysI t.outX []) ⊕ D (tysI t.outs [])))) (ha : AnnsOk P (loopAt (bodyOf fn) t.id) anns)
    (h0 : ∀ d, t.L 0 d = none) (h1 : ∀ k d, t.S k d = t.L (k + 1) d) (he : t.e2 = .ret ∨ ∃ j, t.e2 = .exit j ∧ j ≠ t.id)
    (hs : ∀ k d, evCode P (calT P l _) (qcalT l _) (annOf anns) (loopAt (bodyOf fn) t.id) (bldS t.nt t.ins d) (kX t.nt t.ins t.outX t.outs t.id t.e2 (t.L k)) = t.S k d) : t.ok P fn F := by
  intro ρ B w
  exact toldX_ok hP hl ha h0 (fun k d => (hs k d).trans (h1 k d)) he F B w
theorem eR {e : Exit} {id : Nat} (h : e = .ret) : e = .ret ∨ ∃ j, e = .exit j ∧ j ≠ id := .inl h
end Go.AE
set_option linter.unusedVariables false
set_option linter.unusedSimpArgs false
namespace Go.AE
open Go Go.RowKit
theorem law_told {P : Program} {t : ToldF} (h : t.ok P) (ho : t.os = [.ty .bool]) {d : D (tysI t.ins [])} (hd : t.F d = some (ho ▸ (true, ()))) {M : List Place} {w : World} {vs : Array Value}
    (hl : RelL M (bldS t.n t.ins d).tmps vs.toList) (hH : RelH M (bldS t.n t.ins d).heap (Base.at w.heap.size) w) : Calls P t.f vs w fun e w' => e = .returned (.bool true) ∧ Below w.heap.size w w' := by
  obtain ⟨f, n, ins, os, F⟩ := t
  dsimp only at ho hd hl hH
  subst ho
  refine (h d _ hd M _ w vs hl hH).mono ?_
  rintro e w' ⟨rs, rfl, hb, N, Fz, _, _, _, _, _, hav, _⟩
  have hr := hav []
  obtain ⟨v, vs', hv, hx, hn⟩ := RelL_cons.1 hr
  have hn : vs' = [] := by simpa [avsO, RelL_nil] using hn
  subst hn
  refine ⟨?_, hb.below⟩
  have e1 := (relV_bool (x := true) (l := none) hx).1
  have h1 : rs = #[.bool true] := by
    apply Array.toList_inj.1
    rw [hv, e1]
  subst h1
  rfl
end Go.AE
set_option linter.unusedVariables false
set_option linter.unusedSimpArgs false
namespace Go.AE
open Go Go.RowKit
theorem run_slice_nil {P : Program} {ρ : Operand → Value} {o : Oper} {t t' : TypeId} {e : TypeId} {x : Operand} (ho : o.op = .binOp .eql t x (.const (.slice none 0 0)) t') {A : Option Addr} {len cap : Nat} (hx : ρ x = .slice A len cap) (hy : ρ (.const (.slice none 0 0)) = .slice none 0 0) (hu : P.underlying t = some (.slice e)) (w : World) :
    (execOp ρ o).run P w = .ok (.value (.bool A.isNone)) w := by
  have h : (Op.equalIn Op.maxDepth t (.slice A len cap) (.slice none 0 0)).run P w = .ok A.isNone w := by
    rw [show Op.maxDepth = (Op.maxDepth - 1) + 1 from rfl]
    simp only [Op.equalIn, Sem.run_bind, run_underlying hu, Result.andThen_ok]
    cases A <;> rfl
  simp [execOp, ho, hx, hy, eqGuard, binOp, Op.equal, h]
theorem wp_to {P : Program} (hP : Callable P) {cal : Cal St} (hcal : ∀ f, CalAt P f (cal f)) {qcal : QCal St} (hq : ∀ f, QCalAt P f (qcal f)) {c : Code} {st st' : St} (h : evCode P cal qcal (fun _ => none) c st (fun e s => match e with | .normal => some s | _ => none) = some st')
    {M : List Place} {B : Base} {w0 : World} {a : Go.Act} {w : World} (hr : Rel M st B w0 a w) {Q : Exit → Go.Act → World → Prop} (hn : ∀ M' a' w', Rel M' st' B w0 a' w' → Q .normal a' w') : c.wp P Q a w := by
  refine evCode_sound hP hcal hq c (fun _ _ _ h => by cases h) st _ h M a w Q hr fun e M' s a' w' (_ : ExtO true M M') hk hr' => ?_
  cases e <;> simp only [reduceCtorEq] at hk
  cases hk
  exact hn M' a' w' hr'
def cloneF (sz : Nat) (l : List Int) : Option (List Int × Unit) :=
  cond (decide (0 + div1 l.length sz ≤ 1099511627776) && (if false = true then decide (0 < div1 l.length sz) else true)) (some (l, ())) none
abbrev k0 : Exit → St → Option St := fun e s => match e with | .normal => some s | _ => none
theorem clone_spec {P : Program} (hP : Callable P) {f : FuncId} {fn : Func} (hf : P.funcs[f]? = some fn) {k : IntKind} {sz : Nat} {R0 X REST : Code} {i1 : Nat} {o3 o4 : Oper} {t t' e : TypeId}
    (hb : fn.body = some (.seq R0 (.seq (.seq (.region i1 #[o3, o4] false) (.cond (.tmp 4) X .skip)) REST)))
    (ho4 : o4.op = .binOp .eql t (.tmp 3) (.const (.slice none 0 0)) t') (hd4 : o4.dst = some 4) (hg4 : o4.guard = none) (hg3 : o3.guard = none) (hu : P.underlying t = some (.slice e))
    (st1 st2 : List Int → St)
    (h0 : ∀ l, evCode P (evFn P (emptyEnv St) 1) (qof (emptyEnv St)) (fun _ => none) R0 ⟨[.sl 1 0 (div1 (List.length (α := Int) l) sz) sz .whole] ++ List.replicate (fn.ntmps - 1) .undef, [none, some ⟨.row k l, false, none⟩]⟩ k0 = some (st1 l))
    (h3 : ∀ l, evExec P (evFn P (emptyEnv St) 1) o3 (st1 l) some = some (st2 l))
    (hs3 : ∀ l, (st2 l).tmps.getD 3 .undef = .sl 1 0 (div1 (List.length (α := Int) l) sz) sz .whole ∧ (st2 l).heap = [none, some ⟨.row k l, false, none⟩])
    (hlen : ∀ l, 4 < (st2 l).tmps.length)
    (hX : ∀ l, evCode P (evFn P (emptyEnv (D (tysO [.row k sz]))) 1) (qof (emptyEnv _)) (fun _ => none) X ((st2 l).put (some 4) (.bool (some true) true)) (fun e st => match e with
      | .ret => (match aresL P st fn.results.toList with | some l => endO [.row k sz] l st.heap | none => none) | _ => none) = some ([], ()))
    (hR : ∀ l, evCode P (evFn P (emptyEnv (D (tysO [.row k sz]))) 1) (qof (emptyEnv _)) (fun _ => none) REST ((st2 l).put (some 4) (.bool (some false) false)) (fun e st => match e with
      | .ret => (match aresL P st fn.results.toList with | some l => endO [.row k sz] l st.heap | none => none) | _ => none) = cloneF sz l) :
    FnSpec P f 1 [.row k sz (.slot 0) false] [.row k sz] (fun d => cloneF sz d.1) := by
  rintro ⟨l, ⟨⟩⟩ r hF M B w vs hl hH
  have hF : cloneF sz l = some r := hF
  have hl : RelL M [.sl 1 0 (div1 l.length sz) sz .whole] vs.toList := hl
  have hH : RelH M [none, some ⟨.row k l, false, none⟩] B w := hH
  have hs := relL_size hl
  simp at hs
  refine calls_of_wp hf hb ?_
  have e0 := emptyEnv_ok P St
  have e1 := emptyEnv_ok P (D (tysO [Out.row k sz]))
  have hr0 : Rel M ⟨[.sl 1 0 (div1 l.length sz) sz .whole] ++ List.replicate (fn.ntmps - 1) .undef, [none, some ⟨.row k l, false, none⟩]⟩ B w { tmps := vs ++ Array.replicate (fn.ntmps - vs.size) undef, defers := [] } w :=
    ⟨by rw [← hs]; exact relT_args hl _, rfl, hH, Beneath.refl _ _⟩
  refine wp_seq (wp_to hP (evFn_ok hP e0 1) (qof_ok e0) (h0 l) hr0 fun M1 a1 w1 hr1 => ?_)
  refine wp_seq (wp_seq (wp_region_list ?_))
  show wpList P #[o3, o4] _ [o3, o4] a1 w1
  unfold wpList
  rw [if_pos (by simp [Region.wanted, hg3])]
  refine .inl (evExec_sound hP (evFn_ok hP e0 1) (h3 l) hr1 fun M2 st a2 w2 hE hk hr2 => ?_)
  cases hk
  unfold wpList
  rw [if_pos (by simp [Region.wanted, hg4])]
  refine .inl ?_
  obtain ⟨hs1, hs2⟩ := hs3 l
  have hv3 := hr2.tmps.2 3
  rw [hs1] at hv3
  have hv3' := hv3
  simp only [RelV, RelX] at hv3
  obtain ⟨pl, A, cap, hpl, hv, hn, hcap, hnil, hnn, _⟩ := hv3
  have hv : a2.tmps.getD 3 undef = .slice A (div1 l.length sz) cap := by simpa using hv
  have hrun := run_slice_nil (ρ := a2.eval) ho4 (by simpa [Go.Act.eval] using hv) (by simp [Go.Act.eval]) hu w2
  unfold Oper.wp
  rw [hrun, Oper.upon_value, hd4]
  unfold wpList
  have hrb : ∀ b, A.isNone = b → Rel M2 ((st2 l).put (some 4) (.bool (some b) b)) B w (a2.put (some 4) (.bool A.isNone)) w2 := by
    intro b hb
    rw [hb]
    exact hr2.put (by simp [RelV, RelX]) (some 4)
  have fin : ∀ {c : Code} {b : Bool} {Q : Exit → Go.Act → World → Prop}, A.isNone = b → evCode P (evFn P (emptyEnv (D (tysO [.row k sz]))) 1) (qof (emptyEnv _)) (fun _ => none) c ((st2 l).put (some 4) (.bool (some b) b)) (fun e st => match e with
      | .ret => (match aresL P st fn.results.toList with | some l => endO [.row k sz] l st.heap | none => none) | _ => none) = some r →
      (∀ a' w', (a'.defers = [] ∧ ∃ v, (results fn a'.tmps).run P w' = .ok v w' ∧ ∃ rs : Array Value, Ending.returned v = .returned (retV rs) ∧ Beneath B w w' ∧ RelOut B w' [.row k sz] r rs.toList) → Q .ret a' w') →
      c.wp P Q (a2.put (some 4) (.bool A.isNone)) w2 := by
    intro c b Q hb hev hQ
    refine evCode_sound hP (evFn_ok hP e1 1) (qof_ok e1) c (fun _ _ _ h => by cases h) _ _ hev M2 _ w2 _ (hrb b hb) fun e M3 st3 a3 w3 (_ : ExtO true M2 M3) hk hr3 => ?_
    cases e <;> simp only [reduceCtorEq] at hk
    split at hk
    · rename_i l3 hres
      obtain ⟨rs, g1, g2⟩ := results_run hr3.tmps hr3.heap hres
      exact hQ _ _ ⟨hr3.defers, _, g2, rs, rfl, hr3.below, relOut_of hr3.heap hk g1⟩
    · cases hk
  have ev4 : (a2.put (some 4) (.bool A.isNone)).eval (.tmp 4) = .bool A.isNone := by
    have h4 : 4 < a2.tmps.size := by rw [← hr2.tmps.1]; exact hlen l
    simp [Go.Act.eval, Go.Act.put, h4]
  cases hA : A.isNone with
  | true =>
    rw [hA] at ev4 fin
    refine wp_cond_true ev4 (fin rfl ?_ fun a' w' h => h)
    have hpn : pl.nil = true := by
      cases hp : pl.nil with
      | true => rfl
      | false => exact absurd (Option.isNone_iff_eq_none.1 hA) (hnn hp).1
    have hl0 : l = [] := by
      obtain ⟨p0, hp0, hok⟩ := hr2.heap.obj 1 ⟨.row k l, false, none⟩ (by rw [hs2]; rfl)
      rw [hpl] at hp0
      cases hp0
      rcases hok with ⟨_, hn0, hro⟩ | ⟨h, _⟩
      · simp only [RelO] at hro
        have := congrArg List.length hro.1
        exact List.length_eq_zero_iff.1 (by simpa using this.symm)
      · rw [hpn] at h; cases h
    subst hl0
    have : r = ([], ()) := by simpa [cloneF, div1_eq] using hF.symm
    subst this
    exact hX []
  | false =>
    rw [hA] at ev4 fin
    refine wp_cond_false ev4 (wp_skip ?_)
    show Code.wp P REST _ _ _
    refine fin rfl ?_ fun a' w' h => h
    rw [hR]
    exact hF
def cloneR0 (c : Code) : Code := match c with | .seq a _ => a | _ => .skip
def cloneX (c : Code) : Code := match c with | .seq _ (.seq (.seq _ (.cond _ x _)) _) => x | _ => .skip
def cloneRest (c : Code) : Code := match c with | .seq _ (.seq _ y) => y | _ => .skip
def cloneOps (c : Code) : List Oper := match c with | .seq _ (.seq (.seq (.region _ ops _) _) _) => ops.toList | _ => []
def nopOper : Oper := ⟨none, .assign (.tmp 0), 0, "", #[], none⟩
def cloneO3 (c : Code) : Oper := match cloneOps c with | [a, _] => a | _ => nopOper
def cloneO4 (c : Code) : Oper := match cloneOps c with | [_, b] => b | _ => nopOper
def cloneS1 (sz : Nat) (k : IntKind) (l : List Int) : St := ⟨[.sl 1 0 (div1 l.length sz) sz .whole, .undef, .nils, .undef, .undef, .undef, .undef, .undef], [none, some ⟨.row k l, false, none⟩]⟩
def cloneS2 (sz : Nat) (k : IntKind) (l : List Int) : St := ⟨[.sl 1 0 (div1 l.length sz) sz .whole, .undef, .nils, .sl 1 0 (div1 l.length sz) sz .whole, .undef, .undef, .undef, .undef], [none, some ⟨.row k l, false, none⟩]⟩
end Go.AE
set_option linter.unusedVariables false
set_option linter.unusedSimpArgs false
namespace Go.AE
open Go Go.RowKit
def isIntT (P : Program) (k : IntKind) (u : TypeId) : Bool := match P.underlying u with
  | some (.int k') => k' == k
  | _ => false
def isBoolT (P : Program) (u : TypeId) : Bool := match P.underlying u with
  | some .bool => true
  | _ => false
def ctyOk (P : Program) : List CTy → List TypeId → Bool
  | [], [] => true
  | .int k :: r, u :: us => isIntT P k u && ctyOk P r us
  | .bool :: r, u :: us => isBoolT P u && ctyOk P r us
  | .is k n :: r, us => decide (n ≤ us.length) && ((us.take n).all (isIntT P k) && ctyOk P r (us.drop n))
  | _, _ => false
def wfC : (cs : List CTy) → DC cs → Prop
  | [], _ => True
  | .int k :: r, d => k.has d.1 ∧ wfC r d.2
  | .bool :: r, d => wfC r d.2
  | .is k n :: r, d => (List.length (α := Int) d.1 = n ∧ ∀ x ∈ (d.1 : List Int), k.has x) ∧ wfC r d.2
  | _ :: _, _ => False
theorem okWide_intT {P : Program} {w : World} {r : Reach} {base : Nat} {k : IntKind} {u : TypeId} {v : Value} (ht : isIntT P k u = true) (h : Cell.okWide P w r base u v) : ∃ x, v = .int k x ∧ k.has x := by
  unfold isIntT at ht
  split at ht
  · rename_i k' hu
    have hk : k' = k := by simpa using ht
    subst hk
    unfold Cell.okWide at h
    rw [hu] at h
    unfold Cell.ok at h
    rw [hu] at h
    cases v <;> simp at h
    obtain ⟨rfl, h⟩ := h
    exact ⟨_, rfl, h⟩
  · cases ht
theorem okWide_boolT {P : Program} {w : World} {r : Reach} {base : Nat} {u : TypeId} {v : Value} (ht : isBoolT P u = true) (h : Cell.okWide P w r base u v) : ∃ x, v = .bool x := by
  unfold isBoolT at ht
  split at ht
  · rename_i hu
    unfold Cell.okWide at h
    rw [hu] at h
    unfold Cell.ok at h
    rw [hu] at h
    cases v <;> simp at h
    exact ⟨_, rfl⟩
  · cases ht
theorem ints_of {P : Program} {w : World} {r : Reach} {base : Nat} {k : IntKind} : ∀ {us : List TypeId} {vs : List Value}, us.all (isIntT P k) = true → vs.length = us.length → (∀ (i : Nat) v, vs[i]? = some v → ∃ u, us[i]? = some u ∧ Cell.okWide P w r base u v) →
    ∃ l : List Int, vs = l.map (.int k) ∧ l.length = us.length ∧ ∀ x ∈ l, k.has x
  | [], vs, _, hl, _ => ⟨[], by simpa using hl, rfl, by simp⟩
  | u :: us, [], _, hl, _ => by simp at hl
  | u :: us, v :: vs, ha, hl, h => by
    simp only [List.all_cons, Bool.and_eq_true] at ha
    obtain ⟨l, e, h1, h2⟩ := ints_of (us := us) (vs := vs) ha.2 (by simpa using hl) fun i v hv => by simpa using h (i + 1) v (by simpa using hv)
    obtain ⟨u', hu', hc⟩ := h 0 v rfl
    simp at hu'
    subst hu'
    obtain ⟨x, rfl, hx⟩ := okWide_intT ha.1 hc
    refine ⟨x :: l, by rw [e]; rfl, by simp [h1], fun y hy => ?_⟩
    rcases List.mem_cons.1 hy with rfl | hy
    · exact hx
    · exact h2 y hy
theorem cells_of {P : Program} {w : World} {r : Reach} {base : Nat} : ∀ {cs : List CTy} {us : List TypeId} {vs : List Value}, ctyOk P cs us = true → vs.length = us.length → (∀ (i : Nat) v, vs[i]? = some v → ∃ u, us[i]? = some u ∧ Cell.okWide P w r base u v) →
    ∃ d : DC cs, wfC cs d ∧ ∀ M, RelC M (mkCs cs d) vs
  | [], [], vs, _, hl, _ => ⟨(), trivial, fun M => RelC_nil.2 (by simpa using hl)⟩
  | [], _ :: _, vs, hc, _, _ => by simp [ctyOk] at hc
  | .int k :: cs, [], vs, hc, _, _ => by simp [ctyOk] at hc
  | .bool :: cs, [], vs, hc, _, _ => by simp [ctyOk] at hc
  | .int k :: cs, u :: us, [], _, hl, _ => by simp at hl
  | .bool :: cs, u :: us, [], _, hl, _ => by simp at hl
  | .int k :: cs, u :: us, v :: vs, hc, hl, h => by
    simp only [ctyOk, Bool.and_eq_true] at hc
    obtain ⟨d, h1, h2⟩ := cells_of (us := us) (vs := vs) hc.2 (by simpa using hl) fun i v hv => by simpa using h (i + 1) v (by simpa using hv)
    obtain ⟨u', hu', hw⟩ := h 0 v rfl
    simp at hu'
    subst hu'
    obtain ⟨x, rfl, hx⟩ := okWide_intT hc.1 hw
    exact ⟨(x, d), ⟨hx, h1⟩, fun M => RelC_cons.2 ⟨[.int k x], vs, rfl, RelX_int.2 ⟨rfl, hx, fun m hm => by cases hm⟩, h2 M⟩⟩
  | .bool :: cs, u :: us, v :: vs, hc, hl, h => by
    simp only [ctyOk, Bool.and_eq_true] at hc
    obtain ⟨d, h1, h2⟩ := cells_of (us := us) (vs := vs) hc.2 (by simpa using hl) fun i v hv => by simpa using h (i + 1) v (by simpa using hv)
    obtain ⟨u', hu', hw⟩ := h 0 v rfl
    simp at hu'
    subst hu'
    obtain ⟨x, rfl⟩ := okWide_boolT hc.1 hw
    exact ⟨(x, d), h1, fun M => RelC_cons.2 ⟨[.bool x], vs, rfl, by simp [mk1, RelX], h2 M⟩⟩
  | .str :: cs, us, vs, hc, _, _ => by simp [ctyOk] at hc
  | .fsl _ _ :: cs, us, vs, hc, _, _ => by simp [ctyOk] at hc
  | .dsl _ :: cs, us, vs, hc, _, _ => by simp [ctyOk] at hc
  | .is k n :: cs, us, vs, hc, hl, h => by
    simp only [ctyOk, Bool.and_eq_true, decide_eq_true_eq] at hc
    obtain ⟨hn, ha, hc⟩ := hc
    obtain ⟨d, h1, h2⟩ := cells_of (us := us.drop n) (vs := vs.drop n) hc (by simp [hl]) fun i v hv => by
      rw [List.getElem?_drop] at hv ⊢
      exact h (n + i) v hv
    obtain ⟨l, e, g1, g2⟩ := ints_of (us := us.take n) (vs := vs.take n) (w := w) (r := r) (base := base) ha (by simp [hl]) fun i v hv => by
      rw [List.getElem?_take] at hv ⊢
      split at hv
      · rename_i hi
        rw [if_pos hi]
        exact h i v hv
      · cases hv
    have hln : l.length = n := by simp at g1; omega
    exact ⟨(l, d), ⟨⟨hln, g2⟩, h1⟩, fun M => RelC_cons.2 ⟨vs.take n, vs.drop n, by simp, RelX_is.2 ⟨hln, e, g2⟩, h2 M⟩⟩
theorem agg_of {P : Program} {w : World} {r : Reach} {base : Nat} {t : TypeId} {v : Value} {cs : List CTy} {us : List TypeId} (hu : (match P.underlying t with | some (.struct _) | some (.array _ _) => true | _ => false) = true)
    (ht : P.cellTypes P.depth t = some us) (hn : P.cellsOf t = us.length) (hc : ctyOk P cs us = true) (h : Value.okWide P w r base t v) : ∃ d : DC cs, wfC cs d ∧ ∀ M, RelV M (.agg (mkCs cs d)) v := by
  have h' : ∃ xs : Array Value, v = .agg xs ∧ xs.size = P.cellsOf t ∧ Row.okWide P w r base t xs := by
    unfold Value.okWide at h
    split at hu
    · rename_i hq; rw [hq] at h; exact h
    · rename_i hq; rw [hq] at h; exact h
    · cases hu
  obtain ⟨xs, rfl, hsz, ts, hts, _, hrow⟩ := h'
  rw [ht] at hts
  cases hts
  obtain ⟨d, h1, h2⟩ := cells_of (vs := xs.toList) (w := w) (r := r) (base := base) hc (by simp; omega) fun i v hv => by
    have hi : i < us.length := by
      have := (List.getElem?_eq_some_iff.1 hv).1
      simp at this
      omega
    obtain ⟨u, hu', hw⟩ := hrow i v (by simpa using hv)
    rw [Nat.mod_eq_of_lt hi] at hu'
    exact ⟨u, hu', hw⟩
  exact ⟨d, h1, fun M => RelX_agg.2 ⟨xs, rfl, h2 M⟩⟩
theorem relL_str {M : List Place} {x : ByteArray} (h : x.size ≤ maxLen) {l : List AV} {vs : List Value} (r : RelL M l vs) : RelL M (.str (bytesL x) :: l) (.string x :: vs) :=
  RelL_cons.2 ⟨_, _, rfl, by
    simp only [RelX]
    refine ⟨by rw [mkS_bytesL], bytesL_has x, ?_⟩
    have e : (bytesL x).length = x.size := by
      unfold bytesL
      rw [List.length_map, Array.length_toList]
      rfl
    have h2 : x.size ≤ 9223372036854775807 := h
    rw [e, has_iff]
    simp only [loB, hiB]
    omega, r⟩
end Go.AE
set_option linter.unusedVariables false
set_option linter.unusedSimpArgs false
namespace Go.AE
open Go Go.RowKit
open Go.MapKept (Stamped stamped_push stamped_empty stamped_iff)
open Go.ChangeMaps (setBlock)
def MapAt (w : World) (b : Nat) (T : List (Value × Value)) : Prop :=
  ∃ es clock, w.heap[b]? = some (.map es clock) ∧ Stamped es clock ∧ (es.toList.map fun e => (e.key, e.val)).Perm T
theorem MapAt.perm {w : World} {b : Nat} {T T' : List (Value × Value)} (h : MapAt w b T) (hp : T.Perm T') : MapAt w b T' := by
  obtain ⟨es, clock, h1, h2, h3⟩ := h
  exact ⟨es, clock, h1, h2, h3.trans hp⟩
theorem MapAt.made (w : World) : MapAt (w.alloc (.map #[] 0)) w.heap.size [] :=
  ⟨#[], 0, (MapKept.heap_alloc w _).1, stamped_empty 0, .nil⟩
theorem heap_set_same {w : World} {b : Nat} {o o' : Obj} (h : w.heap[b]? = some o) : (setBlock w b o').heap[b]? = some o' := by
  have := (Array.getElem?_eq_some_iff.1 h).1
  simp [setBlock, this]
theorem heap_set_other {w : World} {b i : Nat} {o' : Obj} (h : i ≠ b) : (setBlock w b o').heap[i]? = w.heap[i]? := by
  simp [setBlock, Array.getElem?_setIfInBounds_ne (Ne.symm h)]
theorem MapAt.ins {P : Program} {k t e : TypeId} (K : Maps.Keyed P k) (ht : P.underlying t = some (.map k e)) {w : World} {b : Nat} {T : List (Value × Value)} (h : MapAt w b T) (hT : ∀ p ∈ T, ∃ l, keyOf P k p.1 = some l) {key val : Value}
    (hkey : ∃ l, keyOf P k key = some l) (hne : ∀ p ∈ T, p.1 ≠ key) : ∃ w', (Instr.mapUpdate t (.map (some b)) key val).run P w = .ok () w' ∧ MapAt w' b ((key, val) :: T) ∧ w.grownBy w' (some b) := by
  obtain ⟨es, clock, hb, hst, hp⟩ := h
  obtain ⟨kl, hkey⟩ := hkey
  have mem : ∀ x ∈ es.toList, (x.key, x.val) ∈ T := fun x hx => hp.mem_iff.1 (List.mem_map.2 ⟨x, hx, rfl⟩)
  have hn : ∀ x ∈ es.toList, x.key ≠ key := fun x hx => hne _ (mem x hx)
  rcases K.find w hkey es.toList (fun x hx => hT _ (mem x hx)) with ⟨h1, _⟩ | ⟨j, e0, _, h2, h3⟩
  · refine ⟨setBlock w b (.map (es.push ⟨key, val, clock⟩) (clock + 1)), ?_, ⟨_, _, heap_set_same hb, stamped_push hst hn, ?_⟩, ⟨rfl, rfl, rfl, by simp [setBlock], fun i _ hi => heap_set_other fun e => hi (by rw [e])⟩⟩
    · simp [Instr.mapUpdate, run_underlying ht, MapKept.run_getObj_map hb, K.check w false hkey, h1, MapKept.run_setObj_map _ hb, Result.andThen, setBlock]
    · rw [Array.toList_push, List.map_append, List.map_singleton]
      exact (List.perm_append_singleton _ _).trans (hp.cons _)
  · exact absurd h3 (hn e0 (List.mem_of_getElem? h2))
theorem MapAt.look {P : Program} {k t e : TypeId} (K : Maps.Keyed P k) (ht : P.underlying t = some (.map k e)) {w : World} {b : Nat} {T : List (Value × Value)} (h : MapAt w b T) (hT : ∀ p ∈ T, ∃ l, keyOf P k p.1 = some l) {key z : Value}
    (hkey : ∃ l, keyOf P k key = some l) (hz : (zeroValue e).run P w = .ok z w) : (∃ x, (key, x) ∈ T ∧ (Instr.lookup t (.map (some b)) key true).run P w = .ok (.tuple #[x, .bool true]) w) ∨
      ((∀ p ∈ T, p.1 ≠ key) ∧ (Instr.lookup t (.map (some b)) key true).run P w = .ok (.tuple #[z, .bool false]) w) := by
  obtain ⟨es, clock, hb, hst, hp⟩ := h
  obtain ⟨kl, hkey⟩ := hkey
  have mem : ∀ x ∈ es.toList, (x.key, x.val) ∈ T := fun x hx => hp.mem_iff.1 (List.mem_map.2 ⟨x, hx, rfl⟩)
  rcases K.find w hkey es.toList (fun x hx => hT _ (mem x hx)) with ⟨h1, h2⟩ | ⟨j, e0, h1, h2, h3⟩
  · refine .inr ⟨fun p hpT => ?_, by simp [Instr.lookup, run_underlying ht, MapKept.run_getObj_map hb, K.check w _ hkey, h1, hz, Result.andThen]⟩
    obtain ⟨x, hx, rfl⟩ := List.mem_map.1 (hp.mem_iff.2 hpT)
    exact h2 x hx
  · refine .inl ⟨e0.val, ?_, by simp [Instr.lookup, run_underlying ht, MapKept.run_getObj_map hb, K.check w _ hkey, h1, Result.andThen]⟩
    have := mem e0 (List.mem_of_getElem? h2)
    rwa [h3] at this
theorem MapAt.kept {w w' : World} {n b : Nat} {T : List (Value × Value)} (h : MapAt w b T) (hb : Below n w w') (hn : b < n) : MapAt w' b T := by
  obtain ⟨es, clock, h1, h2, h3⟩ := h
  exact ⟨es, clock, (hb.block b hn).trans h1, h2, h3⟩
theorem Below.ofGrown {w w' : World} {n : Nat} {r : Option Nat} (h : w.grownBy w' r) (hn : n ≤ w.heap.size) (hr : ∀ b, r = some b → n ≤ b) : Below n w w' :=
  ⟨h.os, h.tape, h.output, h.size, fun i hi => h.block i (Nat.lt_of_lt_of_le hi hn) fun e => by have := hr i e.symm; omega⟩
theorem Below.alloc (w : World) (o : Obj) {n : Nat} (hn : n ≤ w.heap.size) : Below n w (w.alloc o) :=
  ⟨rfl, rfl, rfl, by simp, fun k hk => (MapKept.heap_alloc w o).2 k (Nat.lt_of_lt_of_le hk hn)⟩
theorem setAll_get : ∀ (l : List Nat) (L : Array Bool) (i : Nat), (setAll l L)[i]? = if i ∈ l then L[i]?.map (fun _ => true) else L[i]?
  | [], L, i => by simp [setAll]
  | j :: l, L, i => by
    show (setAll l (L.setIfInBounds j true))[i]? = _
    rw [setAll_get l, Array.getElem?_setIfInBounds]
    by_cases hj : j = i
    · subst hj
      simp only [List.mem_cons, true_or, if_true]
      by_cases hs : j < L.size
      · simp [hs]
      · simp [hs]
    · have hj' : ¬ i = j := fun e => hj e.symm
      simp [hj, hj', List.mem_cons]
theorem setAll_congr {l l' : List Nat} (h : ∀ i, i ∈ l ↔ i ∈ l') (L : Array Bool) : setAll l L = setAll l' L := by
  apply Array.ext_getElem?
  intro i
  rw [setAll_get, setAll_get]
  by_cases hi : i ∈ l
  · rw [if_pos hi, if_pos ((h i).1 hi)]
  · rw [if_neg hi, if_neg fun q => hi ((h i).2 q)]
theorem setAll_cons (i : Nat) (l : List Nat) (L : Array Bool) : (setAll l L).setIfInBounds i true = setAll (i :: l) L := by
  apply Array.ext_getElem?
  intro j
  rw [Array.getElem?_setIfInBounds, setAll_get, setAll_get]
  by_cases hij : i = j
  · subst hij
    simp only [List.mem_cons, true_or, if_true]
    have hsz : ∀ (l : List Nat) (L : Array Bool), (setAll l L).size = L.size := by
      intro l
      induction l with
      | nil => intro L; rfl
      | cons a l ih => intro L; show (setAll l (L.setIfInBounds a true)).size = _; rw [ih]; simp
    rw [hsz]
    by_cases hs : i < L.size <;> simp [hs]
  · have hj' : ¬ j = i := fun e => hij e.symm
    simp [hij, hj', List.mem_cons]
def insOf (a : Go.Act) (b : Nat) (o : Oper) : Option (TypeId × Nat × Value × Value) := match o.op with
  | .insert t m x v => match a.eval m with
    | .map (some b') => some (t, b', a.eval x, a.eval v)
    | _ => none
  | _ => none
def insReady (ops : Array Oper) (L : Array Bool) (S : List Nat) : Bool :=
  ((List.range ops.size).all fun i => L.getD i true || S.contains i || match ops[i]? with
    | some o => S.all fun s => o.after.any fun e => Region.binds .any e && e.on == s
    | none => true) &&
  S.all fun i => !L.getD i true && match ops[i]? with
    | some o => o.guard.isNone && o.dst.isNone && o.after.all fun e => !Region.binds .any e || L.getD e.on false
    | none => false
theorem sub_perm : ∀ {l l' : List Nat}, l.Nodup → (∀ x ∈ l, x ∈ l') → ∃ r, l'.Perm (l ++ r)
  | [], l', _, _ => ⟨l', .refl _⟩
  | x :: l, l', hn, h => by
    obtain ⟨hx, hn⟩ := List.nodup_cons.1 hn
    have h1 := List.perm_cons_erase (h x (by simp))
    obtain ⟨r, h2⟩ := sub_perm (l' := l'.erase x) hn fun y hy => (List.mem_erase_of_ne (by rintro rfl; exact hx hy)).2 (h y (by simp [hy]))
    exact ⟨r, h1.trans (h2.cons x)⟩
theorem sub_len {l l' : List Nat} (hn : l.Nodup) (h : ∀ x ∈ l, x ∈ l') : l.length ≤ l'.length := by
  obtain ⟨r, hp⟩ := sub_perm hn h
  have := hp.length_eq
  simp at this
  omega
theorem sub_eq {l l' : List Nat} (hn : l.Nodup) (h : ∀ x ∈ l, x ∈ l') (hl : l.length = l'.length) : l.Perm l' := by
  obtain ⟨r, hp⟩ := sub_perm hn h
  have := hp.length_eq
  simp at this
  have : r = [] := List.length_eq_zero_iff.1 (by omega)
  subst this
  simpa using hp.symm
theorem wpAny_ins {P : Program} {ops : Array Oper} {Q : Exit → Go.Act → World → Prop} {S : List Nat} {L : Array Bool} {ent : Nat → Value × Value} {a : Go.Act} {w0 : World} {b n0 f : Nat} {k t e : TypeId}
    (K : Maps.Keyed P k) (ht : P.underlying t = some (.map k e)) (hnd : S.Nodup) (hr : insReady ops L S = true)
    (hop : S.map (fun i => (ops[i]?).bind (insOf a b)) = S.map fun i => some (t, b, (ent i).1, (ent i).2))
    (hkey : ∀ i ∈ S, ∃ l, keyOf P k (ent i).1 = some l) (hne : ∀ i ∈ S, ∀ j ∈ S, i ≠ j → (ent i).1 ≠ (ent j).1) (hb : n0 ≤ b)
    (hfin : ∀ w, MapAt w b (S.map ent) → Below n0 w0 w → wpAny P .any ops Q f (setAll S L) a w) :
    ∀ (m : Nat) (done : List Nat) (w : World), (∀ i ∈ done, i ∈ S) → done.Nodup → done.length + m = S.length → MapAt w b (done.map ent) → Below n0 w0 w → n0 ≤ w.heap.size → wpAny P .any ops Q (f + m) (setAll done L) a w := by
  simp only [insReady, Bool.and_eq_true, List.all_eq_true, List.mem_range] at hr
  obtain ⟨hr1, hr2⟩ := hr
  intro m
  induction m with
  | zero =>
    intro done w hsub hdn hlen hm hbel _
    have hp : done.Perm S := sub_eq hdn hsub (by omega)
    rw [Nat.add_zero, setAll_congr (l' := S) (fun i => hp.mem_iff) L]
    exact hfin w (hm.perm (hp.map ent)) hbel
  | succ m ih =>
    intro done w hsub hdn hlen hm hbel hsz
    have step : ∀ i ∈ Region.ready .any ops (setAll done L), i ∈ S ∧ i ∉ done := by
      intro i hi
      rw [mem_ready] at hi
      obtain ⟨h0, o, ho, hall⟩ := hi
      have hlt := (Array.getElem?_eq_some_iff.1 ho).1
      have hu : L.getD i true = false ∧ i ∉ done := by
        simp only [Array.getD_eq_getD_getElem?, setAll_get] at h0 ⊢
        by_cases hd : i ∈ done
        · rw [if_pos hd] at h0
          cases hL : L[i]? <;> simp [hL] at h0
        · rw [if_neg hd] at h0
          exact ⟨h0, hd⟩
      refine ⟨?_, hu.2⟩
      have h1 := hr1 i hlt
      rw [hu.1] at h1
      simp only [Bool.false_or, Bool.or_eq_true, List.contains_iff_mem, ho] at h1
      rcases h1 with h1 | h1
      · exact h1
      · exfalso
        simp only [List.all_eq_true] at h1
        have hS : ∀ s ∈ S, s ∈ done := by
          intro s hs
          obtain ⟨e, he, heq⟩ := Array.any_eq_true'.1 (h1 s hs)
          simp only [Bool.and_eq_true, beq_iff_eq] at heq
          have h2 := hall e he heq.1
          rw [heq.2] at h2
          simp only [Array.getD_eq_getD_getElem?, setAll_get] at h2
          by_cases hd : s ∈ done
          · exact hd
          · rw [if_neg hd] at h2
            have h3 := hr2 s hs
            simp only [Bool.and_eq_true, Bool.not_eq_true', Array.getD_eq_getD_getElem?] at h3
            cases hL : L[s]? with
            | none => rw [hL] at h2; simp at h2
            | some x => rw [hL] at h2 h3; simp at h2 h3; rw [h2] at h3; simp at h3
        have : S.length ≤ done.length := sub_len hnd hS
        omega
    have some_ready : ∃ i, i ∈ Region.ready .any ops (setAll done L) := by
      have : ∃ i ∈ S, i ∉ done := by
        apply Classical.byContradiction
        intro hno
        have hS : ∀ s ∈ S, s ∈ done := fun s hs => Classical.byContradiction fun h => hno ⟨s, hs, h⟩
        have := sub_len hnd hS
        omega
      obtain ⟨i, hi, hd⟩ := this
      have h3 := hr2 i hi
      simp only [Bool.and_eq_true, Bool.not_eq_true'] at h3
      obtain ⟨h3, h4⟩ := h3
      split at h4
      · rename_i o ho
        simp only [Bool.and_eq_true] at h4
        refine ⟨i, mem_ready.2 ⟨?_, o, ho, fun e he hbd => ?_⟩⟩
        · simp only [Array.getD_eq_getD_getElem?, setAll_get, if_neg hd] at h3 ⊢
          exact h3
        · have h5 := Array.all_eq_true_iff_forall_mem.1 h4.2 e he
          simp only [hbd, Bool.not_true, Bool.false_or, Array.getD_eq_getD_getElem?] at h5
          simp only [Array.getD_eq_getD_getElem?, setAll_get]
          cases hL : L[e.on]? with
          | none => rw [hL] at h5; simp at h5
          | some x => rw [hL] at h5; simp at h5; subst h5; split <;> rfl
      · cases h4
    refine ⟨fun h => ?_, fun i hi => ?_⟩
    · obtain ⟨i, hi⟩ := some_ready
      rw [h] at hi
      cases hi
    · obtain ⟨hiS, hid⟩ := step i hi
      have h3 := hr2 i hiS
      simp only [Bool.and_eq_true, Bool.not_eq_true'] at h3
      obtain ⟨_, h4⟩ := h3
      split at h4
      case h_2 => cases h4
      rename_i o ho
      simp only [Bool.and_eq_true, Option.isNone_iff_eq_none] at h4
      obtain ⟨⟨hg, hd⟩, _⟩ := h4
      have hio : insOf a b o = some (t, b, (ent i).1, (ent i).2) := by
        have := List.map_inj_left.1 hop i hiS
        rwa [ho] at this
      unfold wpOp
      rw [ho]
      simp only [Region.wanted, hg, if_true]
      left
      obtain ⟨w', h5, h6, h7⟩ := MapAt.ins K ht hm (fun p hp => by obtain ⟨j, hj, rfl⟩ := List.mem_map.1 hp; exact hkey j (hsub j hj)) (val := (ent i).2) (hkey i hiS) (fun p hp => by
        obtain ⟨j, hj, rfl⟩ := List.mem_map.1 hp
        exact hne j (hsub j hj) i hiS (fun e => hid (e ▸ hj)))
      unfold insOf at hio
      split at hio
      case h_2 => cases hio
      rename_i t' m' x' v' hop'
      split at hio
      case h_2 => cases hio
      rename_i b' hm'
      simp only [Option.some.injEq, Prod.mk.injEq] at hio
      obtain ⟨rfl, rfl, hx, hv⟩ := hio
      have hrun : (execOp a.eval o).run P w = .ok .skip w' := by
        simp [execOp, hop', hm', hx, hv, h5, Result.andThen]
      unfold Oper.wp
      rw [hrun, Oper.upon_skip, hd, setAll_cons]
      exact ih (i :: done) w' (fun j hj => (List.mem_cons.1 hj).elim (fun e => e ▸ hiS) (hsub j)) (List.nodup_cons.2 ⟨hid, hdn⟩) (by simp; omega) h6 (hbel.trans (Below.ofGrown h7 hsz (fun c hc => by cases hc; exact hb))) (Nat.le_trans hsz h7.size)
def evPre {ρ : Type} (P : Program) (cal : Cal ρ) (qcal : QCal ρ) : Nat → Code → St → (Exit → St → Option ρ) → Option ρ
  | 0, _, st, K => K .normal st
  | n + 1, .seq x y, st, K => evCode P cal qcal (fun _ => none) x st fun e st' => match e with
    | .normal => evPre P cal qcal n y st' K
    | e => K e st'
  | _ + 1, _, _, _ => none
def rest : Nat → Code → Code
  | 0, c => c
  | n + 1, .seq _ y => rest n y
  | _ + 1, c => c
theorem evPre_sound {ρ : Type} {P : Program} (hP : Callable P) {cal : Cal ρ} (hcal : ∀ f, CalAt P f (cal f)) {qcal : QCal ρ} (hq : ∀ f, QCalAt P f (qcal f)) {B : Base} {w0 : World} {Q : Exit → Go.Act → World → Prop} : ∀ (n : Nat) (c : Code) {st : St} {K : Exit → St → Option ρ} {r : ρ} {M : List Place} {a : Go.Act} {w : World},
    evPre P cal qcal n c st K = some r → Rel M st B w0 a w → (∀ e M' st' a' w', K e st' = some r → Rel M' st' B w0 a' w' → Exit.then (fun a w => (rest n c).wp P Q a w) Q e a' w') → c.wp P Q a w
  | 0, c, st, K, r, M, a, w, h, hr, hn => hn .normal M st a w h hr
  | n + 1, .seq x y, st, K, r, M, a, w, h, hr, hn => by
    refine wp_seq (evCode_sound hP hcal hq x (fun _ _ _ h => by cases h) st _ h M a w _ hr fun e M' st' a' w' (_ : ExtO true M M') hk hr' => ?_)
    cases e with
    | normal => exact evPre_sound hP hcal hq n y hk hr' hn
    | exit id => exact hn (.exit id) M' st' a' w' hk hr'
    | goto l => exact hn (.goto l) M' st' a' w' hk hr'
    | ret => exact hn .ret M' st' a' w' hk hr'
    | panic ch => exact hn (.panic ch) M' st' a' w' hk hr'
    | outgrown => exact hn .outgrown M' st' a' w' hk hr'
  | n + 1, .skip, st, K, r, M, a, w, h, hr, hn => by cases h
  | n + 1, .region _ _ _, st, K, r, M, a, w, h, hr, hn => by cases h
  | n + 1, .cond _ _ _, st, K, r, M, a, w, h, hr, hn => by cases h
  | n + 1, .block _ _, st, K, r, M, a, w, h, hr, hn => by cases h
  | n + 1, .loop _, st, K, r, M, a, w, h, hr, hn => by cases h
  | n + 1, .exit _, st, K, r, M, a, w, h, hr, hn => by cases h
  | n + 1, .ret, st, K, r, M, a, w, h, hr, hn => by cases h
  | n + 1, .label _, st, K, r, M, a, w, h, hr, hn => by cases h
  | n + 1, .goto _, st, K, r, M, a, w, h, hr, hn => by cases h
def intV : AV → Option Int
  | .int .i64 _ x => some x
  | _ => none
def intsV : List AV → Option (List Int)
  | [] => some []
  | x :: r => match intV x, intsV r with
    | some n, some l => some (n :: l)
    | _, _ => none
def intArr (l : List Int) : Array Value := (l.map fun x => Value.int .i64 x).toArray
theorem intsV_has {M : List Place} : ∀ {xs : List AV} {vs : List Value} {l : List Int}, intsV xs = some l → RelL M xs vs → ∀ x ∈ l, IntKind.i64.has x
  | [], vs, l, h, hr => by
    simp only [intsV, Option.some.injEq] at h
    subst h
    simp
  | x :: xs, vs, l, h, hr => by
    simp only [intsV] at h
    split at h
    · rename_i n l' h1 h2
      cases h
      obtain ⟨v, r, rfl, hx, hr'⟩ := RelL_cons.1 hr
      intro y hy
      rcases List.mem_cons.1 hy with rfl | hy
      · unfold intV at h1
        split at h1
        · cases h1
          exact (relV_int hx).2.1
        · cases h1
      · exact intsV_has h2 hr' y hy
    · cases h
theorem intsV_rel {M : List Place} : ∀ {xs : List AV} {vs : List Value} {l : List Int}, intsV xs = some l → RelL M xs vs → vs = l.map (Value.int .i64)
  | [], vs, l, h, hr => by
    simp only [intsV, Option.some.injEq] at h
    subst h
    rw [RelL_nil] at hr
    exact hr
  | x :: xs, vs, l, h, hr => by
    simp only [intsV] at h
    split at h
    · rename_i n l' h1 h2
      cases h
      obtain ⟨v, r, rfl, hx, hr'⟩ := RelL_cons.1 hr
      rw [intsV_rel h2 hr']
      unfold intV at h1
      split at h1
      · cases h1
        rw [(relV_int hx).1]
        rfl
      · cases h1
    · cases h
def slotV : Bool → AV → Option Int
  | false, x => intV x
  | true, .itr b => some (b : Int)
  | true, _ => none
def slotVal : Bool → Int → Value
  | false, x => .int .i64 x
  | true, x => .pointer (some ⟨x.toNat, 0, none⟩)
def slotsV (ts : List AV) : List (Nat × Bool) → Option (List Int)
  | [] => some []
  | s :: r => match slotV s.2 (ts.getD s.1 .undef), slotsV ts r with
    | some n, some l => some (n :: l)
    | _, _ => none
def endK (P : Program) (fn : Func) (slots : List (Nat × Bool)) : Exit → St → Option (List Int ⊕ List Int) := fun e st => match e with
  | .ret => match aresL P st fn.results.toList with
    | some l => match intsV l with
      | some l => some (.inl l)
      | none => none
    | none => none
  | .normal => match slotsV st.tmps slots with
    | some l => some (.inr l)
    | none => none
  | _ => none
theorem relH_fresh (w : World) : RelH M0 H0 (Base.fresh w.heap.size) w := by
  have h : RelH [] [] (Base.fresh w.heap.size) w := ⟨rfl, fun k hk => ⟨hk, trivial⟩, fun i o h => (by simp at h), fun i j oi oj pi pj h => (by simp at h), fun i o pl k h => (by simp at h), fun i o pl h => (by simp at h), fun k ob h => absurd h FzAt.nil, fun i o pl h => (by simp at h), fun k hk h => absurd h (Nat.not_lt_of_le hk)⟩
  exact h.addNone _ (fun k ob h => by cases h)
theorem rel_fresh {ts : List AV} {a : Go.Act} (hT : RelT M0 ts a.tmps) (hd : a.defers = []) (w : World) : Rel M0 ⟨ts, H0⟩ (Base.fresh w.heap.size) w a w := ⟨hT, hd, relH_fresh w, Beneath.refl _ _⟩
def EndAt (P : Program) (fn : Func) (slots : List (Nat × Bool)) (n : Nat) (w : World) (r : List Int ⊕ List Int) (e : Exit) (a' : Go.Act) (w' : World) : Prop :=
  Below w.heap.size w w' ∧ a'.defers = [] ∧ a'.tmps.size = n ∧
  match e with
  | .ret => ∃ l, r = .inl l ∧ (∀ x ∈ l, IntKind.i64.has x) ∧ (results fn a'.tmps).run P w' = .ok (retV (intArr l)) w'
  | .normal => ∃ l, r = .inr l ∧ l.length = slots.length ∧ ∀ (j : Nat) (x : Int) (t : Nat × Bool), l[j]? = some x → slots[j]? = some t → a'.tmps.getD t.1 undef = slotVal t.2 x ∧ (t.2 = false → IntKind.i64.has x)
  | _ => False
theorem slotsV_get {M : List Place} {a : Array Value} {ts : List AV} (hT : RelT M ts a) : ∀ {slots : List (Nat × Bool)} {l : List Int}, slotsV ts slots = some l → l.length = slots.length ∧ ∀ (j : Nat) (x : Int) (t : Nat × Bool), l[j]? = some x → slots[j]? = some t → a.getD t.1 undef = slotVal t.2 x ∧ (t.2 = false → IntKind.i64.has x)
  | [], l, h => by
    simp only [slotsV, Option.some.injEq] at h
    subst h
    exact ⟨rfl, fun j x t h => by simp at h⟩
  | s :: slots, l, h => by
    simp only [slotsV] at h
    split at h
    · rename_i n l' h1 h2
      cases h
      obtain ⟨g1, g2⟩ := slotsV_get hT h2
      refine ⟨by simp [g1], fun j x t hx ht => ?_⟩
      cases j with
      | zero =>
        simp at hx ht
        subst hx
        subst ht
        have hv := hT.2 s.1
        obtain ⟨t, b⟩ := s
        cases b with
        | false =>
          simp only [slotV, intV] at h1
          split at h1
          · rename_i k x hq
            cases h1
            rw [hq] at hv
            exact ⟨(relV_int hv).1, fun _ => (relV_int hv).2.1⟩
          · cases h1
        | true =>
          cases hq : ts.getD t .undef <;> simp only [hq, slotV, reduceCtorEq, Option.some.injEq] at h1
          subst h1
          rw [hq] at hv
          simp only [RelV, RelX] at hv
          exact ⟨by simpa [slotVal] using hv, fun h => by cases h⟩
      | succ j => exact g2 j x t (by simpa using hx) (by simpa using ht)
    · cases h
theorem endK_at {P : Program} {fn : Func} {slots : List (Nat × Bool)} {n : Nat} {w : World} {r : List Int ⊕ List Int} {e : Exit} {st : St} (h : endK P fn slots e st = some r) {M : List Place} {a' : Go.Act} {w' : World} (hr : Rel M st (Base.fresh w.heap.size) w a' w') (hn : a'.tmps.size = n) : EndAt P fn slots n w r e a' w' := by
  refine ⟨hr.below.below', hr.defers, hn, ?_⟩
  unfold endK at h
  split at h
  · split at h
    · rename_i l hl
      split at h
      · rename_i l' hl'
        cases h
        obtain ⟨vs, h1, h2⟩ := results_run (fn := fn) hr.tmps hr.heap hl
        refine ⟨l', rfl, intsV_has hl' h1, ?_⟩
        have : vs = intArr l' := by
          apply Array.toList_inj.1
          rw [intsV_rel hl' h1]
          simp [intArr]
        rw [h2, this]
      · cases h
    · cases h
  · split at h
    · rename_i l hl
      cases h
      exact ⟨l, rfl, slotsV_get hr.tmps hl⟩
    · cases h
  · cases h
abbrev cal0 (P : Program) : Cal (List Int ⊕ List Int) := evFn P (emptyEnv _) 12
abbrev qcal0 : QCal (List Int ⊕ List Int) := qof (emptyEnv _)
theorem piece {P : Program} (hP : Callable P) {fn : Func} {slots : List (Nat × Bool)} {n : Nat} {c : Code} {ts : List AV} {r : List Int ⊕ List Int} (h : evPre P (cal0 P) qcal0 n c ⟨ts, H0⟩ (fun e st => if st.tmps.length = ts.length then endK P fn slots e st else none) = some r) {a : Go.Act} {w : World} (hT : RelT M0 ts a.tmps) (hd : a.defers = [])
    {Q : Exit → Go.Act → World → Prop} (hn : ∀ e a' w', EndAt P fn slots ts.length w r e a' w' → Exit.then (fun a w => (rest n c).wp P Q a w) Q e a' w') : c.wp P Q a w := by
  have e0 := emptyEnv_ok P (List Int ⊕ List Int)
  refine evPre_sound hP (evFn_ok hP e0 12) (qof_ok e0) n c h (rel_fresh hT hd w) fun e M' st' a' w' hk hr => hn e a' w' ?_
  split at hk
  · rename_i hlen
    exact endK_at hk hr (by rw [← hlen]; exact hr.tmps.1.symm)
  · cases hk
theorem piece1 {P : Program} (hP : Callable P) {fn : Func} {slots : List (Nat × Bool)} {c : Code} {ts : List AV} {r : List Int ⊕ List Int} (h : evCode P (cal0 P) qcal0 (fun _ => none) c ⟨ts, H0⟩ (fun e st => if st.tmps.length = ts.length then endK P fn slots e st else none) = some r) {a : Go.Act} {w : World} (hT : RelT M0 ts a.tmps) (hd : a.defers = [])
    {Q : Exit → Go.Act → World → Prop} (hn : ∀ e a' w', EndAt P fn slots ts.length w r e a' w' → Q e a' w') : c.wp P Q a w := by
  have e0 := emptyEnv_ok P (List Int ⊕ List Int)
  refine evCode_sound hP (evFn_ok hP e0 12) (qof_ok e0) c (fun _ _ _ h => by cases h) _ _ h M0 a w Q (rel_fresh hT hd w) fun e M' st' a' w' (_ : ExtO true M0 M') hk hr => hn e a' w' ?_
  split at hk
  · rename_i hlen
    exact endK_at hk hr (by rw [← hlen]; exact hr.tmps.1.symm)
  · cases hk
theorem evList_app {ρ : Type} {P : Program} (hP : Callable P) {cal : Cal ρ} (hcal : ∀ f, CalAt P f (cal f)) {ops : Array Oper} {Q : Exit → Go.Act → World → Prop} {K : St → Option ρ} {r : ρ} {B : Base} {w0 : World} {l2 : List Oper} : ∀ {l : List Oper} {st : St} {M : List Place} {a : Go.Act} {w : World},
    evList P cal ops l st K = some r → Rel M st B w0 a w → (∀ M' st' a' w', K st' = some r → Rel M' st' B w0 a' w' → wpList P ops Q l2 a' w') → wpList P ops Q (l ++ l2) a w
  | [], st, M, a, w, h, hr, hn => hn M st a w h hr
  | o :: l, st, M, a, w, h, hr, hn => by
    show wpList P ops Q (o :: (l ++ l2)) a w
    unfold wpList
    rcases guarded_sound h hr.tmps with ⟨hw, st', h', ht, hh⟩ | ⟨hw, st', h', ht, hh⟩
    · rw [if_pos hw]
      have hr' : Rel M st' B w0 a w := ⟨ht, hr.defers, by rw [hh]; exact hr.heap, hr.below⟩
      exact .inl (evExec_sound hP hcal h' hr' fun M' st2 a' w' hE hk hr2 => evList_app hP hcal hk hr2 hn)
    · rw [if_neg (by rw [hw]; simp)]
      have hr' : Rel M st' B w0 a w := ⟨ht, hr.defers, by rw [hh]; exact hr.heap, hr.below⟩
      exact evList_app hP hcal h' (hr'.put (relV_skip M) o.dst) hn
theorem pieceL {P : Program} (hP : Callable P) {ops : Array Oper} {l l2 : List Oper} {ts : List AV} {picks : List Nat} {xs : List AV} (h : evList P (evFn P (emptyEnv (List AV)) 12) ops l ⟨ts, H0⟩ (fun st => if st.tmps.length = ts.length then some (picks.map fun t => st.tmps.getD t .undef) else none) = some xs) {a : Go.Act} {w : World} (hT : RelT M0 ts a.tmps) (hd : a.defers = [])
    {Q : Exit → Go.Act → World → Prop} (hn : ∀ M' a' w', (∀ (j : Nat) (t : Nat) (x : AV), picks[j]? = some t → xs[j]? = some x → RelV M' x (a'.tmps.getD t undef)) → a'.tmps.size = ts.length → a'.defers = [] → Below w.heap.size w w' → wpList P ops Q l2 a' w') : wpList P ops Q (l ++ l2) a w := by
  refine evList_app hP (evFn_ok hP (emptyEnv_ok P (List AV)) 12) h (rel_fresh hT hd w) fun M' st' a' w' hk hr => ?_
  split at hk
  · rename_i hlen
    cases hk
    refine hn M' a' w' (fun j t x ht hx => ?_) (by rw [← hlen]; exact hr.tmps.1.symm) hr.defers hr.below.below'
    rw [List.getElem?_map, ht] at hx
    cases hx
    exact hr.tmps.2 t
  · cases hk
theorem wpl {P : Program} {ops : Array Oper} {Q : Exit → Go.Act → World → Prop} {r : List Oper} {o : Oper} {a : Go.Act} {w w' : World} {v : Value} (hg : o.guard = none) (hrun : (execOp a.eval o).run P w = .ok (.value v) w') (h : wpList P ops Q r (a.put o.dst v) w') : wpList P ops Q (o :: r) a w := by
  unfold wpList
  rw [if_pos (by simp [Region.wanted, hg])]
  refine .inl ?_
  unfold Oper.wp
  rw [hrun, Oper.upon_value]
  exact h
theorem wpl_skip {P : Program} {ops : Array Oper} {Q : Exit → Go.Act → World → Prop} {r : List Oper} {o : Oper} {a : Go.Act} {w w' : World} (hg : o.guard = none) (hd : o.dst = none) (hrun : (execOp a.eval o).run P w = .ok .skip w') (h : wpList P ops Q r a w') : wpList P ops Q (o :: r) a w := by
  unfold wpList
  rw [if_pos (by simp [Region.wanted, hg])]
  refine .inl ?_
  unfold Oper.wp
  rw [hrun, Oper.upon_skip, hd]
  exact h
theorem wpl_enter {P : Program} {ops : Array Oper} {Q : Exit → Go.Act → World → Prop} {r : List Oper} {o : Oper} {a : Go.Act} {w : World} {f : FuncId} {args : Array Value} (hg : o.guard = none) (hrun : (execOp a.eval o).run P w = .ok (.enter f args) w)
    (h : Calls P f args w fun e w' => ∃ v, e = .returned v ∧ wpList P ops Q r (a.put o.dst v) w') : wpList P ops Q (o :: r) a w := by
  unfold wpList
  rw [if_pos (by simp [Region.wanted, hg])]
  refine .inl ?_
  unfold Oper.wp
  rw [hrun, Oper.upon_enter]
  refine h.mono ?_
  rintro e w' ⟨v, rfl, h⟩
  exact h
def pickT (n : Nat) (l : List (Nat × AV)) : List AV := l.foldl (fun ts p => ts.set p.1 p.2) (List.replicate n .undef)
theorem pickT_len (n : Nat) (l : List (Nat × AV)) : (pickT n l).length = n := by
  unfold pickT
  suffices ∀ (l : List (Nat × AV)) (ts : List AV), (l.foldl (fun ts p => ts.set p.1 p.2) ts).length = ts.length by rw [this]; simp
  intro l
  induction l with
  | nil => intro ts; rfl
  | cons p l ih => intro ts; rw [List.foldl_cons, ih]; simp
theorem Below.weak {n m : Nat} {w w' : World} (h : Below n w w') (hm : m ≤ n) : Below m w w' := ⟨h.os, h.tape, h.output, h.size, fun k hk => h.block k (Nat.lt_of_lt_of_le hk hm)⟩
theorem relT_pick {n : Nat} {a : Array Value} (hn : a.size = n) {l : List (Nat × AV)} (h : ∀ p ∈ l, RelV M0 p.2 (a.getD p.1 undef)) : RelT M0 (pickT n l) a := by
  have h0 : RelT M0 (List.replicate n .undef) a := ⟨by simp [hn], fun t => by
    have : (List.replicate n AV.undef).getD t .undef = .undef := by
      rw [List.getD_eq_getElem?_getD, List.getElem?_replicate]
      split <;> rfl
    rw [this]
    exact relV_undef _ _⟩
  unfold pickT
  suffices ∀ (l : List (Nat × AV)) (ts : List AV), (∀ p ∈ l, RelV M0 p.2 (a.getD p.1 undef)) → RelT M0 ts a → RelT M0 (l.foldl (fun ts p => ts.set p.1 p.2) ts) a from this l _ h h0
  intro l
  induction l with
  | nil => intro ts _ h; exact h
  | cons p l ih =>
    intro ts hl hT
    refine ih _ (fun q hq => hl q (List.mem_cons_of_mem _ hq)) ?_
    have h1 := hT.put (hl p (by simp)) p.1
    have h2 := congrArg Go.Act.tmps (put_self (a := ⟨a, []⟩) (d := p.1))
    simp only [Go.Act.put] at h2
    rw [h2] at h1
    exact h1
theorem put_get {a : Go.Act} {d : Nat} {v : Value} (h : d < a.tmps.size) : (a.put (some d) v).tmps.getD d undef = v := by simp [Go.Act.put, h]
theorem put_get_ne {a : Go.Act} {d t : Nat} {v : Value} (h : t ≠ d) : (a.put (some d) v).tmps.getD t undef = a.tmps.getD t undef := by simp [Go.Act.put, Array.getElem?_setIfInBounds_ne (Ne.symm h)]
theorem put_size {a : Go.Act} {d : Option Nat} {v : Value} : (a.put d v).tmps.size = a.tmps.size := by cases d <;> simp [Go.Act.put]
theorem put_defers {a : Go.Act} {d : Option Nat} {v : Value} : (a.put d v).defers = a.defers := by cases d <;> rfl
theorem relV_int_mk {x : Int} (h : IntKind.i64.has x) : RelV M0 (.int .i64 none x) (.int .i64 x) := RelX_int.2 ⟨rfl, h, fun m hm => by cases hm⟩
theorem pieceLC {P : Program} (hP : Callable P) {fn : Func} {slots : List (Nat × Bool)} {ops : Array Oper} {l : List Oper} {c : Code} {ts : List AV} {r : List Int ⊕ List Int}
    (h : evList P (cal0 P) ops l ⟨ts, H0⟩ (fun st => evCode P (cal0 P) qcal0 (fun _ => none) c st (fun e st => if st.tmps.length = ts.length then endK P fn slots e st else none)) = some r) {a : Go.Act} {w : World} (hT : RelT M0 ts a.tmps) (hd : a.defers = [])
    {Q : Exit → Go.Act → World → Prop} (hn : ∀ e a' w', EndAt P fn slots ts.length w r e a' w' → Q e a' w') : wpList P ops (Exit.then (c.wp P Q) Q) l a w := by
  have e0 := emptyEnv_ok P (List Int ⊕ List Int)
  refine evList_sound hP (evFn_ok hP e0 12) h (rel_fresh hT hd w) fun M1 st1 a1 w1 _ hk hr => ?_
  refine evCode_sound hP (evFn_ok hP e0 12) (qof_ok e0) c (fun _ _ _ h => by cases h) _ _ hk M1 a1 w1 Q hr fun e M' st' a' w' (_ : ExtO true M1 M') hk hr' => hn e a' w' ?_
  split at hk
  · rename_i hlen
    exact endK_at hk hr' (by rw [← hlen]; exact hr'.tmps.1.symm)
  · cases hk
theorem relOut_ints {B : Base} {w : World} {x y : Int} (hx : IntKind.i64.has x) (hy : IntKind.i64.has y) : RelOut B w [.ty (.int .i64), .ty (.int .i64)] (x, y, ()) [.int .i64 x, .int .i64 y] := by
  refine ⟨[], [], News.nil B w, rfl, fun k ob h => FzAt.nil h, fun k ob h => absurd h FzAt.nil, fun i pi oi h => (by simp at h), fun M => ?_, fun M pin c h => (by simp [upsO] at h)⟩
  exact RelL_cons.2 ⟨_, _, rfl, RelX_int.2 ⟨rfl, hx, fun m hm => by cases hm⟩, RelL_cons.2 ⟨_, _, rfl, RelX_int.2 ⟨rfl, hy, fun m hm => by cases hm⟩, RelL_nil.2 rfl⟩⟩
theorem fnSpec2 {P : Program} {f : FuncId} {n : Nat} {ins : List Item} {F : D (tysI ins []) → Option (Int × Int × Unit)}
    (h : ∀ d x y M (vs : Array Value) w, RelL M (bldS n ins d).tmps vs.toList → F d = some (x, y, ()) → Calls P f vs w fun e w' => e = .returned (retV (intArr [x, y])) ∧ (∀ z ∈ [x, y], IntKind.i64.has z) ∧ Below w.heap.size w w') : FnSpec P f n ins [.ty (.int .i64), .ty (.int .i64)] F := by
  rintro d ⟨x, y, ⟨⟩⟩ hd M B w vs hl hH
  refine (h d x y M vs w hl hd).mono ?_
  rintro e w' ⟨rfl, hz, hb⟩
  exact ⟨intArr [x, y], rfl, Beneath.of hb, relOut_ints (hz x (by simp)) (hz y (by simp))⟩
theorem wpList_inss {P : Program} {ops : Array Oper} {Q : Exit → Go.Act → World → Prop} {r : List Oper} {a : Go.Act} {b n0 : Nat} {k t e : TypeId} (K : Maps.Keyed P k) (ht : P.underlying t = some (.map k e)) (hb : n0 ≤ b) {w0 : World} : ∀ {l : List Oper} {T ents : List (Value × Value)} {w : World},
    (l.all fun o => o.guard.isNone && o.dst.isNone) = true → l.map (insOf a b) = ents.map (fun p => some (t, b, p.1, p.2)) → (∀ p ∈ ents, ∃ l, keyOf P k p.1 = some l) → (∀ p ∈ T, ∃ l, keyOf P k p.1 = some l) → (ents ++ T).Pairwise (fun p q => p.1 ≠ q.1) → MapAt w b T → Below n0 w0 w → n0 ≤ w.heap.size →
    (∀ w', MapAt w' b (ents.reverse ++ T) → Below n0 w0 w' → n0 ≤ w'.heap.size → wpList P ops Q r a w') → wpList P ops Q (l ++ r) a w
  | [], T, ents, w, _, hm, _, _, _, hw, hbl, hs, hn => by
    cases ents with
    | nil => exact hn w hw hbl hs
    | cons _ _ => simp at hm
  | o :: l, T, ents, w, hg, hm, hk, hkT, hp, hw, hbl, hs, hn => by
    cases ents with
    | nil => simp at hm
    | cons p ents =>
      simp only [List.map_cons, List.cons.injEq] at hm
      obtain ⟨ho, hm⟩ := hm
      simp only [List.all_cons, Bool.and_eq_true, Option.isNone_iff_eq_none] at hg
      obtain ⟨⟨hg1, hg2⟩, hg⟩ := hg
      rw [List.cons_append, List.pairwise_cons] at hp
      obtain ⟨w', h1, h2, h3⟩ := MapAt.ins K ht hw hkT (val := p.2) (hk p (by simp)) (fun q hq e => hp.1 q (by simp [hq]) e.symm)
      unfold insOf at ho
      split at ho
      case h_2 => cases ho
      rename_i t' m' x' v' hop
      split at ho
      case h_2 => cases ho
      rename_i b' hm'
      simp only [Option.some.injEq, Prod.mk.injEq] at ho
      obtain ⟨rfl, rfl, hx, hv⟩ := ho
      have hrun : (execOp a.eval o).run P w = .ok .skip w' := by
        simp [execOp, hop, hm', hx, hv, h1, Result.andThen]
      refine wpl_skip hg1 hg2 hrun (wpList_inss K ht hb (T := p :: T) (ents := ents) (by simpa using hg) hm (fun q hq => hk q (by simp [hq])) (fun q hq => (List.mem_cons.1 hq).elim (fun e => e ▸ hk p (by simp)) (hkT q)) ?_ h2 (hbl.trans (Below.ofGrown h3 hs (fun c hc => by cases hc; exact hb))) (Nat.le_trans hs h3.size) ?_)
      · have hp1 : (p :: (ents ++ T)).Pairwise (fun a b : Value × Value => a.1 ≠ b.1) := List.pairwise_cons.2 hp
        exact hp1.perm (List.perm_middle.symm) (fun h e => h e.symm)
      · intro w2 g1 g2 g3
        refine hn w2 ?_ g2 g3
        simpa using g1
end Go.AE
set_option linter.unusedVariables false
set_option linter.unusedSimpArgs false
namespace Go.AE
open Go Go.RowKit
open Go.ChangeMaps (setBlock)
def codeL (x y : Int) : Option Int := (codesT.find? fun e => e.1 == x && e.2.1 == y).map (·.2.2)
def codeF1 (x y : Int) : Option (List Int ⊕ List Int) :=
  let X : Option (List Int ⊕ List Int) := cond (y != 1) (cond (y != 2) (some (.inl [0, 1])) (some (.inr [x, y]))) (some (.inr [x, y]))
  cond (x == 1) X (cond (x == 7) X (cond (x == 8) X (cond (x == 2) X (cond (x == 3) X (cond (x == 6) X (cond (x == 10) X (cond (x == 9) X (cond (x == 4) X (cond (x == 11) X (cond (x == 5) X (cond (x == 12) X (some (.inl [0, 5])))))))))))))
def codeF2 (v : Int) (b : Bool) : Option (List Int ⊕ List Int) := cond (!b) (some (.inl [0, 9])) (some (.inl [v, 0]))
def orE (e : Int) : Option Int → Option (Int × Int × Unit)
  | some v => some (v, 0, ())
  | none => some (0, e, ())
def inl2 : Option (List Int ⊕ List Int) → Option (Int × Int × Unit)
  | some (.inl [a, b]) => some (a, b, ())
  | _ => none
theorem inl2_of {l : List Int} {x y : Int} (h : inl2 (some (.inl l)) = some (x, y, ())) : l = [x, y] := by
  unfold inl2 at h
  split at h
  · rename_i heq
    cases heq
    cases h
    rfl
  · cases h
def codeF (x y : Int) : Option (Int × Int × Unit) := match codeF1 x y with
  | some (.inr _) => orE 9 (codeL x y)
  | r => inl2 r
def formatL (x y : Int) : Option Int := (codesT.find? fun e => e.2.1 == y && e.2.2 == x).map (·.1)
def formatF1 (x y : Int) : Option (List Int ⊕ List Int) :=
  cond (y != 1)
    (cond (y != 2) (some (.inl [0, 1])) (cond (y == 2) (cond (x == 33777) (some (.inl [1, 0])) (some (.inr [x, y]))) (some (.inr [x, y]))))
    (cond (y == 2) (cond (x == 33777) (some (.inl [1, 0])) (some (.inr [x, y]))) (some (.inr [x, y])))
def formatB (x y f i n : Int) (r : Nat) : Option (List Int ⊕ List Int) :=
  cond (i == y) (cond (n == x) (some (.inl [f, 0])) (some (.inr [x, y, (r : Int)]))) (some (.inr [x, y, (r : Int)]))
def formatF (x y : Int) : Option (Int × Int × Unit) := match formatF1 x y with
  | some (.inr _) => orE 5 (formatL x y)
  | r => inl2 r
def lettersT : List (List Int × Int) := [([68, 88, 84, 49], 1), ([68, 88, 84, 51], 2), ([68, 88, 84, 53], 3), ([65, 84, 73, 49], 4), ([65, 84, 73, 50], 5), ([66, 67, 52, 85], 4), ([66, 67, 53, 85], 5)]
def lettersV : List (Value × Value) := lettersT.map fun e => (.string (mkS e.1), .int .i64 e.2)
def lettersL (s : List Int) : Option Int := (lettersT.find? fun e => e.1 == s).map (·.2)
def lettersF2 (v : Int) (b : Bool) : Option (List Int ⊕ List Int) := cond (!b) (some (.inl [0, 5])) (some (.inl [v, 0]))
def lettersF (s : List Int) : Option (Int × Int × Unit) := orE 5 (lettersL s)
theorem condI {c : Bool} {X R : Option (List Int ⊕ List Int)} {l : List Int} {p : Prop} (hX : X = some (.inr l) → p) (hR : R = some (.inr l) → p) (h : cond c X R = some (.inr l)) : p := by
  cases c
  · exact hR h
  · exact hX h
theorem codeF1_inr {x y : Int} {l : List Int} : codeF1 x y = some (.inr l) → l = [x, y] := by
  have e : some (Sum.inr (α := List Int) [x, y]) = some (.inr l) → l = [x, y] := fun h => by cases h; rfl
  have X : (cond (y != 1) (cond (y != 2) (some (.inl [0, 1])) (some (.inr [x, y]))) (some (.inr [x, y])) : Option (List Int ⊕ List Int)) = some (.inr l) → l = [x, y] := condI (condI (fun h => by cases h) e) e
  exact condI X (condI X (condI X (condI X (condI X (condI X (condI X (condI X (condI X (condI X (condI X (condI X fun h => by cases h)))))))))))
theorem formatF1_inr {x y : Int} {l : List Int} : formatF1 x y = some (.inr l) → l = [x, y] := by
  have e : some (Sum.inr (α := List Int) [x, y]) = some (.inr l) → l = [x, y] := fun h => by cases h; rfl
  have X : (cond (y == 2) (cond (x == 33777) (some (.inl [1, 0])) (some (.inr [x, y]))) (some (.inr [x, y])) : Option (List Int ⊕ List Int)) = some (.inr l) → l = [x, y] := condI (condI (fun h => by cases h) e) e
  exact condI (condI (fun h => by cases h) X) X
theorem getD_append {a b : Array Value} {i : Nat} (h : i < a.size) : (a ++ b).getD i undef = a.getD i undef := by
  rw [Array.getD_eq_getD_getElem?, Array.getD_eq_getD_getElem?, Array.getElem?_append_left h]
def CodesAt (P : Program) (f : FuncId) : Prop := ∀ w, Calls P f #[] w fun e w' => ∃ b, e = .returned (.map (some b)) ∧ w.heap.size ≤ b ∧ b < w'.heap.size ∧ Below w.heap.size w w' ∧ MapAt w' b (mapT 0)
def PairKeys (P : Program) (k : TypeId) : Prop := ∀ a b : Int, IntKind.i64.has a → IntKind.i64.has b → ∃ l, keyOf P k (.agg #[.int .i64 a, .int .i64 b]) = some l
theorem codes_has : ∀ e ∈ codesT, IntKind.i64.has e.1 ∧ IntKind.i64.has e.2.1 ∧ IntKind.i64.has e.2.2 := by
  have : codesT.all (fun e => inB .i64 e.1 && inB .i64 e.2.1 && inB .i64 e.2.2) = true := by decide
  intro e he
  have := List.all_eq_true.1 this e he
  simp only [Bool.and_eq_true] at this
  exact ⟨has_of_inB this.1.1, has_of_inB this.1.2, has_of_inB this.2⟩
theorem codes_keys {P : Program} {k : TypeId} (hk : PairKeys P k) : ∀ p ∈ mapT 0, ∃ l, keyOf P k p.1 = some l := by
  intro p hp
  obtain ⟨e, he, rfl⟩ := List.mem_map.1 hp
  obtain ⟨h1, h2, _⟩ := codes_has e he
  exact hk _ _ h1 h2
theorem pairKeys {P : Program} {k : TypeId} {f0 f1 : Field} {m : Nat} (hu : P.underlying k = some (.struct #[f0, f1])) (hk : P.keyType k = true) (hc : P.cellsOf k = 2) (hs : P.types.size = m + 1) (h0 : P.underlying f0.type = some (.int .i64)) (h1 : P.underlying f1.type = some (.int .i64))
    (c0 : P.cellsOf f0.type = 1) (c1 : P.cellsOf f1.type = 1) (o0 : f0.offset = 0) (o1 : f1.offset = 1) (n0 : (f0.name != "_") = true) (n1 : (f1.name != "_") = true) : PairKeys P k := by
  intro a b ha hb
  have wa : (Lit.int .i64 a).wf = true := by
    rw [has_iff] at ha
    simp only [loB, hiB] at ha
    simp only [Lit.wf, Bool.and_eq_true, decide_eq_true_eq]
    exact ⟨ha.1, ha.2⟩
  have wb : (Lit.int .i64 b).wf = true := by
    rw [has_iff] at hb
    simp only [loB, hiB] at hb
    simp only [Lit.wf, Bool.and_eq_true, decide_eq_true_eq]
    exact ⟨hb.1, hb.2⟩
  refine ⟨.string (keyBytes [.int .i64 a, .int .i64 b]), ?_⟩
  unfold keyOf
  rw [hu]
  simp only [hk, Value.formed, hu, hc, Value.cells, Bool.true_and]
  rw [hs]
  simp [Program.keyLits, hu, hc, h0, h1, c0, c1, o0, o1, n0, n1, wa, wb]
theorem strKeys {P : Program} {k : TypeId} (hu : P.underlying k = some .string) {l : List Int} (hl : IntKind.i64.has (l.length : Int)) : ∃ x, keyOf P k (.string (mkS l)) = some x :=
  ⟨_, Go.WideMaps.keyOf_string_mk hu (by
    rw [mkS_size]
    rw [has_iff] at hl
    simp only [loB, hiB] at hl
    have : maxLen = 9223372036854775807 := by decide
    omega)⟩
theorem codeL_of {x y : Int} {v : Value} (h : (Value.agg #[.int .i64 x, .int .i64 y], v) ∈ mapT 0) : ∃ n, codeL x y = some n ∧ v = .int .i64 n ∧ IntKind.i64.has n := by
  obtain ⟨e, he, heq⟩ := List.mem_map.1 h
  simp only [Prod.mk.injEq, Value.agg.injEq, Array.mk.injEq, List.cons.injEq, Value.int.injEq, true_and, and_true] at heq
  obtain ⟨⟨rfl, rfl⟩, rfl⟩ := heq
  refine ⟨e.2.2, ?_, rfl, (codes_has e he).2.2⟩
  have : codesT.all (fun e => codeL e.1 e.2.1 == some e.2.2) = true := by decide
  simpa using List.all_eq_true.1 this e he
theorem codeL_none {x y : Int} (h : ∀ p ∈ mapT 0, p.1 ≠ .agg #[.int .i64 x, .int .i64 y]) : codeL x y = none := by
  unfold codeL
  rw [Option.map_eq_none_iff, List.find?_eq_none]
  intro e he hq
  simp only [Bool.and_eq_true, beq_iff_eq] at hq
  refine h (.agg #[.int .i64 e.1, .int .i64 e.2.1], .int .i64 e.2.2) (List.mem_map.2 ⟨e, he, rfl⟩) ?_
  rw [hq.1, hq.2]
theorem lettersL_of {s : List Int} (hs : ∀ x ∈ s, 0 ≤ x ∧ x ≤ 255) {v : Value} (h : (Value.string (mkS s), v) ∈ lettersV) : ∃ n, lettersL s = some n ∧ v = .int .i64 n ∧ IntKind.i64.has n := by
  obtain ⟨e, he, heq⟩ := List.mem_map.1 h
  simp only [Prod.mk.injEq, Value.string.injEq] at heq
  obtain ⟨h1, rfl⟩ := heq
  have hb : lettersT.all (fun e => (e.1.all fun x => decide (0 ≤ x ∧ x ≤ 255)) && (lettersL e.1 == some e.2) && inB .i64 e.2) = true := by decide
  have h2 := List.all_eq_true.1 hb e he
  simp only [Bool.and_eq_true, List.all_eq_true, decide_eq_true_eq, beq_iff_eq] at h2
  have h3 : e.1 = s := by rw [← bytesL_mkS h2.1.1, h1, bytesL_mkS hs]
  subst h3
  exact ⟨e.2, h2.1.2, rfl, has_of_inB h2.2⟩
theorem lettersL_none {s : List Int} (h : ∀ p ∈ lettersV, p.1 ≠ .string (mkS s)) : lettersL s = none := by
  unfold lettersL
  rw [Option.map_eq_none_iff, List.find?_eq_none]
  intro e he hq
  simp only [beq_iff_eq] at hq
  exact h (.string (mkS e.1), .int .i64 e.2) (List.mem_map.2 ⟨e, he, rfl⟩) (by rw [hq])
theorem run_call0 {P : Program} (hP : Callable P) {f : FuncId} {fn : Func} (hf : P.funcs[f]? = some fn) (hb : fn.body.isSome = true) {o : Oper} (ho : o.op = .call ⟨.value (.func f), #[], #[]⟩) (a : Go.Act) (w : World) :
    (execOp a.eval o).run P w = .ok (.enter f #[]) w := by
  have hn := hP f fn hf hb
  cases hq : fn.body with
  | none => simp [hq] at hb
  | some cd => simp [execOp, ho, resolve, Go.Act.eval, Deferred.ofValue, invoke, callFunc, hf, hn, hq]
theorem getD_int {a : Go.Act} {n : Nat} {l : List Int} {slots : List (Nat × Bool)} (h : ∀ (j : Nat) (x : Int) (t : Nat × Bool), l[j]? = some x → slots[j]? = some t → a.tmps.getD t.1 undef = slotVal t.2 x ∧ (t.2 = false → IntKind.i64.has x)) (j : Nat) {x : Int} {t : Nat} (hl : l[j]? = some x) (hs : slots[j]? = some (t, false)) :
    RelV M0 (.int .i64 none x) (a.tmps.getD t undef) := by
  obtain ⟨h1, h2⟩ := h j x (t, false) hl hs
  rw [h1]
  exact relV_int_mk (h2 rfl)
theorem code_spec {P : Program} (hP : Callable P) {f fc : FuncId} {fn fnc : Func} {c c4 : Code} {id n : Nat} {ops : Array Oper} {T K E : TypeId} {o0 ol : Oper} {l1 l2 : List Oper} {d0 dk dl : Nat} {kx : Int → Int → AV}
    (hf : P.funcs[f]? = some fn) (hb : fn.body = some c) (hn : fn.ntmps = n) (hsz : 1 < n ∧ d0 < n ∧ dl < n ∧ d0 ≠ 0 ∧ d0 ≠ 1) (hr : rest 3 c = .seq (.region id ops false) c4)
    (hK : Maps.Keyed P K) (hT : P.underlying T = some (.map K E)) (hz : ∀ w, (zeroValue E).run P w = .ok (.int .i64 0) w) (hkey : PairKeys P K)
    (hfc : P.funcs[fc]? = some fnc) (hbc : fnc.body.isSome = true) (hcodes : CodesAt P fc) (hops : ops.toList = o0 :: (l1 ++ ol :: l2))
    (h01 : o0.op = .call ⟨.value (.func fc), #[], #[]⟩) (h02 : o0.guard = none) (h03 : o0.dst = some d0) (hl1 : ol.op = .lookup T (.tmp d0) (.tmp dk) true) (hl2 : ol.guard = none) (hl3 : ol.dst = some dl)
    (h1 : ∀ x y, evPre P (cal0 P) qcal0 3 c ⟨pickT n [(0, .int .i64 none x), (1, .int .i64 none y)], H0⟩ (fun e st => if st.tmps.length = n then endK P fn [(0, false), (1, false)] e st else none) = codeF1 x y)
    (h2 : ∀ x y b, evList P (evFn P (emptyEnv (List AV)) 12) ops l1 ⟨pickT n [(0, .int .i64 none x), (1, .int .i64 none y), (d0, .mp b)], H0⟩ (fun st => if st.tmps.length = n then some ([d0, dk].map fun t => st.tmps.getD t .undef) else none) = some [.mp b, kx x y])
    (hkx : ∀ M x y v, RelV M (kx x y) v → v = .agg #[.int .i64 x, .int .i64 y])
    (h3 : ∀ v b, evList P (cal0 P) ops l2 ⟨pickT n [(dl, .tup [.int .i64 none v, .bool none b])], H0⟩ (fun st => evCode P (cal0 P) qcal0 (fun _ => none) c4 st (fun e st => if st.tmps.length = n then endK P fn [] e st else none)) = codeF2 v b) :
    FnSpec P f 2 [.slot 0 (.int .i64), .slot 1 (.int .i64)] [.ty (.int .i64), .ty (.int .i64)] (fun d => codeF d.1 d.2.1) := by
  refine fnSpec2 fun d x y M vs w hl hd => ?_
  obtain ⟨a0, a1, ⟨⟩⟩ := d
  have hd : codeF a0 a1 = some (x, y, ()) := hd
  obtain ⟨v0, r0, hv, hx0, hr0⟩ := RelL_cons.1 (show RelL M [.int .i64 none a0, .int .i64 none a1] vs.toList from hl)
  obtain ⟨v1, r1, rfl, hx1, hr1⟩ := RelL_cons.1 hr0
  rw [RelL_nil] at hr1
  subst hr1
  obtain ⟨rfl, g0, _⟩ := relV_int (l := none) (x := a0) hx0
  obtain ⟨rfl, g1, _⟩ := relV_int (l := none) (x := a1) hx1
  obtain rfl : vs = #[.int .i64 a0, .int .i64 a1] := by
    apply Array.toList_inj.1
    simpa using hv
  refine calls_of_wp hf hb ?_
  rw [hn]
  obtain ⟨n1, nd0, ndl, d00, d01⟩ := hsz
  have hs0 : (#[Value.int .i64 a0, Value.int .i64 a1] ++ Array.replicate (n - 2) undef).size = n := by simp; omega
  have hT0 : RelT M0 (pickT n [(0, .int .i64 none a0), (1, .int .i64 none a1)]) (#[Value.int .i64 a0, Value.int .i64 a1] ++ Array.replicate (n - 2) undef) := by
    refine relT_pick hs0 fun p hp => ?_
    rcases List.mem_cons.1 hp with rfl | hp
    · rw [getD_append (by simp)]
      exact relV_int_mk g0
    · obtain rfl := List.mem_singleton.1 hp
      rw [getD_append (by simp)]
      exact relV_int_mk g1
  have hlen : ∀ l : List (Nat × AV), (pickT n l).length = n := pickT_len n
  cases hF : codeF1 a0 a1 with
  | none => rw [codeF, hF] at hd; cases hd
  | some r =>
    refine piece hP (fn := fn) (slots := [(0, false), (1, false)]) (r := r) (by rw [hlen]; rw [← hF]; exact h1 a0 a1) hT0 rfl fun e a' w' ⟨hbl, hde, hsz', he⟩ => ?_
    rw [hlen] at hsz'
    cases e with
    | ret =>
      obtain ⟨l, rfl, hhas, hres⟩ := he
      refine ⟨hde, _, hres, ?_⟩
      have hl2 : l = [x, y] := inl2_of (by simpa only [codeF, hF] using hd)
      subst hl2
      exact ⟨rfl, hhas, hbl⟩
    | normal =>
      obtain ⟨l, rfl, hll, hsl⟩ := he
      have hl2 : l = [a0, a1] := by
        exact codeF1_inr hF
      subst hl2
      show Code.wp P (rest 3 c) _ a' w'
      rw [hr]
      refine wp_seq (wp_region_list ?_)
      rw [hops]
      refine wpl_enter h02 (run_call0 hP hfc hbc h01 a' w') ((hcodes w').mono ?_)
      rintro e2 w2 ⟨b, rfl, hb1, hb2, hb3, hm⟩
      refine ⟨_, rfl, ?_⟩
      rw [h03]
      have q0 : RelV M0 (.int .i64 none a0) (a'.tmps.getD 0 undef) := getD_int (n := n) hsl 0 (t := 0) rfl rfl
      have q1 : RelV M0 (.int .i64 none a1) (a'.tmps.getD 1 undef) := getD_int (n := n) hsl 1 (t := 1) rfl rfl
      have hT1 : RelT M0 (pickT n [(0, .int .i64 none a0), (1, .int .i64 none a1), (d0, .mp b)]) (a'.put (some d0) (.map (some b))).tmps := by
        refine relT_pick (by rw [put_size]; exact hsz') fun p hp => ?_
        rcases List.mem_cons.1 hp with rfl | hp
        · rw [put_get_ne (fun h => d00 h.symm)]; exact q0
        rcases List.mem_cons.1 hp with rfl | hp
        · rw [put_get_ne (fun h => d01 h.symm)]; exact q1
        · obtain rfl := List.mem_singleton.1 hp
          rw [put_get (by omega)]
          simp [RelV, RelX]
      refine pieceL hP (picks := [d0, dk]) (xs := [.mp b, kx a0 a1]) (by rw [hlen]; exact h2 a0 a1 b) hT1 (by rw [put_defers]; exact hde) fun M3 a3 w3 hp3 hs3 hd3 hb3' => ?_
      rw [hlen] at hs3
      have e1 : a3.tmps.getD d0 undef = .map (some b) := by
        have := hp3 0 d0 _ rfl rfl
        simpa [RelV, RelX] using this
      have e2 : a3.tmps.getD dk undef = .agg #[.int .i64 a0, .int .i64 a1] := hkx _ _ _ _ (hp3 1 dk _ rfl rfl)
      have hm3 : MapAt w3 b (mapT 0) := hm.kept hb3' (by omega)
      have hlook : ∃ (v : Int) (q : Bool), (Instr.lookup T (.map (some b)) (.agg #[.int .i64 a0, .int .i64 a1]) true).run P w3 = .ok (.tuple #[.int .i64 v, .bool q]) w3 ∧ IntKind.i64.has v ∧ orE 9 (codeL a0 a1) = inl2 (codeF2 v q) := by
        rcases MapAt.look hK hT hm3 (codes_keys hkey) (hkey a0 a1 g0 g1) (hz w3) with ⟨v, hv, hrun⟩ | ⟨hno, hrun⟩
        · obtain ⟨m, hm1, rfl, hm2⟩ := codeL_of hv
          exact ⟨m, true, hrun, hm2, by rw [hm1]; rfl⟩
        · exact ⟨0, false, hrun, has_of_inB rfl, by rw [codeL_none hno]; rfl⟩
      obtain ⟨v, q, hrun, hv, hq⟩ := hlook
      have hrun2 : (execOp a3.eval ol).run P w3 = .ok (.value (.tuple #[.int .i64 v, .bool q])) w3 := by
        simp [execOp, hl1, Go.Act.eval, ← Array.getD_eq_getD_getElem?, e1, e2, hrun, Result.andThen]
      refine wpl hl2 hrun2 ?_
      rw [hl3]
      have hT4 : RelT M0 (pickT n [(dl, .tup [.int .i64 none v, .bool none q])]) (a3.put (some dl) (.tuple #[.int .i64 v, .bool q])).tmps := by
        refine relT_pick (by rw [put_size]; exact hs3) fun p hp => ?_
        obtain rfl := List.mem_singleton.1 hp
        rw [put_get (by omega)]
        simp only [RelV, RelX]
        exact ⟨_, rfl, RelL_cons.2 ⟨_, _, rfl, relV_int_mk hv, RelL_cons.2 ⟨_, _, rfl, by simp [RelX], RelL_nil.2 rfl⟩⟩⟩
      have h2s : ∃ l, codeF2 v q = some (.inl l) := by cases q <;> exact ⟨_, rfl⟩
      obtain ⟨l4, h4⟩ := h2s
      refine pieceLC hP (fn := fn) (slots := []) (r := .inl l4) (by rw [hlen]; rw [← h4]; exact h3 v q) hT4 (by rw [put_defers]; exact hd3) fun e5 a5 w5 ⟨hb5, hd5, _, he5⟩ => ?_
      cases e5 with
      | ret =>
        obtain ⟨l5, hl5, hhas5, hres5⟩ := he5
        cases hl5
        refine ⟨hd5, _, hres5, ?_⟩
        have : l4 = [x, y] := by
          have hd2 : orE 9 (codeL a0 a1) = some (x, y, ()) := by
            simpa only [codeF, hF] using hd
          rw [hq, h4] at hd2
          exact inl2_of hd2
        subst this
        exact ⟨rfl, hhas5, hbl.trans (Below.weak (hb3.trans (Below.weak (hb3'.trans (Below.weak hb5 hb3'.size)) hb3.size)) hbl.size)⟩
      | normal => obtain ⟨l5, hl5, _⟩ := he5; cases hl5
      | _ => cases he5
    | _ => cases he
theorem formatL_of {x y : Int} {e : Int × Int × Int} (he : e ∈ codesT) (hy : e.2.1 = y) (hx : e.2.2 = x) : formatL x y = some e.1 := by
  have : codesT.all (fun e => formatL e.2.2 e.2.1 == some e.1) = true := by decide
  have := List.all_eq_true.1 this e he
  rw [hy, hx] at this
  simpa using this
theorem formatL_none {x y : Int} (h : ∀ e ∈ codesT, ¬ (e.2.1 = y ∧ e.2.2 = x)) : formatL x y = none := by
  unfold formatL
  rw [Option.map_eq_none_iff, List.find?_eq_none]
  intro e he hq
  simp only [Bool.and_eq_true, beq_iff_eq] at hq
  exact h e he hq
theorem codes_mem {k v : Value} (h : (k, v) ∈ mapT 0) : ∃ e ∈ codesT, k = .agg #[.int .i64 e.1, .int .i64 e.2.1] ∧ v = .int .i64 e.2.2 := by
  obtain ⟨e, he, heq⟩ := List.mem_map.1 h
  cases heq
  exact ⟨e, he, rfl, rfl⟩
theorem formatB_ret {x y f i n : Int} {r : Nat} {l : List Int} (h : formatB x y f i n r = some (.inl l)) : i = y ∧ n = x ∧ l = [f, 0] := by
  unfold formatB at h
  cases h1 : (i == y) <;> cases h2 : (n == x) <;> rw [h1] at h <;> try rw [h2] at h
  all_goals cases h
  exact ⟨by simpa using h1, by simpa using h2, rfl⟩
theorem formatB_next {x y f i n : Int} {r : Nat} {l : List Int} (h : formatB x y f i n r = some (.inr l)) : ¬ (i = y ∧ n = x) ∧ l = [x, y, (r : Int)] := by
  unfold formatB at h
  cases h1 : (i == y) <;> cases h2 : (n == x) <;> rw [h1] at h <;> try rw [h2] at h
  all_goals cases h
  · exact ⟨fun q => by simp [q.1] at h1, rfl⟩
  · exact ⟨fun q => by simp [q.1] at h1, rfl⟩
  · exact ⟨fun q => by simp [q.2] at h2, rfl⟩
structure FLoop (n dr b r : Nat) (x y : Int) (w0 : World) (k : Nat) (a : Go.Act) (w : World) : Prop where
  size : a.tmps.size = n
  defers : a.defers = []
  s0 : RelV M0 (.int .i64 none x) (a.tmps.getD 0 undef)
  s1 : RelV M0 (.int .i64 none y) (a.tmps.getD 1 undef)
  sr : a.tmps.getD dr undef = .pointer (some ⟨r, 0, none⟩)
  mem : ∃ es clock seen, w.heap[b]? = some (.map es clock) ∧ MapKept.Stamped es clock ∧ (es.toList.map fun e => (e.key, e.val)).Perm (mapT 0) ∧ w.heap[r]? = some (.mapIter (some b) clock seen clock) ∧ (leftOf es seen).size = k ∧
    ∀ e ∈ es.toList, seen.contains e.born = true → ∀ q ∈ codesT, (e.key, e.val) = (.agg #[.int .i64 q.1, .int .i64 q.2.1], .int .i64 q.2.2) → ¬ (q.2.1 = y ∧ q.2.2 = x)
  below : Below w0.heap.size w0 w
  hb : w0.heap.size ≤ b
  hr : w0.heap.size ≤ r
  ne : r ≠ b
theorem format_spec {P : Program} (hP : Callable P) {f fc : FuncId} {fn fnc : Func} {c c6 c7 : Code} {i1 i2 i3 i4 i5 n : Nat} {ops1 ops3 ops5 : Array Oper} {T K E : TypeId} {o0 o1 o2 o3 o5 : Oper} {l5 : List Oper} {d0 dr dn dc de : Nat}
    (hf : P.funcs[f]? = some fn) (hb : fn.body = some c) (hn : fn.ntmps = n) (hsz : 1 < n ∧ d0 < n ∧ dr < n ∧ dn < n ∧ dc < n ∧ de < n ∧ d0 ≠ 0 ∧ d0 ≠ 1 ∧ dr ≠ 0 ∧ dr ≠ 1 ∧ dn ≠ 0 ∧ dn ≠ 1 ∧ dn ≠ dr ∧ dc ≠ 0 ∧ dc ≠ 1 ∧ dc ≠ dr ∧ de ≠ 0 ∧ de ≠ 1 ∧ de ≠ dr)
    (hr : rest 2 c = .seq (.seq (.region i1 ops1 false) (.block i2 (.loop (.seq (.region i3 ops3 false) (.seq (.cond (.tmp dc) .skip (.exit i2)) (.block i4 (.seq (.region i5 ops5 false) c6))))))) c7)
    (hK : Maps.Keyed P K) (hT : P.underlying T = some (.map K E))
    (hfc : P.funcs[fc]? = some fnc) (hbc : fnc.body.isSome = true) (hcodes : CodesAt P fc)
    (hops1 : ops1.toList = [o0, o1]) (hops3 : ops3.toList = [o2, o3]) (hops5 : ops5.toList = o5 :: l5)
    (h01 : o0.op = .call ⟨.value (.func fc), #[], #[]⟩) (h02 : o0.guard = none) (h03 : o0.dst = some d0) (h11 : o1.op = .range T (.tmp d0)) (h12 : o1.guard = none) (h13 : o1.dst = some dr)
    (h21 : o2.op = .next (.tmp dr) false) (h22 : o2.guard = none) (h23 : o2.dst = some dn) (h31 : o3.op = .extract (.tmp dn) 0) (h32 : o3.guard = none) (h33 : o3.dst = some dc)
    (h51 : o5.op = .entry (.tmp dr)) (h52 : o5.guard = none) (h53 : o5.dst = some de)
    (h1 : ∀ x y, evPre P (cal0 P) qcal0 2 c ⟨pickT n [(0, .int .i64 none x), (1, .int .i64 none y)], H0⟩ (fun e st => if st.tmps.length = n then endK P fn [(0, false), (1, false)] e st else none) = formatF1 x y)
    (h6 : ∀ x y k i v r, evList P (cal0 P) ops5 l5 ⟨pickT n [(0, .int .i64 none x), (1, .int .i64 none y), (dr, .itr r), (de, .tup [.agg [.int .i64 none k, .int .i64 none i], .int .i64 none v])], H0⟩ (fun st => evCode P (cal0 P) qcal0 (fun _ => none) c6 st (fun e st => if st.tmps.length = n then endK P fn [(0, false), (1, false), (dr, true)] e st else none)) = formatB x y k i v r)
    (h7 : evCode P (cal0 P) qcal0 (fun _ => none) c7 ⟨pickT n [], H0⟩ (fun e st => if st.tmps.length = n then endK P fn [] e st else none) = some (.inl [0, 5])) :
    FnSpec P f 2 [.slot 0 (.int .i64), .slot 1 (.int .i64)] [.ty (.int .i64), .ty (.int .i64)] (fun d => formatF d.1 d.2.1) := by
  refine fnSpec2 fun d x y M vs w hl hd => ?_
  obtain ⟨a0, a1, ⟨⟩⟩ := d
  have hd : formatF a0 a1 = some (x, y, ()) := hd
  obtain ⟨v0, r0, hv, hx0, hr0⟩ := RelL_cons.1 (show RelL M [.int .i64 none a0, .int .i64 none a1] vs.toList from hl)
  obtain ⟨v1, r1, rfl, hx1, hr1⟩ := RelL_cons.1 hr0
  rw [RelL_nil] at hr1
  subst hr1
  obtain ⟨rfl, g0, _⟩ := relV_int (l := none) (x := a0) hx0
  obtain ⟨rfl, g1, _⟩ := relV_int (l := none) (x := a1) hx1
  obtain rfl : vs = #[.int .i64 a0, .int .i64 a1] := by
    apply Array.toList_inj.1
    simpa using hv
  refine calls_of_wp hf hb ?_
  rw [hn]
  obtain ⟨n1, nd0, ndr, ndn, ndc, nde, d00, d01, dr0, dr1, dn0, dn1, dnr, dc0, dc1, dcr, de0, de1, der⟩ := hsz
  have hs0 : (#[Value.int .i64 a0, Value.int .i64 a1] ++ Array.replicate (n - 2) undef).size = n := by simp; omega
  have hT0 : RelT M0 (pickT n [(0, .int .i64 none a0), (1, .int .i64 none a1)]) (#[Value.int .i64 a0, Value.int .i64 a1] ++ Array.replicate (n - 2) undef) := by
    refine relT_pick hs0 fun p hp => ?_
    rcases List.mem_cons.1 hp with rfl | hp
    · rw [getD_append (by simp)]
      exact relV_int_mk g0
    · obtain rfl := List.mem_singleton.1 hp
      rw [getD_append (by simp)]
      exact relV_int_mk g1
  have hlen : ∀ l : List (Nat × AV), (pickT n l).length = n := pickT_len n
  cases hF : formatF1 a0 a1 with
  | none => rw [formatF, hF] at hd; cases hd
  | some r =>
    refine piece hP (fn := fn) (slots := [(0, false), (1, false)]) (r := r) (by rw [hlen]; rw [← hF]; exact h1 a0 a1) hT0 rfl fun e a' w' ⟨hbl, hde, hsz', he⟩ => ?_
    rw [hlen] at hsz'
    cases e with
    | ret =>
      obtain ⟨l, rfl, hhas, hres⟩ := he
      refine ⟨hde, _, hres, ?_⟩
      have hl2 : l = [x, y] := inl2_of (by simpa only [formatF, hF] using hd)
      subst hl2
      exact ⟨rfl, hhas, hbl⟩
    | normal =>
      obtain ⟨l, rfl, hll, hsl⟩ := he
      have hl2 : l = [a0, a1] := formatF1_inr hF
      subst hl2
      have hd2 : orE 5 (formatL a0 a1) = some (x, y, ()) := by
        simpa only [formatF, hF] using hd
      show Code.wp P (rest 2 c) _ a' w'
      rw [hr]
      refine wp_seq (wp_seq (wp_region_list ?_))
      rw [hops1]
      refine wpl_enter h02 (run_call0 hP hfc hbc h01 a' w') ((hcodes w').mono ?_)
      rintro e2 w2 ⟨b, rfl, hb1, hb2, hb3, hm⟩
      refine ⟨_, rfl, ?_⟩
      rw [h03]
      have q0 : RelV M0 (.int .i64 none a0) (a'.tmps.getD 0 undef) := getD_int (n := n) hsl 0 (t := 0) rfl rfl
      have q1 : RelV M0 (.int .i64 none a1) (a'.tmps.getD 1 undef) := getD_int (n := n) hsl 1 (t := 1) rfl rfl
      obtain ⟨es, clock, m1, m2, m3⟩ := hm
      have e0 : (a'.put (some d0) (.map (some b))).tmps.getD d0 undef = .map (some b) := put_get (by omega)
      have hrun1 : (execOp (a'.put (some d0) (.map (some b))).eval o1).run P w2 = .ok (.value (.pointer (some ⟨w2.heap.size, 0, none⟩))) (w2.alloc (.mapIter (some b) clock #[] clock)) := by
        have := run_range_map (P := P) w2 T K E b es clock hT m1
        simp [execOp, h11, Go.Act.eval, ← Array.getD_eq_getD_getElem?, e0, this, Result.andThen]
      refine wpl h12 hrun1 ?_
      rw [h13]
      have hw3 : Below w2.heap.size w2 (w2.alloc (.mapIter (some b) clock #[] clock)) := Below.alloc w2 _ (Nat.le_refl _)
      have init : FLoop n dr b w2.heap.size a0 a1 w (leftOf es #[]).size ((a'.put (some d0) (.map (some b))).put (some dr) (.pointer (some ⟨w2.heap.size, 0, none⟩))) (w2.alloc (.mapIter (some b) clock #[] clock)) := by
        refine ⟨by rw [put_size, put_size]; exact hsz', by rw [put_defers, put_defers]; exact hde, ?_, ?_, put_get (by rw [put_size]; omega), ⟨es, clock, #[], ?_, m2, m3, (MapKept.heap_alloc w2 _).1, rfl, fun e _ h => by simp at h⟩, ?_, ?_, ?_, ?_⟩
        · rw [put_get_ne (fun h => dr0 h.symm), put_get_ne (fun h => d00 h.symm)]; exact q0
        · rw [put_get_ne (fun h => dr1 h.symm), put_get_ne (fun h => d01 h.symm)]; exact q1
        · exact ((MapKept.heap_alloc w2 _).2 b hb2).trans m1
        · exact hbl.trans (Below.weak (hb3.trans (Below.weak hw3 hb3.size)) hbl.size)
        · exact Nat.le_trans hbl.size hb1
        · exact Nat.le_trans hbl.size hb3.size
        · omega
      show Code.wp P (.block i2 _) _ _ _
      refine wp_block (wp_loop_ind (FLoop n dr b w2.heap.size a0 a1 w) init ?_)
      clear init hw3 hrun1 e0 q0 q1 hsl hde hsz' hbl hT0 hs0
      intro k a w3 I
      refine wp_seq (wp_region_list ?_)
      rw [hops3]
      obtain ⟨i_size, i_def, i0, i1', ir, ⟨es, clock, seen, j1, j2, j3, j4, j5, j6⟩, i_bel, i_b, i_r, i_ne⟩ := I
      have j2' := (MapKept.stamped_iff es clock).1 j2
      have two : ∀ (v : Value) (q : Bool) (w4 : World), (Instr.next (.pointer (some ⟨w2.heap.size, 0, none⟩)) false o2.type).run P w3 = .ok v w4 → (Instr.extract v 0).run P w4 = .ok (.bool q) w4 →
          ∀ {Q : Exit → Go.Act → World → Prop}, Q .normal ((a.put (some dn) v).put (some dc) (.bool q)) w4 → wpList P ops3 Q [o2, o3] a w3 := by
        intro v q w4 r1 r2 Q hQ
        have r3 : (execOp a.eval o2).run P w3 = .ok (.value v) w4 := by
          simp [execOp, h21, Go.Act.eval, ← Array.getD_eq_getD_getElem?, ir, r1, Result.andThen]
        refine wpl h22 r3 ?_
        rw [h23]
        have e1 : (a.put (some dn) v).tmps.getD dn undef = v := put_get (by omega)
        have r4 : (execOp (a.put (some dn) v).eval o3).run P w4 = .ok (.value (.bool q)) w4 := by
          simp [execOp, h31, Go.Act.eval, ← Array.getD_eq_getD_getElem?, e1, r2, Result.andThen]
        refine wpl h32 r4 ?_
        rw [h33]
        exact hQ
      rcases run_next_at (P := P) w3 o2.type w2.heap.size b clock clock seen es clock j4 j1 j2'.1 (Nat.le_refl _) with ⟨h0, hrun⟩ | ⟨e, hel, w4, hw4, hrun⟩
      · 
        refine two _ false w3 hrun (by simp [Instr.extract]) ?_
        refine wp_seq (wp_cond_false ?_ (wp_exit ?_))
        · have : ((a.put (some dn) (.tuple #[.bool false])).put (some dc) (.bool false)).tmps.getD dc undef = .bool false := put_get (by rw [put_size]; omega)
          simpa [Go.Act.eval, ← Array.getD_eq_getD_getElem?] using this
        show if i2 = i2 then _ else _
        rw [if_pos rfl]
        have hno : formatL a0 a1 = none := formatL_none fun q hq => by
          obtain ⟨e, he, heq⟩ := List.mem_map.1 (j3.mem_iff.2 (List.mem_map.2 ⟨q, hq, rfl⟩))
          exact j6 e he (all_seen es seen h0 e he) q hq heq
        rw [hno] at hd2
        have hxy : x = 0 ∧ y = 5 := by cases hd2; exact ⟨rfl, rfl⟩
        obtain ⟨rfl, rfl⟩ := hxy
        refine piece1 hP (fn := fn) (slots := []) (ts := pickT n []) (r := .inl [0, 5]) (by rw [hlen]; exact h7) (relT_pick (by rw [put_size, put_size]; exact i_size) (fun p hp => by cases hp)) (by rw [put_defers, put_defers]; exact i_def) fun e5 a5 w5 ⟨hb5, hd5, _, he5⟩ => ?_
        cases e5 with
        | ret =>
          obtain ⟨l5, hl5, hhas5, hres5⟩ := he5
          cases hl5
          exact ⟨hd5, _, hres5, rfl, hhas5, i_bel.trans (Below.weak hb5 i_bel.size)⟩
        | normal => obtain ⟨l5, hl5, _⟩ := he5; cases hl5
        | _ => cases he5
      · 
        obtain ⟨hem, hes⟩ := mem_left hel
        have hb4 : Below w3.heap.size w3 w4 := by
          rcases hw4 with rfl | rfl
          · exact Below.refl _ _
          · exact (Below.refl _ _).drew
        have hr4 : w4.heap[w2.heap.size]? = some (.mapIter (some b) clock seen clock) := by rcases hw4 with rfl | rfl <;> exact j4
        have hm4 : w4.heap[b]? = some (.map es clock) := by rcases hw4 with rfl | rfl <;> exact j1
        have hr5 := heap_set_same (o' := .mapIter (some b) clock (seen.push e.born) clock) hr4
        have hm5 : (setBlock w4 w2.heap.size (.mapIter (some b) clock (seen.push e.born) clock)).heap[b]? = some (.map es clock) := by
          rw [heap_set_other (fun h => i_ne h.symm)]
          exact hm4
        have hb5 : Below w.heap.size w (setBlock w4 w2.heap.size (.mapIter (some b) clock (seen.push e.born) clock)) := by
          refine (i_bel.trans (Below.weak hb4 i_bel.size)).trans ⟨rfl, rfl, rfl, by simp [setBlock], fun i hi => ?_⟩
          exact heap_set_other (by omega)
        refine two _ true _ hrun (by simp [Instr.extract]) ?_
        refine wp_seq (wp_cond_true ?_ (wp_skip ?_))
        · have : ((a.put (some dn) (.tuple #[.bool true, e.key, e.val])).put (some dc) (.bool true)).tmps.getD dc undef = .bool true := put_get (by rw [put_size]; omega)
          simpa [Go.Act.eval, ← Array.getD_eq_getD_getElem?] using this
        refine wp_block (wp_seq (wp_region_list ?_))
        rw [hops5]
        have e6 : ((a.put (some dn) (.tuple #[.bool true, e.key, e.val])).put (some dc) (.bool true)).tmps.getD dr undef = .pointer (some ⟨w2.heap.size, 0, none⟩) := by
          rw [put_get_ne (fun h => dcr h.symm), put_get_ne (fun h => dnr h.symm)]
          exact ir
        have r6 : (execOp ((a.put (some dn) (.tuple #[.bool true, e.key, e.val])).put (some dc) (.bool true)).eval o5).run P (setBlock w4 w2.heap.size (.mapIter (some b) clock (seen.push e.born) clock)) = .ok (.value (.tuple #[e.key, e.val])) (setBlock w4 w2.heap.size (.mapIter (some b) clock (seen.push e.born) clock)) := by
          have := run_entry_at (P := P) _ w2.heap.size b clock seen es clock e hr5 hm5 hem j2'.2.1
          simp [execOp, h51, Go.Act.eval, ← Array.getD_eq_getD_getElem?, e6, this, Result.andThen]
        refine wpl h52 r6 ?_
        rw [h53]
        obtain ⟨q, hq, hqk, hqv⟩ := codes_mem (j3.mem_iff.1 (List.mem_map.2 ⟨e, hem, rfl⟩))
        obtain ⟨c1, c2, c3⟩ := codes_has q hq
        have hT6 : RelT M0 (pickT n [(0, .int .i64 none a0), (1, .int .i64 none a1), (dr, .itr w2.heap.size), (de, .tup [.agg [.int .i64 none q.1, .int .i64 none q.2.1], .int .i64 none q.2.2])]) (((a.put (some dn) (.tuple #[.bool true, e.key, e.val])).put (some dc) (.bool true)).put (some de) (.tuple #[e.key, e.val])).tmps := by
          refine relT_pick (by rw [put_size, put_size, put_size]; exact i_size) fun p hp => ?_
          rcases List.mem_cons.1 hp with rfl | hp
          · rw [put_get_ne (fun h => de0 h.symm), put_get_ne (fun h => dc0 h.symm), put_get_ne (fun h => dn0 h.symm)]; exact i0
          rcases List.mem_cons.1 hp with rfl | hp
          · rw [put_get_ne (fun h => de1 h.symm), put_get_ne (fun h => dc1 h.symm), put_get_ne (fun h => dn1 h.symm)]; exact i1'
          rcases List.mem_cons.1 hp with rfl | hp
          · rw [put_get_ne (fun h => der h.symm), e6]
            simp [RelV, RelX]
          · obtain rfl := List.mem_singleton.1 hp
            rw [put_get (by rw [put_size, put_size]; omega), hqk, hqv]
            simp only [RelV, RelX]
            exact ⟨_, rfl, RelL_cons.2 ⟨_, _, rfl, RelX_agg.2 ⟨_, rfl, RelC_cons.2 ⟨_, _, rfl, relV_int_mk c1, RelC_single.2 (relV_int_mk c2)⟩⟩, RelL_cons.2 ⟨_, _, rfl, relV_int_mk c3, RelL_nil.2 rfl⟩⟩⟩
        have hB : ∃ r, formatB a0 a1 q.1 q.2.1 q.2.2 w2.heap.size = some r := by
          unfold formatB
          cases (q.2.1 == a1) <;> cases (q.2.2 == a0) <;> exact ⟨_, rfl⟩
        obtain ⟨r, hB⟩ := hB
        refine pieceLC hP (fn := fn) (slots := [(0, false), (1, false), (dr, true)]) (r := r) (by rw [hlen]; rw [← hB]; exact h6 a0 a1 q.1 q.2.1 q.2.2 w2.heap.size) hT6 (by rw [put_defers, put_defers, put_defers]; exact i_def) fun e7 a7 w7 ⟨hb7, hd7, hs7, he7⟩ => ?_
        rw [hlen] at hs7
        have hb7' : Below w.heap.size w w7 := hb5.trans (Below.weak hb7 hb5.size)
        cases e7 with
        | ret =>
          obtain ⟨l7, rfl, hhas7, hres7⟩ := he7
          have hmatch := formatB_ret hB
          obtain ⟨u1, u2, rfl⟩ := hmatch
          rw [formatL_of hq u1 u2] at hd2
          have hxy : x = q.1 ∧ y = 0 := by cases hd2; exact ⟨rfl, rfl⟩
          obtain ⟨rfl, rfl⟩ := hxy
          exact ⟨hd7, _, hres7, rfl, hhas7, hb7'⟩
        | normal =>
          obtain ⟨l7, rfl, hl7, hsl7⟩ := he7
          have hmatch := formatB_next hB
          obtain ⟨hnot, rfl⟩ := hmatch
          have hlt := left_shrinks es seen e hel
          rw [j5] at hlt
          refine ⟨_, hlt, hs7, hd7, getD_int (n := n) hsl7 0 (t := 0) rfl rfl, getD_int (n := n) hsl7 1 (t := 1) rfl rfl, ?_, ⟨es, clock, seen.push e.born, ?_, j2, j3, ?_, rfl, fun e' he' hs' q' hq' heq => ?_⟩, hb7', i_b, i_r, i_ne⟩
          · have := (hsl7 2 _ (dr, true) rfl rfl).1
            simpa [slotVal] using this
          · rw [hb7.block b (Array.getElem?_eq_some_iff.1 hm5).1]
            exact hm5
          · rw [hb7.block _ (Array.getElem?_eq_some_iff.1 hr5).1]
            exact hr5
          · rw [contains_push] at hs'
            rcases Bool.or_eq_true_iff.1 hs' with hs' | hs'
            · exact j6 e' he' hs' q' hq' heq
            · have hb : e'.born = e.born := by simpa using hs'
              have : e' = e := born_inj j2'.2.1 he' hem hb
              subst this
              rw [hqk, hqv] at heq
              simp only [Prod.mk.injEq, Value.agg.injEq, Array.mk.injEq, List.cons.injEq, Value.int.injEq, true_and, and_true] at heq
              rw [← heq.1.2, ← heq.2]
              exact hnot
        | _ => cases he7
    | _ => cases he
theorem letters_keys {P : Program} {k : TypeId} (hu : P.underlying k = some .string) : ∀ p ∈ lettersV, ∃ l, keyOf P k p.1 = some l := by
  intro p hp
  obtain ⟨e, he, rfl⟩ := List.mem_map.1 hp
  have hb : lettersT.all (fun e => inB .i64 (e.1.length : Int)) = true := by decide
  exact strKeys hu (has_of_inB (List.all_eq_true.1 hb e he))
theorem letters_apart : (lettersV ++ []).Pairwise (fun (p q : Value × Value) => p.1 ≠ q.1) := by
  rw [List.append_nil]
  unfold lettersV
  rw [List.pairwise_map]
  have hb : lettersT.all (fun e => e.1.all fun x => decide (0 ≤ x ∧ x ≤ 255)) = true := by decide
  have hp : lettersT.Pairwise (fun a b => a.1 ≠ b.1) := by decide
  refine hp.imp_of_mem fun {a b} ha hb' h e => h ?_
  have h1 : ∀ x ∈ a.1, 0 ≤ x ∧ x ≤ 255 := fun x hx => by simpa using List.all_eq_true.1 (List.all_eq_true.1 hb a ha) x hx
  have h2 : ∀ x ∈ b.1, 0 ≤ x ∧ x ≤ 255 := fun x hx => by simpa using List.all_eq_true.1 (List.all_eq_true.1 hb b hb') x hx
  simp only [Value.string.injEq] at e
  rw [← bytesL_mkS h1, e, bytesL_mkS h2]
theorem letters_spec {P : Program} (hP : Callable P) {f : FuncId} {fn : Func} {c3 : Code} {i0 i1 n : Nat} {ops0 ops1 : Array Oper} {T K E : TypeId} {om ol : Oper} {li l1 l2 : List Oper} {dm dk ds dl : Nat}
    (hf : P.funcs[f]? = some fn) (hb : fn.body = some (.seq (.region i0 ops0 false) (.seq (.region i1 ops1 false) c3))) (hn : fn.ntmps = n) (hsz : 0 < n ∧ dm < n ∧ dl < n ∧ dm ≠ 0)
    (hK : Maps.Keyed P K) (hu : P.underlying K = some .string) (hT : P.underlying T = some (.map K E)) (hz : ∀ w, (zeroValue E).run P w = .ok (.int .i64 0) w)
    (hops : ops1.toList = om :: (li ++ (l1 ++ ol :: l2)))
    (hm1 : om.op = .makeMap T none) (hm2 : om.guard = none) (hm3 : om.dst = some dm) (hl1 : ol.op = .lookup T (.tmp dk) (.tmp ds) true) (hl2 : ol.guard = none) (hl3 : ol.dst = some dl)
    (h0 : ∀ s, evList P (evFn P (emptyEnv (List AV)) 12) ops0 ops0.toList ⟨pickT n [(0, .str s)], H0⟩ (fun st => if st.tmps.length = n then some ([0].map fun t => st.tmps.getD t .undef) else none) = some [.str s])
    (hi : (li.all fun o => o.guard.isNone && o.dst.isNone) = true) (hi2 : ∀ (a : Go.Act) (b : Nat), a.eval (.tmp dm) = .map (some b) → li.map (insOf a b) = lettersV.map fun p => some (T, b, p.1, p.2))
    (h1 : ∀ s b, evList P (evFn P (emptyEnv (List AV)) 12) ops1 l1 ⟨pickT n [(0, .str s), (dm, .mp b)], H0⟩ (fun st => if st.tmps.length = n then some ([dk, ds].map fun t => st.tmps.getD t .undef) else none) = some [.mp b, .str s])
    (h2 : ∀ v b, evList P (cal0 P) ops1 l2 ⟨pickT n [(dl, .tup [.int .i64 none v, .bool none b])], H0⟩ (fun st => evCode P (cal0 P) qcal0 (fun _ => none) c3 st (fun e st => if st.tmps.length = n then endK P fn [] e st else none)) = lettersF2 v b) :
    FnSpec P f 1 [.slot 0 .str] [.ty (.int .i64), .ty (.int .i64)] (fun d => lettersF d.1) := by
  refine fnSpec2 fun d x y M vs w hl hd => ?_
  obtain ⟨s, ⟨⟩⟩ := d
  have hd : orE 5 (lettersL s) = some (x, y, ()) := hd
  obtain ⟨v0, r0, hv, hx0, hr0⟩ := RelL_cons.1 (show RelL M [.str s] vs.toList from hl)
  rw [RelL_nil] at hr0
  subst hr0
  simp only [RelX] at hx0
  obtain ⟨hx0, hs1, hs2⟩ := hx0
  have hx0 : v0 = .string (mkS s) := by simpa using hx0
  subst hx0
  obtain rfl : vs = #[.string (mkS s)] := by
    apply Array.toList_inj.1
    simpa using hv
  have hrs : RelV M0 (.str s) (.string (mkS s)) := by simp only [RelV, RelX]; exact ⟨trivial, hs1, hs2⟩
  refine calls_of_wp hf hb ?_
  rw [hn]
  obtain ⟨n0, nm, nl, dm0⟩ := hsz
  have hlen : ∀ l : List (Nat × AV), (pickT n l).length = n := pickT_len n
  have hs0 : (#[Value.string (mkS s)] ++ Array.replicate (n - 1) undef).size = n := by simp; omega
  have hT0 : RelT M0 (pickT n [(0, .str s)]) (#[Value.string (mkS s)] ++ Array.replicate (n - 1) undef) := by
    refine relT_pick hs0 fun p hp => ?_
    obtain rfl := List.mem_singleton.1 hp
    rw [getD_append (by simp)]
    exact hrs
  refine wp_seq (wp_region_list ?_)
  rw [← List.append_nil ops0.toList]
  refine pieceL hP (picks := [0]) (xs := [.str s]) (by rw [hlen]; exact h0 s) hT0 rfl fun M1 a1 w1 hp1 hs1' hd1 hb1 => ?_
  rw [hlen] at hs1'
  have q0 : a1.tmps.getD 0 undef = .string (mkS s) := by
    have := hp1 0 0 _ rfl rfl
    simp only [RelV, RelX] at this
    simpa using this.1
  show Code.wp P _ _ a1 w1
  refine wp_seq (wp_region_list ?_)
  rw [hops]
  refine wpl (w' := w1.alloc (.map #[] 0)) (v := .map (some w1.heap.size)) hm2 (by simp [execOp, hm1, run_makeMap, Result.andThen]) ?_
  rw [hm3]
  have e0 : (a1.put (some dm) (.map (some w1.heap.size))).tmps.getD dm undef = .map (some w1.heap.size) := put_get (by omega)
  have hw2 : Below w1.heap.size w1 (w1.alloc (.map #[] 0)) := Below.alloc w1 _ (Nat.le_refl _)
  have hwA : Below w.heap.size w (w1.alloc (.map #[] 0)) := hb1.trans (Below.weak hw2 hb1.size)
  refine wpList_inss hK hT (b := w1.heap.size) (n0 := w.heap.size) (w0 := w) hb1.size (T := []) (ents := lettersV) hi (hi2 _ _ (by simpa [Go.Act.eval, ← Array.getD_eq_getD_getElem?] using e0)) (letters_keys hu) (fun p hp => by cases hp) letters_apart (MapAt.made w1) hwA hwA.size fun w3 hm hb3 _ => ?_
  have hm : MapAt w3 w1.heap.size lettersV := hm.perm (by rw [List.append_nil]; exact List.reverse_perm _)
  have hT1 : RelT M0 (pickT n [(0, .str s), (dm, .mp w1.heap.size)]) (a1.put (some dm) (.map (some w1.heap.size))).tmps := by
    refine relT_pick (by rw [put_size]; exact hs1') fun p hp => ?_
    rcases List.mem_cons.1 hp with rfl | hp
    · rw [put_get_ne (fun h => dm0 h.symm), q0]; exact hrs
    · obtain rfl := List.mem_singleton.1 hp
      rw [e0]
      simp [RelV, RelX]
  refine pieceL hP (picks := [dk, ds]) (xs := [.mp w1.heap.size, .str s]) (by rw [hlen]; exact h1 s w1.heap.size) hT1 (by rw [put_defers]; exact hd1) fun M4 a4 w4 hp4 hs4 hd4 hb4 => ?_
  rw [hlen] at hs4
  have e1 : a4.tmps.getD dk undef = .map (some w1.heap.size) := by
    have := hp4 0 dk _ rfl rfl
    simpa [RelV, RelX] using this
  have e2 : a4.tmps.getD ds undef = .string (mkS s) := by
    have := hp4 1 ds _ rfl rfl
    simp only [RelV, RelX] at this
    simpa using this.1
  have hm4 : MapAt w4 w1.heap.size lettersV := hm.kept hb4 (by
    obtain ⟨es, clock, g, _⟩ := hm
    exact (Array.getElem?_eq_some_iff.1 g).1)
  have hlook : ∃ (v : Int) (q : Bool), (Instr.lookup T (.map (some w1.heap.size)) (.string (mkS s)) true).run P w4 = .ok (.tuple #[.int .i64 v, .bool q]) w4 ∧ IntKind.i64.has v ∧ orE 5 (lettersL s) = inl2 (lettersF2 v q) := by
    rcases MapAt.look hK hT hm4 (letters_keys hu) (strKeys hu hs2) (hz w4) with ⟨v, hv, hrun⟩ | ⟨hno, hrun⟩
    · obtain ⟨m, hm1, rfl, hm2⟩ := lettersL_of hs1 hv
      exact ⟨m, true, hrun, hm2, by rw [hm1]; rfl⟩
    · exact ⟨0, false, hrun, has_of_inB rfl, by rw [lettersL_none hno]; rfl⟩
  obtain ⟨v, q, hrun, hv', hq⟩ := hlook
  have hrun2 : (execOp a4.eval ol).run P w4 = .ok (.value (.tuple #[.int .i64 v, .bool q])) w4 := by
    simp [execOp, hl1, Go.Act.eval, ← Array.getD_eq_getD_getElem?, e1, e2, hrun, Result.andThen]
  refine wpl hl2 hrun2 ?_
  rw [hl3]
  have hT4 : RelT M0 (pickT n [(dl, .tup [.int .i64 none v, .bool none q])]) (a4.put (some dl) (.tuple #[.int .i64 v, .bool q])).tmps := by
    refine relT_pick (by rw [put_size]; exact hs4) fun p hp => ?_
    obtain rfl := List.mem_singleton.1 hp
    rw [put_get (by omega)]
    simp only [RelV, RelX]
    exact ⟨_, rfl, RelL_cons.2 ⟨_, _, rfl, relV_int_mk hv', RelL_cons.2 ⟨_, _, rfl, by simp [RelX], RelL_nil.2 rfl⟩⟩⟩
  have h2s : ∃ l, lettersF2 v q = some (.inl l) := by cases q <;> exact ⟨_, rfl⟩
  obtain ⟨l4, h4⟩ := h2s
  refine pieceLC hP (fn := fn) (slots := []) (r := .inl l4) (by rw [hlen]; rw [← h4]; exact h2 v q) hT4 (by rw [put_defers]; exact hd4) fun e5 a5 w5 ⟨hb5, hd5, _, he5⟩ => ?_
  cases e5 with
  | ret =>
    obtain ⟨l5, hl5, hhas5, hres5⟩ := he5
    cases hl5
    refine ⟨hd5, _, hres5, ?_⟩
    have : l4 = [x, y] := by
      rw [hq, h4] at hd
      exact inl2_of hd
    subst this
    exact ⟨rfl, hhas5, hb3.trans (Below.weak (hb4.trans (Below.weak hb5 hb4.size)) hb3.size)⟩
  | normal => obtain ⟨l5, hl5, _⟩ := he5; cases hl5
  | _ => cases he5
def AllB (P : Program) (ops : Array Oper) : List (Nat × Nat × Value) → Prop
  | [] => True
  | p :: r => (∃ o, ops[p.1]? = some o ∧ o.guard = none ∧ o.dst = some p.2.1 ∧ ∀ (a : Go.Act) (w : World), (execOp a.eval o).run P w = .ok (.value p.2.2) w) ∧ AllB P ops r
def takesB (ops : Array Oper) : Array Bool → List (Nat × Nat × Value) → Bool
  | _, [] => true
  | L, p :: r => Region.free .any ops L p.1 && (Region.ready .any ops L).contains p.1 && takesB ops (L.setIfInBounds p.1 true) r
def takeL (L : Array Bool) (l : List (Nat × Nat × Value)) : Array Bool := l.foldl (fun L p => L.setIfInBounds p.1 true) L
def putsA (a : Go.Act) (l : List (Nat × Nat × Value)) : Go.Act := l.foldl (fun a p => a.put (some p.2.1) p.2.2) a
theorem wpAny_builds {P : Program} {ops : Array Oper} {Q : Exit → Go.Act → World → Prop} (hs : Region.noSelect ops = true) (hQ : ∀ c (a a' : Go.Act) w, Q (.panic c) a w → Q (.panic c) a' w) : ∀ {l : List (Nat × Nat × Value)} {L : Array Bool} {a : Go.Act} {w : World} {f : Nat},
    AllB P ops l → takesB ops L l = true → wpAny P .any ops Q f (takeL L l) (putsA a l) w → wpAny P .any ops Q (f + l.length) L a w
  | [], L, a, w, f, _, _, h => h
  | p :: l, L, a, w, f, hb, ht, h => by
    obtain ⟨⟨o, h1, h2, h3, h4⟩, hb⟩ := hb
    simp only [takesB, Bool.and_eq_true] at ht
    refine wpAny_take (i := p.1) (v := p.2.2) h1 hs ht.1.1 ht.1.2 (fun c a' w' hq => hQ c _ _ w' hq) (.inl ⟨by simp [Region.wanted, h2], fun w => h4 a w⟩) ?_
    rw [h3]
    exact wpAny_builds hs hQ hb ht.2 h
theorem wpOp_run {P : Program} {ops : Array Oper} {Q : Exit → Go.Act → World → Prop} {i : Nat} {o : Oper} {K : Go.Act → World → Prop} {a : Go.Act} {w w' : World} {v : Value} (hi : ops[i]? = some o) (hg : o.guard = none) (hrun : (execOp a.eval o).run P w = .ok (.value v) w') (h : K (a.put o.dst v) w') : wpOp P ops Q i K a w := by
  unfold wpOp
  rw [hi]
  simp only [Region.wanted, hg, if_true]
  left
  unfold Oper.wp
  rw [hrun, Oper.upon_value]
  exact h
def codesS : List Nat := (List.range 18).map fun i => 2 * i + 2
def codesE (i : Nat) : Value × Value := (mapT 0).getD (i / 2 - 1) (undef, undef)
theorem codesE_map : codesS.map codesE = mapT 0 := rfl
theorem codesE_ne : ∀ i ∈ codesS, ∀ j ∈ codesS, i ≠ j → (codesE i).1 ≠ (codesE j).1 := by
  have h : codesS.all (fun i => codesS.all fun j => i == j || !((codesT.getD (i / 2 - 1) (0, 0, 0)).1 == (codesT.getD (j / 2 - 1) (0, 0, 0)).1 && (codesT.getD (i / 2 - 1) (0, 0, 0)).2.1 == (codesT.getD (j / 2 - 1) (0, 0, 0)).2.1)) = true := by decide
  have e : ∀ i ∈ codesS, codesE i = (.agg #[.int .i64 (codesT.getD (i / 2 - 1) (0, 0, 0)).1, .int .i64 (codesT.getD (i / 2 - 1) (0, 0, 0)).2.1], .int .i64 (codesT.getD (i / 2 - 1) (0, 0, 0)).2.2) := by
    intro i hi
    obtain ⟨k, hk, rfl⟩ := List.mem_map.1 hi
    have hk := List.mem_range.1 hk
    match k, hk with
    | 0, _ | 1, _ | 2, _ | 3, _ | 4, _ | 5, _ | 6, _ | 7, _ | 8, _ | 9, _ | 10, _ | 11, _ | 12, _ | 13, _ | 14, _ | 15, _ | 16, _ | 17, _ => rfl
    | n + 18, h => omega
  intro i hi j hj hne hq
  have := List.all_eq_true.1 (List.all_eq_true.1 h i hi) j hj
  rw [e i hi, e j hj] at hq
  simp only [Value.agg.injEq, Array.mk.injEq, List.cons.injEq, Value.int.injEq, true_and, and_true] at hq
  rw [hq.1, hq.2] at this
  simp at this
  exact hne this
theorem codesE_key {P : Program} {k : TypeId} (hk : PairKeys P k) : ∀ i ∈ codesS, ∃ l, keyOf P k (codesE i).1 = some l := by
  intro i hi
  refine codes_keys hk _ ?_
  rw [← codesE_map]
  exact List.mem_map.2 ⟨i, hi, rfl⟩
def codesA0 (n : Nat) : Go.Act := ({ tmps := #[] ++ Array.replicate (n - 0) undef, defers := [] } : Go.Act).put (some 0) (.map none)
theorem codes_at {P : Program} {f : FuncId} {fn : Func} {i0 i1 n : Nat} {ops0 ops : Array Oper} {T K E : TypeId} {oz om o37 o38 : Oper} {dm d37 : Nat} {bl : List (Nat × Nat × Value)}
    (hf : P.funcs[f]? = some fn) (hb : fn.body = some (.seq (.region i0 ops0 false) (.seq (.region i1 ops true) .ret))) (hn : fn.ntmps = n) (hres : fn.results = #[.tmp 0]) (hm : P.follows .mixedOrders = true)
    (hz : ops0.toList = [oz]) (hz1 : oz.op = .assign (.const (.map none))) (hz2 : oz.guard = none) (hz3 : oz.dst = some 0)
    (hsz : ops.size = 39) (hbl : bl.length = 18) (hs : Region.noSelect ops = true) (hAll : AllB P ops bl) (ht : takesB ops (Array.replicate 39 false) bl = true)
    (hr0 : Region.ready .any ops (takeL (Array.replicate 39 false) bl) = [0]) (hm0 : ops[0]? = some om) (hm1 : om.op = .makeMap T none) (hm2 : om.guard = none) (hm3 : om.dst = some dm)
    (hK : Maps.Keyed P K) (hT : P.underlying T = some (.map K E)) (hkey : PairKeys P K)
    (hir : insReady ops ((takeL (Array.replicate 39 false) bl).setIfInBounds 0 true) codesS = true)
    (hins : ∀ b, codesS.map (fun i => (ops[i]?).bind (insOf ((putsA (codesA0 n) bl).put (some dm) (.map (some b))) b)) = codesS.map fun i => some (T, b, (codesE i).1, (codesE i).2))
    (hr1 : Region.ready .any ops (setAll codesS ((takeL (Array.replicate 39 false) bl).setIfInBounds 0 true)) = [37]) (h37 : ops[37]? = some o37) (h371 : o37.op = .move (.tmp dm)) (h372 : o37.guard = none) (h373 : o37.dst = some d37)
    (hr2 : Region.ready .any ops ((setAll codesS ((takeL (Array.replicate 39 false) bl).setIfInBounds 0 true)).setIfInBounds 37 true) = [38]) (h38 : ops[38]? = some o38) (h381 : o38.op = .assign (.tmp d37)) (h382 : o38.guard = none) (h383 : o38.dst = some 0)
    (hr3 : Region.ready .any ops (((setAll codesS ((takeL (Array.replicate 39 false) bl).setIfInBounds 0 true)).setIfInBounds 37 true).setIfInBounds 38 true) = [])
    (hsA : (putsA (codesA0 n) bl).tmps.size = n ∧ 0 < n ∧ dm < n ∧ d37 < n) (hdA : (putsA (codesA0 n) bl).defers = []) : CodesAt P f := by
  intro w
  refine calls_of_wp hf hb ?_
  rw [hn]
  refine wp_seq (wp_region_list ?_)
  rw [hz]
  refine wpl (w' := w) (v := .map none) hz2 (by simp [execOp, hz1, Go.Act.eval]) ?_
  rw [hz3]
  show Code.wp P _ _ (codesA0 n) w
  obtain ⟨hsA, n0, nm, n37⟩ := hsA
  refine wp_seq ?_
  generalize hQ : bodyPost P fn _ = Q
  refine Code.wp_mono (Q := fun e a w' => e = .normal ∧ Code.wp P .ret Q a w') (fun e a w' h => by rw [h.1]; exact h.2) (wp_region_any hm ?_)
  subst hQ
  rw [hsz]
  show wpAny P .any ops _ (21 + 18) _ _ _
  rw [← hbl]
  refine wpAny_builds hs (fun c a a' w' hq => by cases hq.1) hAll ht ?_
  show wpAny P .any ops _ (20 + 1) _ _ _
  refine wpAny_all hr0 (by simp) fun i hi => ?_
  obtain rfl : i = 0 := by simpa using hi
  have hrun : (execOp (putsA (codesA0 n) bl).eval om).run P ({ w with drawn := w.drawn + 1 } : World) = .ok (.value (.map (some w.heap.size))) (({ w with drawn := w.drawn + 1 } : World).alloc (.map #[] 0)) := by
    have h1 := run_makeMap (P := P) T ({ w with drawn := w.drawn + 1 } : World)
    unfold execOp
    rw [hm1]
    simp only [Option.map_none, Sem.run_bind, h1, Result.andThen_ok, Sem.run_pure]
  refine wpOp_run hm0 hm2 hrun ?_
  rw [hm3]
  have hb0 : Below w.heap.size w ({ w with drawn := w.drawn + 1 } : World) := (Below.refl _ _).drew
  have hb1 : Below w.heap.size w (({ w with drawn := w.drawn + 1 } : World).alloc (.map #[] 0)) := hb0.trans (Below.alloc _ _ (Nat.le_refl _))
  show wpAny P .any ops _ (2 + 18) (setAll [] _) _ _
  refine wpAny_ins (n0 := w.heap.size) (w0 := w) (b := w.heap.size) (ent := codesE) hK hT (by decide) hir (hins w.heap.size) (codesE_key hkey) codesE_ne (Nat.le_refl _) ?_ 18 [] _ (fun i h => by cases h) List.nodup_nil (by decide) (MapAt.made ({ w with drawn := w.drawn + 1 } : World)) hb1 hb1.size
  intro w3 hm3' hb3
  rw [codesE_map] at hm3'
  have e1 : ((putsA (codesA0 n) bl).put (some dm) (.map (some w.heap.size))).tmps.getD dm undef = .map (some w.heap.size) := put_get (by omega)
  refine wpAny_all hr1 (by simp) fun i hi => ?_
  obtain rfl : i = 37 := by simpa using hi
  refine wpOp_run (w' := w3) (v := .map (some w.heap.size)) h37 h372 (by simp [execOp, h371, Go.Act.eval, ← Array.getD_eq_getD_getElem?, e1]) ?_
  rw [h373]
  have e2 : (((putsA (codesA0 n) bl).put (some dm) (.map (some w.heap.size))).put (some d37) (.map (some w.heap.size))).tmps.getD d37 undef = .map (some w.heap.size) := put_get (by rw [put_size]; omega)
  refine wpAny_all hr2 (by simp) fun i hi => ?_
  obtain rfl : i = 38 := by simpa using hi
  refine wpOp_run (w' := w3) (v := .map (some w.heap.size)) h38 h382 (by simp [execOp, h381, Go.Act.eval, ← Array.getD_eq_getD_getElem?, e2]) ?_
  rw [h383]
  refine wpAny_done hr3 ⟨rfl, wp_ret ⟨by rw [put_defers, put_defers, put_defers]; exact hdA, .map (some w.heap.size), ?_, w.heap.size, rfl, Nat.le_refl _, ?_, hb3, hm3'⟩⟩ _
  · have e3 : ((((putsA (codesA0 n) bl).put (some dm) (.map (some w.heap.size))).put (some d37) (.map (some w.heap.size))).put (some 0) (.map (some w.heap.size))).tmps.getD 0 undef = .map (some w.heap.size) := put_get (by rw [put_size, put_size]; omega)
    simp [results, hres, ← Array.getD_eq_getD_getElem?, e3]
  · obtain ⟨es, clock, g, _⟩ := hm3'
    exact (Array.getElem?_eq_some_iff.1 g).1
def seqA : Code → Code
  | .seq x _ => x
  | _ => .skip
def seqB : Code → Code
  | .seq _ y => y
  | _ => .skip
def inB' : Code → Code
  | .block _ c => c
  | .loop c => c
  | _ => .skip
def blkId : Code → Nat
  | .block i _ => i
  | .region i _ _ => i
  | _ => 0
def regArr : Code → Array Oper
  | .region _ ops _ => ops
  | _ => #[]
def opAt (c : Code) (i : Nat) : Oper := (regArr c).toList.getD i nopOper
def opsIn (c : Code) (i n : Nat) : List Oper := ((regArr c).toList.drop i).take n
def fldAt (P : Program) (t i : Nat) : Field := match P.underlying t with
  | some (.struct fs) => fs.toList.getD i default
  | _ => default
theorem pair_val {M : List Place} {x y : Int} {v : Value} (h : RelV M (.agg [.int .i64 none x, .int .i64 none y]) v) : v = .agg #[.int .i64 x, .int .i64 y] := by
  obtain ⟨vs, e, hc⟩ := RelX_agg.1 h
  obtain ⟨a, r, e1, hx, hr⟩ := RelC_cons.1 hc
  have hy := RelC_single.1 hr
  have h1 := (RelX_int.1 hx).1
  have h2 := (RelX_int.1 hy).1
  subst h1
  subst h2
  have e : v = .agg vs := by simpa using e
  rw [e]
  congr 1
  apply Array.toList_inj.1
  simpa using e1
def insC (d : Nat) (o : Oper) : Option (TypeId × Value × Value) := match o.op with
  | .insert t (.tmp d') (.const x) (.const v) => if d' = d then some (t, x, v) else none
  | _ => none
theorem insOf_eq {a : Go.Act} {b d : Nat} {T : TypeId} {li : List Oper} {es : List (Value × Value)} (h : a.eval (.tmp d) = .map (some b)) (hc : li.map (insC d) = es.map fun p => some (T, p.1, p.2)) : li.map (insOf a b) = es.map fun p => some (T, b, p.1, p.2) := by
  induction li generalizing es with
  | nil => cases es with
    | nil => rfl
    | cons _ _ => simp at hc
  | cons o li ih =>
    cases es with
    | nil => simp at hc
    | cons p es =>
      simp only [List.map_cons, List.cons.injEq] at hc ⊢
      refine ⟨?_, ih hc.2⟩
      have h1 := hc.1
      unfold insC at h1
      split at h1
      · rename_i t d' x v ho
        split at h1
        · rename_i hd
          subst hd
          simp only [Option.some.injEq, Prod.mk.injEq] at h1
          obtain ⟨rfl, rfl, rfl⟩ := h1
          unfold insOf
          rw [ho]
          simp only [h]
          rfl
        · cases h1
      · cases h1
end Go.AE
set_option linter.unusedSimpArgs false
set_option linter.unusedVariables false
namespace Go.AE.Gn
open Go Go.AE
def bits_room (F : Nat) (a0 : List Int) (a1 : Int) (a2 : Int) : Option (Bool × Unit) :=
  let v2 : Int := (IntKind.wrap .i64 ((8 : Int) * (((List.length a0) : Nat) : Int)))
  cond (decide (a1 ≤ v2))
    (let v4 : Int := (IntKind.wrap .i64 (v2 - a1))
    some ((decide (a2 ≤ v4)), ()))
    (some (false, ()))
def bits_check (F : Nat) (a0 : List Int) (a1 : Int) (a2 : Int) : Option (Int × Unit) :=
  cond (decide (a1 < (0 : Int)))
    (some ((1 : Int), ()))
    (cond (decide (a2 < (0 : Int)))
      (some ((1 : Int), ()))
      (cond (decide ((64 : Int) < a2))
        (some ((1 : Int), ()))
        ((bits_room F a0 a1 a2).bind fun r10 =>
        cond (!r10.1)
          (some ((2 : Int), ()))
          (some ((0 : Int), ())))))
def bits_spreadT0 : List Int := [0, 0, 0, 0, 0, 0, 0, 0]
def bits_spread_l0S (F : Nat) (rec : Int → List Int → List Int → Int → Option (List Int × (List Int × Unit))) (x0 : Int) (x1 : List Int) (x2 : List Int) (x3 : Int) : Option (List Int × (List Int × Unit)) :=
  cond (decide (x3 < (8 : Int)))
    (cond (decide ((0 : Int) ≤ x3))
      (cond ((decide ((0 : Int) ≤ x3)) && (decide (x3 < (8 : Int))))
        (rec x0 x1 (List.set x2 (Int.toNat x3) (iand .u8 (ishr .u8 x0 x3) (1 : Int))) (IntKind.wrap .i64 (x3 + (1 : Int))))
        (none))
      (none))
    (some (x1, (x2, ())))
def bits_spread_l0 (F : Nat) : Nat → Int → List Int → List Int → Int → Option (List Int × (List Int × Unit))
  | 0, _, _, _, _ => none
  | k + 1, x0, x1, x2, x3 => bits_spread_l0S F (bits_spread_l0 F k) x0 x1 x2 x3
def bits_spread (F : Nat) (a0 : Int) : Option (List Int × Unit) :=
  (bits_spread_l0 F F a0 bits_spreadT0 bits_spreadT0 (0 : Int)).bind fun r31 =>
  let l32 : List Int := (if ((0 = 0) ∧ (8 = 8)) then r31.2.1 else (List.take 8 (List.drop 0 r31.2.1)))
  let l33 : List Int := (if ((0 = 0) ∧ (8 = 8)) then l32 else (((List.take 0 r31.1) ++ l32) ++ (List.drop 8 r31.1)))
  some ((if ((0 = 0) ∧ (8 = 8)) then l33 else (List.take 8 (List.drop 0 l33))), ())
def bits_low (F : Nat) (a0 : List Int) (a1 : Int) : Option (Int × Unit) :=
  let v36 : Int := (IntKind.wrap .i64 (Int.tdiv a1 (8 : Int)))
  cond ((decide ((0 : Int) ≤ v36)) && (decide (v36 < (((List.length a0) : Nat) : Int))))
    ((bits_spread F (List.getD a0 (Int.toNat v36) (0 : Int))).bind fun r40 =>
    let v41 : Int := (Int.tmod a1 (8 : Int))
    cond ((decide ((0 : Int) ≤ v41)) && (decide (v41 < (8 : Int))))
      (some ((List.getD r40.1 (Int.toNat v41) (0 : Int)), ()))
      (none))
    (none)
def bits_Low_l0S (F : Nat) (rec : List Int → Int → Int → Int → Int → Int → Option ((Int × Unit) ⊕ (Int × (Int × Unit)))) (x0 : List Int) (x1 : Int) (x2 : Int) (x3 : Int) (x4 : Int) (x5 : Int) : Option ((Int × Unit) ⊕ (Int × (Int × Unit))) :=
  cond (decide (x5 < x4))
    (cond (x2 != (0 : Int))
      (some (.inl (x2, ())))
      ((bits_low F x0 (IntKind.wrap .i64 (x1 + x5))).bind fun r66 =>
      cond (decide ((0 : Int) ≤ x5))
        (rec x0 x1 x2 (ior .u64 x3 (ishl .u64 r66.1 x5)) x4 (IntKind.wrap .i64 (x5 + (1 : Int))))
        (none)))
    (some (.inr (x2, (x3, ()))))
def bits_Low_l0 (F : Nat) : Nat → List Int → Int → Int → Int → Int → Int → Option ((Int × Unit) ⊕ (Int × (Int × Unit)))
  | 0, _, _, _, _, _, _ => none
  | k + 1, x0, x1, x2, x3, x4, x5 => bits_Low_l0S F (bits_Low_l0 F k) x0 x1 x2 x3 x4 x5
def bits_Low (F : Nat) (a0 : List Int) (a1 : Int) (a2 : Int) : Option (Int × (Int × Unit)) :=
  (bits_check F a0 a1 a2).bind fun r45 =>
  (bits_Low_l0 F F a0 a1 r45.1 (0 : Int) a2 (0 : Int)).bind fun r71 => match r71 with
    | .inl r71 => (some ((0 : Int), (r71.1, ())))
    | .inr r71 => (some (r71.2.1, (r71.1, ())))
def bits_high (F : Nat) (a0 : List Int) (a1 : Int) : Option (Int × Unit) :=
  let v73 : Int := (IntKind.wrap .i64 (Int.tdiv a1 (8 : Int)))
  cond ((decide ((0 : Int) ≤ v73)) && (decide (v73 < (((List.length a0) : Nat) : Int))))
    ((bits_spread F (List.getD a0 (Int.toNat v73) (0 : Int))).bind fun r77 =>
    let v79 : Int := (IntKind.wrap .i64 ((7 : Int) - (Int.tmod a1 (8 : Int))))
    cond ((decide ((0 : Int) ≤ v79)) && (decide (v79 < (8 : Int))))
      (some ((List.getD r77.1 (Int.toNat v79) (0 : Int)), ()))
      (none))
    (none)
def bits_High_l0S (F : Nat) (rec : List Int → Int → Int → Int → Int → Int → Option ((Int × Unit) ⊕ (Int × (Int × Unit)))) (x0 : List Int) (x1 : Int) (x2 : Int) (x3 : Int) (x4 : Int) (x5 : Int) : Option ((Int × Unit) ⊕ (Int × (Int × Unit))) :=
  cond (decide (x5 < x4))
    (cond (x2 != (0 : Int))
      (some (.inl (x2, ())))
      ((bits_high F x0 (IntKind.wrap .i64 (x1 + x5))).bind fun r103 =>
      rec x0 x1 x2 (ior .u64 (ishl .u64 x3 (1 : Int)) r103.1) x4 (IntKind.wrap .i64 (x5 + (1 : Int)))))
    (some (.inr (x2, (x3, ()))))
def bits_High_l0 (F : Nat) : Nat → List Int → Int → Int → Int → Int → Int → Option ((Int × Unit) ⊕ (Int × (Int × Unit)))
  | 0, _, _, _, _, _, _ => none
  | k + 1, x0, x1, x2, x3, x4, x5 => bits_High_l0S F (bits_High_l0 F k) x0 x1 x2 x3 x4 x5
def bits_High (F : Nat) (a0 : List Int) (a1 : Int) (a2 : Int) : Option (Int × (Int × Unit)) :=
  (bits_check F a0 a1 a2).bind fun r83 =>
  (bits_High_l0 F F a0 a1 r83.1 (0 : Int) a2 (0 : Int)).bind fun r106 => match r106 with
    | .inl r106 => (some ((0 : Int), (r106.1, ())))
    | .inr r106 => (some (r106.2.1, (r106.1, ())))
def bits_fits (F : Nat) (a0 : List Int) (a1 : Int) (a2 : Int) (a3 : Int) : Option (Int × Unit) :=
  (bits_check F a0 a1 a2).bind fun r108 =>
  cond (r108.1 != (0 : Int))
    (some (r108.1, ()))
    (cond (decide (a2 < (64 : Int)))
      (cond (decide ((0 : Int) ≤ a2))
        (cond ((ishr .u64 a3 a2) != (0 : Int))
          (some ((10 : Int), ()))
          (some ((0 : Int), ())))
        (none))
      (some ((0 : Int), ())))
def slices_Clone_byte_byte (F : Nat) (a0 : List Int) : Option (List Int × Unit) := cloneF 1 a0
def bits_set (F : Nat) (a0 : Int) (a1 : Int) (a2 : Int) : Option (Int × Unit) :=
  let b114 : Bool := (decide ((0 : Int) ≤ a1))
  cond b114
    (cond b114
      (some ((ior .u8 (iandn .u8 a0 (ishl .u8 (1 : Int) a1)) (ishl .u8 (IntKind.wrap .u8 (iand .u64 a2 (1 : Int))) a1)), ()))
      (none))
    (none)
def bits_SetHigh_l0S (F : Nat) (rec : Int → Int → Int → List Int → Int → Int → Option (List Int × Unit)) (x0 : Int) (x1 : Int) (x2 : Int) (x3 : List Int) (x4 : Int) (x5 : Int) : Option (List Int × Unit) :=
  cond (decide (x5 < x4))
    (let v160 : Int := (IntKind.wrap .i64 ((IntKind.wrap .i64 ((IntKind.wrap .i64 (x0 + x1)) - (1 : Int))) - x5))
    let v161 : Int := (IntKind.wrap .i64 (Int.tdiv v160 (8 : Int)))
    let b162 : Bool := ((decide ((0 : Int) ≤ v161)) && (decide (v161 < (((List.length x3) : Nat) : Int))))
    cond b162
      (cond (decide ((0 : Int) ≤ x5))
        ((bits_set F (List.getD x3 (Int.toNat v161) (0 : Int)) (IntKind.wrap .i64 ((7 : Int) - (Int.tmod v160 (8 : Int)))) (ishr .u64 x2 x5)).bind fun r169 =>
        cond b162
          (rec x0 x1 x2 (List.set x3 (Int.toNat v161) r169.1) x4 (IntKind.wrap .i64 (x5 + (1 : Int))))
          (none))
        (none))
      (none))
    (some (x3, ()))
def bits_SetHigh_l0 (F : Nat) : Nat → Int → Int → Int → List Int → Int → Int → Option (List Int × Unit)
  | 0, _, _, _, _, _, _ => none
  | k + 1, x0, x1, x2, x3, x4, x5 => bits_SetHigh_l0S F (bits_SetHigh_l0 F k) x0 x1 x2 x3 x4 x5
def bits_SetHigh (F : Nat) (a0 : List Int) (a1 : Int) (a2 : Int) (a3 : Int) : Option (List Int × (Int × Unit)) :=
  (bits_fits F a0 a1 a2 a3).bind fun r122 =>
  cond (r122.1 != (0 : Int))
    (some ([], (r122.1, ())))
    ((slices_Clone_byte_byte F a0).bind fun r124 =>
    (bits_SetHigh_l0 F F a1 a2 a3 r124.1 a2 (0 : Int)).bind fun r172 =>
    some (r172.1, ((0 : Int), ())))
def bits_Lows_l1S (F : Nat) (rec : List Int → Int → Int → List Int → Int → Int → Option (List Int × Unit)) (x0 : List Int) (x1 : Int) (x2 : Int) (x3 : List Int) (x4 : Int) (x5 : Int) : Option (List Int × Unit) :=
  cond (decide (x5 < x4))
    (let v248 : Int := (IntKind.wrap .i64 (x5 * x2))
    let v249 : Int := (IntKind.wrap .i64 (x1 + v248))
    (bits_Low F x0 v249 x2).bind fun r250 =>
    let v251 : Int := (IntKind.wrap .i64 r250.1)
    cond ((decide (((List.length x3) + 1) ≤ 1099511627776)) && (if (false = true) then (decide (0 < 1)) else true))
      (rec x0 x1 x2 (x3 ++ [v251]) x4 (IntKind.wrap .i64 (x5 + (1 : Int))))
      (none))
    (some (x3, ()))
def bits_Lows_l1 (F : Nat) : Nat → List Int → Int → Int → List Int → Int → Int → Option (List Int × Unit)
  | 0, _, _, _, _, _, _ => none
  | k + 1, x0, x1, x2, x3, x4, x5 => bits_Lows_l1S F (bits_Lows_l1 F k) x0 x1 x2 x3 x4 x5
def bits_Lows (F : Nat) (a0 : List Int) (a1 : Int) (a2 : Int) (a3 : Int) : Option (List Int × (Int × Unit)) :=
  cond (decide (a1 < (0 : Int)))
    (some ([], ((1 : Int), ())))
    (cond (decide (a2 < (0 : Int)))
      (some ([], ((1 : Int), ())))
      (cond (decide ((16 : Int) < a2))
        (some ([], ((1 : Int), ())))
        (cond (decide (a3 < (0 : Int)))
          (some ([], ((1 : Int), ())))
          (cond (decide ((64 : Int) < a3))
            (some ([], ((1 : Int), ())))
            ((bits_room F a0 a1 (IntKind.wrap .i64 (a2 * a3))).bind fun r225 =>
            cond (!r225.1)
              (some ([], ((2 : Int), ())))
              ((bits_Lows_l1 F F a0 a1 a2 [] a3 (0 : Int)).bind fun r256 =>
              some (r256.1, ((0 : Int), ()))))))))
end Go.AE.Gn
set_option linter.unusedSimpArgs false
set_option linter.unusedVariables false
namespace Go.AE.Gn
open Go Go.AE
def bcfour_joinedT53 : List Int := [0, 0, 0, 0, 0, 0, 0, 0]
def bcfour_DecodeT229 : List Int := [0, 0, 0, 0, 0, 0, 0, 0, 0, 0, 0, 0, 0, 0, 0, 0]
def bcfour_Parts (F : Nat) (a0 : List Int) : Option (Int × (Int × (List Int × (Int × Unit)))) :=
  cond ((((List.length a0) : Nat) : Int) != (8 : Int))
    (some ((0 : Int), ((0 : Int), (bcfour_DecodeT229, ((1 : Int), ())))))
    ((bits_Lows F a0 (16 : Int) (3 : Int) (16 : Int)).bind fun r373 =>
    let n374 : Nat := (List.length r373.1)
    let l376 : List Int := (((List.take 0 bcfour_DecodeT229) ++ (List.take (min n374 16) r373.1)) ++ (List.drop (0 + (min n374 16)) bcfour_DecodeT229))
    cond (decide ((0 : Int) < (((List.length a0) : Nat) : Int)))
      (cond (decide ((1 : Int) < (((List.length a0) : Nat) : Int)))
        (let l381 : List Int := (if ((0 = 0) ∧ (16 = 16)) then l376 else (List.take 16 (List.drop 0 l376)))
        let l382 : List Int := (if ((0 = 0) ∧ (16 = 16)) then l381 else (((List.take 0 bcfour_DecodeT229) ++ l381) ++ (List.drop 16 bcfour_DecodeT229)))
        some ((List.getD a0 0 (0 : Int)), ((List.getD a0 1 (0 : Int)), ((if ((0 = 0) ∧ (16 = 16)) then l382 else (List.take 16 (List.drop 0 l382))), ((0 : Int), ())))))
        (none))
      (none))
def level_Mix (F : Nat) (a0 : Int) (a1 : Int) (a2 : Int) (a3 : Int) (a4 : Int) : Option (Int × Unit) :=
  cond (decide (a3 < (1 : Int)))
    (some ((0 : Int), ()))
    (let v396 : Int := (IntKind.wrap .i64 ((IntKind.wrap .i64 ((IntKind.wrap .i64 (a0 * (IntKind.wrap .i64 (a3 - a2)))) + (IntKind.wrap .i64 (a1 * a2)))) + a4))
    let b397 : Bool := (!(a3 == (0 : Int)))
    cond b397
      (let v398 : Int := (IntKind.wrap .i64 (Int.tdiv v396 a3))
      cond b397
        (cond (decide ((Int.tmod v396 a3) < (0 : Int)))
          (some ((IntKind.wrap .i64 (v398 - (1 : Int))), ()))
          (some (v398, ())))
        (none))
      (none))
def bcfour_Ramp_l0S (F : Nat) (rec : Int → Int → List Int → List Int → Int → Int → Int → Option (List Int × (List Int × Unit))) (x0 : Int) (x1 : Int) (x2 : List Int) (x3 : List Int) (x4 : Int) (x5 : Int) (x6 : Int) : Option (List Int × (List Int × Unit)) :=
  cond (decide (x6 < x5))
    (let v442 : Int := (IntKind.wrap .i64 (x6 + (2 : Int)))
    let v443 : Int := (IntKind.wrap .i64 (x6 + (1 : Int)))
    (level_Mix F x0 x1 v443 x4 (0 : Int)).bind fun r444 =>
    cond ((decide ((0 : Int) ≤ v442)) && (decide (v442 < (8 : Int))))
      (rec x0 x1 x2 (List.set x3 (Int.toNat v442) r444.1) x4 x5 v443)
      (none))
    (some (x2, (x3, ())))
def bcfour_Ramp_l0 (F : Nat) : Nat → Int → Int → List Int → List Int → Int → Int → Int → Option (List Int × (List Int × Unit))
  | 0, _, _, _, _, _, _, _ => none
  | k + 1, x0, x1, x2, x3, x4, x5, x6 => bcfour_Ramp_l0S F (bcfour_Ramp_l0 F k) x0 x1 x2 x3 x4 x5 x6
def bcfour_Ramp (F : Nat) (a0 : Int) (a1 : Int) : Option (List Int × Unit) :=
  cond (decide (a0 ≤ a1))
    ((bcfour_Ramp_l0 F F a0 a1 bcfour_joinedT53 [a0, a1, (0 : Int), (0 : Int), (0 : Int), (0 : Int), (0 : Int), (255 : Int)] (5 : Int) (4 : Int) (0 : Int)).bind fun r448 =>
    let l449 : List Int := (if ((0 = 0) ∧ (8 = 8)) then r448.2.1 else (List.take 8 (List.drop 0 r448.2.1)))
    let l450 : List Int := (if ((0 = 0) ∧ (8 = 8)) then l449 else (((List.take 0 r448.1) ++ l449) ++ (List.drop 8 r448.1)))
    some ((if ((0 = 0) ∧ (8 = 8)) then l450 else (List.take 8 (List.drop 0 l450))), ()))
    ((bcfour_Ramp_l0 F F a0 a1 bcfour_joinedT53 [a0, a1, (0 : Int), (0 : Int), (0 : Int), (0 : Int), (0 : Int), (0 : Int)] (7 : Int) (6 : Int) (0 : Int)).bind fun r459 =>
    let l460 : List Int := (if ((0 = 0) ∧ (8 = 8)) then r459.2.1 else (List.take 8 (List.drop 0 r459.2.1)))
    let l461 : List Int := (if ((0 = 0) ∧ (8 = 8)) then l460 else (((List.take 0 r459.1) ++ l460) ++ (List.drop 8 r459.1)))
    some ((if ((0 = 0) ∧ (8 = 8)) then l461 else (List.take 8 (List.drop 0 l461))), ()))
def bcfour_Decode_l0S (F : Nat) (rec : List Int → List Int → List Int → List Int → Int → Option (List Int × (List Int × Unit))) (x0 : List Int) (x1 : List Int) (x2 : List Int) (x3 : List Int) (x4 : Int) : Option (List Int × (List Int × Unit)) :=
  cond (decide (x4 < (16 : Int)))
    (let b481 : Bool := ((decide ((0 : Int) ≤ x4)) && (decide (x4 < (16 : Int))))
    cond b481
      (let v482 : Int := (List.getD x3 (Int.toNat x4) (0 : Int))
      cond ((decide ((0 : Int) ≤ v482)) && (decide (v482 < (8 : Int))))
        (cond b481
          (rec x0 (List.set x1 (Int.toNat x4) (List.getD x2 (Int.toNat v482) (0 : Int))) x2 x3 (IntKind.wrap .i64 (x4 + (1 : Int))))
          (none))
        (none))
      (none))
    (some (x0, (x1, ())))
def bcfour_Decode_l0 (F : Nat) : Nat → List Int → List Int → List Int → List Int → Int → Option (List Int × (List Int × Unit))
  | 0, _, _, _, _, _ => none
  | k + 1, x0, x1, x2, x3, x4 => bcfour_Decode_l0S F (bcfour_Decode_l0 F k) x0 x1 x2 x3 x4
def bcfour_Decode (F : Nat) (a0 : List Int) : Option (List Int × (Int × Unit)) :=
  (bcfour_Parts F a0).bind fun r384 =>
  let l385 : List Int := (if ((0 = 0) ∧ (16 = 16)) then r384.2.2.1 else (((List.take 0 bcfour_DecodeT229) ++ r384.2.2.1) ++ (List.drop 16 bcfour_DecodeT229)))
  cond (r384.2.2.2.1 != (0 : Int))
    (let l387 : List Int := (if ((0 = 0) ∧ (16 = 16)) then l385 else (List.take 16 (List.drop 0 l385)))
    let l388 : List Int := (if ((0 = 0) ∧ (16 = 16)) then l387 else (((List.take 0 bcfour_DecodeT229) ++ l387) ++ (List.drop 16 bcfour_DecodeT229)))
    some ((if ((0 = 0) ∧ (16 = 16)) then l388 else (List.take 16 (List.drop 0 l388))), (r384.2.2.2.1, ())))
    ((bcfour_Ramp F r384.1 r384.2.1).bind fun r463 =>
    (bcfour_Decode_l0 F F bcfour_DecodeT229 l385 (if ((0 = 0) ∧ (8 = 8)) then r463.1 else (((List.take 0 bcfour_joinedT53) ++ r463.1) ++ (List.drop 8 bcfour_joinedT53))) (if ((0 = 0) ∧ (16 = 16)) then l385 else (List.take 16 (List.drop 0 l385))) (0 : Int)).bind fun r489 =>
    let l490 : List Int := (if ((0 = 0) ∧ (16 = 16)) then r489.2.1 else (List.take 16 (List.drop 0 r489.2.1)))
    let l491 : List Int := (if ((0 = 0) ∧ (16 = 16)) then l490 else (((List.take 0 r489.1) ++ l490) ++ (List.drop 16 r489.1)))
    some ((if ((0 = 0) ∧ (16 = 16)) then l491 else (List.take 16 (List.drop 0 l491))), ((0 : Int), ())))
def level_odd (F : Nat) (a0 : Int) : Option (Bool × Unit) :=
  cond (decide (a0 < (1 : Int)))
    (some (true, ()))
    (some ((decide ((8 : Int) < a0)), ()))
def level_Wide_l0S (F : Nat) (rec : Int → Int → Int → Int → Option (Int × (Int × Unit))) (x0 : Int) (x1 : Int) (x2 : Int) (x3 : Int) : Option (Int × (Int × Unit)) :=
  cond (decide (x3 < (8 : Int)))
    (cond (decide ((0 : Int) ≤ x1))
      (rec x0 x1 (ior .i64 (ishl .i64 x2 x1) x0) (IntKind.wrap .i64 (x3 + x1)))
      (none))
    (some (x2, (x3, ())))
def level_Wide_l0 (F : Nat) : Nat → Int → Int → Int → Int → Option (Int × (Int × Unit))
  | 0, _, _, _, _ => none
  | k + 1, x0, x1, x2, x3 => level_Wide_l0S F (level_Wide_l0 F k) x0 x1 x2 x3
def level_Wide (F : Nat) (a0 : Int) (a1 : Int) : Option (Int × Unit) :=
  (level_odd F a1).bind fun r514 =>
  cond r514.1
    (some ((0 : Int), ()))
    (cond (decide ((0 : Int) ≤ a1))
      ((level_Wide_l0 F F (iand .i64 a0 (IntKind.wrap .i64 ((ishl .i64 (1 : Int) a1) - (1 : Int)))) a1 (0 : Int) (0 : Int)).bind fun r533 =>
      let v534 : Int := (IntKind.wrap .i64 (r533.2.1 - (8 : Int)))
      cond (decide ((0 : Int) ≤ v534))
        (some ((ishr .i64 r533.1 v534), ()))
        (none))
      (none))
def bcfour_Fours_l0S (F : Nat) (rec : List Int → List Int → List Int → Int → Option (List Int × (List Int × Unit))) (x0 : List Int) (x1 : List Int) (x2 : List Int) (x3 : Int) : Option (List Int × (List Int × Unit)) :=
  cond (decide (x3 < (16 : Int)))
    (cond ((decide ((0 : Int) ≤ x3)) && (decide (x3 < (((List.length x2) : Nat) : Int))))
      ((level_Wide F (List.getD x2 (Int.toNat x3) (0 : Int)) (4 : Int)).bind fun r553 =>
      cond ((decide ((0 : Int) ≤ x3)) && (decide (x3 < (16 : Int))))
        (rec x0 (List.set x1 (Int.toNat x3) r553.1) x2 (IntKind.wrap .i64 (x3 + (1 : Int))))
        (none))
      (none))
    (some (x0, (x1, ())))
def bcfour_Fours_l0 (F : Nat) : Nat → List Int → List Int → List Int → Int → Option (List Int × (List Int × Unit))
  | 0, _, _, _, _ => none
  | k + 1, x0, x1, x2, x3 => bcfour_Fours_l0S F (bcfour_Fours_l0 F k) x0 x1 x2 x3
def bcfour_Fours (F : Nat) (a0 : List Int) : Option (List Int × (Int × Unit)) :=
  cond ((((List.length a0) : Nat) : Int) != (8 : Int))
    (some (bcfour_DecodeT229, ((1 : Int), ())))
    ((bits_Lows F a0 (0 : Int) (4 : Int) (16 : Int)).bind fun r507 =>
    (bcfour_Fours_l0 F F bcfour_DecodeT229 bcfour_DecodeT229 r507.1 (0 : Int)).bind fun r557 =>
    let l558 : List Int := (if ((0 = 0) ∧ (16 = 16)) then r557.2.1 else (List.take 16 (List.drop 0 r557.2.1)))
    let l559 : List Int := (if ((0 = 0) ∧ (16 = 16)) then l558 else (((List.take 0 r557.1) ++ l558) ++ (List.drop 16 r557.1)))
    some ((if ((0 = 0) ∧ (16 = 16)) then l559 else (List.take 16 (List.drop 0 l559))), ((0 : Int), ())))
def level_square (F : Nat) (a0 : Int) : Option (Int × Unit) :=
  some ((IntKind.wrap .i64 (a0 * a0)), ())
def level_Clamp (F : Nat) (a0 : Int) (a1 : Int) : Option (Int × Unit) :=
  some ((max (0 : Int) (min a0 a1)), ())
end Go.AE.Gn
set_option linter.unusedSimpArgs false
set_option linter.unusedVariables false
namespace Go.AE.Gn
open Go Go.AE
def bctable_in (F : Nat) (a0 : Int) (a1 : Int) : Option (Bool × Unit) :=
  cond (decide ((0 : Int) ≤ a0))
    (some ((decide (a0 < a1)), ()))
    (some (false, ()))
def bctable_threeT1 : List Int := [2858963024, 1784303680, 1515864576, 1414570152, 2779054080, 2694860880, 1431675040, 1515868240, 2857697280, 2857719040, 2863289600, 2425393296, 2492765332, 2762253476, 2846200912, 705315408, 2777960512, 172118100, 2779096320, 1436590240, 2829603924, 1785348160, 2762231808, 437912832, 5285028, 2862977168, 342452500, 1768494080, 2693105056, 2860651540, 1352967248, 1784283648, 2846195712, 1351655592, 2829094992, 606348324, 11162880, 613566756, 608801316, 1352993360, 1342874960, 2863285316, 1717960704, 2778768800, 1352683680, 1764256040, 1152035396, 1717986816, 2856600644, 1420317864, 2508232064, 2526451200, 2824098984, 2157286784, 2853442580, 2526412800, 2863272980, 2689618080, 2695210400, 2516582400, 1082146944, 2846402984, 2863311428, 709513812]
def bctable_three (F : Nat) : Option (List Int × Unit) :=
  some (bctable_threeT1, ())
def bctable_twoT2 : List Int := [52428, 34952, 61166, 60616, 51328, 65260, 65224, 60544, 51200, 65516, 65152, 59392, 65512, 65280, 65520, 61440, 63248, 142, 28928, 2254, 140, 29456, 12544, 36046, 2188, 12560, 26214, 13932, 6120, 4080, 29070, 14748, 43690, 61680, 23130, 13260, 15420, 21930, 38550, 42330, 29646, 5064, 12876, 15324, 27030, 49980, 39270, 1632, 626, 1252, 20032, 10016, 51510, 37740, 14790, 25500, 37686, 40134, 33150, 59160, 52464, 4044, 30532, 60962]
def bctable_two (F : Nat) : Option (List Int × Unit) :=
  some (bctable_twoT2, ())
def bctable_Part (F : Nat) (a0 : Int) (a1 : Int) (a2 : Int) : Option (Int × Unit) :=
  (bctable_in F a1 (64 : Int)).bind fun r2 =>
  cond (!r2.1)
    (some ((0 : Int), ()))
    ((bctable_in F a2 (16 : Int)).bind fun r4 =>
    cond (!r4.1)
      (some ((0 : Int), ()))
      (cond (a0 == (3 : Int))
        ((bctable_three F).bind fun r7 =>
        cond ((decide ((0 : Int) ≤ a1)) && (decide (a1 < (64 : Int))))
          (let v10 : Int := (IntKind.wrap .i64 ((2 : Int) * a2))
          cond (decide ((0 : Int) ≤ v10))
            (some ((iand .u32 (ishr .u32 (List.getD r7.1 (Int.toNat a1) (0 : Int)) v10) (3 : Int)), ()))
            (none))
          (none))
        (cond (a0 == (2 : Int))
          ((bctable_two F).bind fun r15 =>
          cond ((decide ((0 : Int) ≤ a1)) && (decide (a1 < (64 : Int))))
            (cond (decide ((0 : Int) ≤ a2))
              (some ((iand .u16 (ishr .u16 (List.getD r15.1 (Int.toNat a1) (0 : Int)) a2) (1 : Int)), ()))
              (none))
            (none))
          (some ((0 : Int), ())))))
def bctable_anchorsT3 : List Int := [15, 15, 15, 15, 15, 15, 15, 15, 15, 15, 15, 15, 15, 15, 15, 15, 15, 2, 8, 2, 2, 8, 8, 15, 2, 8, 2, 2, 8, 8, 2, 2, 15, 15, 6, 8, 2, 8, 15, 15, 2, 8, 2, 2, 2, 15, 15, 6, 6, 2, 6, 8, 15, 15, 2, 2, 15, 15, 15, 15, 15, 2, 2, 15]
def bctable_anchorsT4 : List Int := [3, 3, 15, 15, 8, 3, 15, 15, 8, 8, 6, 6, 6, 5, 3, 3, 3, 3, 8, 15, 3, 3, 6, 10, 5, 8, 8, 6, 8, 5, 15, 15, 8, 15, 3, 5, 6, 10, 8, 15, 15, 3, 15, 5, 15, 15, 15, 15, 3, 15, 5, 5, 5, 8, 5, 10, 5, 10, 8, 13, 15, 12, 3, 3]
def bctable_anchorsT5 : List Int := [15, 8, 8, 3, 15, 15, 3, 8, 15, 15, 15, 15, 15, 15, 15, 8, 15, 8, 15, 3, 15, 8, 15, 8, 3, 15, 6, 10, 15, 15, 10, 8, 15, 3, 15, 10, 10, 8, 9, 10, 6, 15, 8, 15, 3, 6, 6, 8, 15, 3, 15, 15, 15, 15, 15, 15, 15, 15, 15, 15, 3, 15, 15, 8]
def bctable_anchors (F : Nat) (a0 : (Int × (Int × Unit))) : Option (List Int × Unit) :=
  cond ((a0.1 == (2 : Int)) && (a0.2.1 == (1 : Int)))
    (some (bctable_anchorsT3, ()))
    (cond ((a0.1 == (3 : Int)) && (a0.2.1 == (1 : Int)))
      (some (bctable_anchorsT4, ()))
      (cond ((a0.1 == (3 : Int)) && (a0.2.1 == (2 : Int)))
        (some (bctable_anchorsT5, ()))
        (some ([], ()))))
def bctable_Anchor (F : Nat) (a0 : Int) (a1 : Int) (a2 : Int) : Option (Int × Unit) :=
  (bctable_anchors F (a0, (a2, ()))).bind fun r82 =>
  let n83 : Nat := (List.length r82.1)
  (bctable_in F a1 ((n83 : Nat) : Int)).bind fun r85 =>
  cond (!r85.1)
    (some ((0 : Int), ()))
    (cond ((decide ((0 : Int) ≤ a1)) && (decide (a1 < ((n83 : Nat) : Int))))
      (some ((List.getD r82.1 (Int.toNat a1) (0 : Int)), ()))
      (none))
def bctable_WeightsT6 : List Int := [0, 9, 18, 27, 37, 46, 55, 64]
def bctable_WeightsT7 : List Int := [0, 4, 9, 13, 17, 21, 26, 30, 34, 38, 43, 47, 51, 55, 60, 64]
def bctable_Weights (F : Nat) (a0 : Int) : Option (List Int × Unit) :=
  cond (a0 == (2 : Int))
    (some ([(0 : Int), (21 : Int), (43 : Int), (64 : Int)], ()))
    (cond (a0 == (3 : Int))
      (some (bctable_WeightsT6, ()))
      (cond (a0 == (4 : Int))
        (some (bctable_WeightsT7, ()))
        (some ([], ()))))
end Go.AE.Gn
set_option linter.unusedSimpArgs false
set_option linter.unusedVariables false
namespace Go.AE.Gn
open Go Go.AE
def bcone_DecodeT203 : List Int := [0, 0, 0, 0, 0, 0, 0, 0, 0, 0, 0, 0, 0, 0, 0, 0, 0, 0, 0, 0, 0, 0, 0, 0, 0, 0, 0, 0, 0, 0, 0, 0, 0, 0, 0, 0, 0, 0, 0, 0, 0, 0, 0, 0, 0, 0, 0, 0, 0, 0, 0, 0, 0, 0, 0, 0, 0, 0, 0, 0, 0, 0, 0, 0]
def bcone_PartsT205 : List Int := [0, 0, 0, 0, 0, 0, 0, 0, 0, 0, 0, 0, 0, 0, 0, 0]
def bcone_Parts (F : Nat) (a0 : List Int) : Option (Int × (Int × (List Int × (Int × Unit)))) :=
  cond ((((List.length a0) : Nat) : Int) != (8 : Int))
    (some ((0 : Int), ((0 : Int), (bcone_PartsT205, ((1 : Int), ())))))
    ((bits_Lows F a0 (0 : Int) (16 : Int) (2 : Int)).bind fun r348 =>
    let n349 : Nat := (List.length r348.1)
    (bits_Lows F a0 (32 : Int) (2 : Int) (16 : Int)).bind fun r350 =>
    let n351 : Nat := (List.length r350.1)
    let l353 : List Int := (((List.take 0 bcone_PartsT205) ++ (List.take (min n351 16) r350.1)) ++ (List.drop (0 + (min n351 16)) bcone_PartsT205))
    cond (decide ((0 : Int) < ((n349 : Nat) : Int)))
      (cond (decide ((1 : Int) < ((n349 : Nat) : Int)))
        (let l358 : List Int := (if ((0 = 0) ∧ (16 = 16)) then l353 else (List.take 16 (List.drop 0 l353)))
        let l359 : List Int := (if ((0 = 0) ∧ (16 = 16)) then l358 else (((List.take 0 bcone_PartsT205) ++ l358) ++ (List.drop 16 bcone_PartsT205)))
        some ((List.getD r348.1 0 (0 : Int)), ((List.getD r348.1 1 (0 : Int)), ((if ((0 = 0) ∧ (16 = 16)) then l359 else (List.take 16 (List.drop 0 l359))), ((0 : Int), ())))))
        (none))
      (none))
def bcone_Colour (F : Nat) (a0 : Int) : Option (List Int × Unit) :=
  (level_Wide F (ishr .i64 a0 (11 : Int)) (5 : Int)).bind fun r390 =>
  (level_Wide F (ishr .i64 a0 (5 : Int)) (6 : Int)).bind fun r392 =>
  (level_Wide F a0 (5 : Int)).bind fun r393 =>
  some ([r390.1, r392.1, r393.1, (255 : Int)], ())
def bcone_between_l0S (F : Nat) (rec : Int → Int → List Int → List Int → List Int → List Int → Int → Option (List Int × (List Int × Unit))) (x0 : Int) (x1 : Int) (x2 : List Int) (x3 : List Int) (x4 : List Int) (x5 : List Int) (x6 : Int) : Option (List Int × (List Int × Unit)) :=
  cond (decide (x6 < (3 : Int)))
    (let b424 : Bool := ((decide ((0 : Int) ≤ x6)) && (decide (x6 < (4 : Int))))
    cond b424
      (cond b424
        ((level_Mix F (List.getD x2 (Int.toNat x6) (0 : Int)) (List.getD x3 (Int.toNat x6) (0 : Int)) x0 x1 (0 : Int)).bind fun r428 =>
        cond b424
          (rec x0 x1 x2 x3 x4 (List.set x5 (Int.toNat x6) r428.1) (IntKind.wrap .i64 (x6 + (1 : Int))))
          (none))
        (none))
      (none))
    (some (x4, (x5, ())))
def bcone_between_l0 (F : Nat) : Nat → Int → Int → List Int → List Int → List Int → List Int → Int → Option (List Int × (List Int × Unit))
  | 0, _, _, _, _, _, _, _ => none
  | k + 1, x0, x1, x2, x3, x4, x5, x6 => bcone_between_l0S F (bcone_between_l0 F k) x0 x1 x2 x3 x4 x5 x6
def bcone_between (F : Nat) (a0 : List Int) (a1 : List Int) (a2 : Int) (a3 : Int) : Option (List Int × Unit) :=
  (bcone_between_l0 F F a2 a3 a0 a1 [(0 : Int), (0 : Int), (0 : Int), (0 : Int)] [(0 : Int), (0 : Int), (0 : Int), (255 : Int)] (0 : Int)).bind fun r431 =>
  let l432 : List Int := (if ((0 = 0) ∧ (4 = 4)) then r431.2.1 else (List.take 4 (List.drop 0 r431.2.1)))
  let l433 : List Int := (if ((0 = 0) ∧ (4 = 4)) then l432 else (((List.take 0 r431.1) ++ l432) ++ (List.drop 4 r431.1)))
  some ((if ((0 = 0) ∧ (4 = 4)) then l433 else (List.take 4 (List.drop 0 l433))), ())
def bcone_Palette (F : Nat) (a0 : Int) (a1 : Int) (a2 : Bool) : Option (List Int × Unit) :=
  (bcone_Colour F a0).bind fun r394 =>
  (bcone_Colour F a1).bind fun r395 =>
  let l396 : List Int := (if ((0 = 0) ∧ (4 = 4)) then r394.1 else (((List.take 0 [(0 : Int), (0 : Int), (0 : Int), (0 : Int)]) ++ r394.1) ++ (List.drop 4 [(0 : Int), (0 : Int), (0 : Int), (0 : Int)])))
  let l397 : List Int := (if ((0 = 0) ∧ (4 = 4)) then r395.1 else (((List.take 0 [(0 : Int), (0 : Int), (0 : Int), (0 : Int)]) ++ r395.1) ++ (List.drop 4 [(0 : Int), (0 : Int), (0 : Int), (0 : Int)])))
  cond a2
    (let l398 : List Int := (if ((0 = 0) ∧ (4 = 4)) then l396 else (List.take 4 (List.drop 0 l396)))
    let l399 : List Int := (if ((0 = 0) ∧ (4 = 4)) then l397 else (List.take 4 (List.drop 0 l397)))
    (bcone_between F l398 l399 (1 : Int) (3 : Int)).bind fun r435 =>
    (bcone_between F l398 l399 (2 : Int) (3 : Int)).bind fun r436 =>
    let l437 : List Int := (l398 ++ (l399 ++ (r435.1 ++ r436.1)))
    let l438 : List Int := (if ((0 = 0) ∧ (16 = 16)) then l437 else (((List.take 0 bcone_PartsT205) ++ l437) ++ (List.drop 16 bcone_PartsT205)))
    some ((if ((0 = 0) ∧ (16 = 16)) then l438 else (List.take 16 (List.drop 0 l438))), ()))
    (cond (decide (a1 < a0))
      (let l441 : List Int := (if ((0 = 0) ∧ (4 = 4)) then l396 else (List.take 4 (List.drop 0 l396)))
      let l442 : List Int := (if ((0 = 0) ∧ (4 = 4)) then l397 else (List.take 4 (List.drop 0 l397)))
      (bcone_between F l441 l442 (1 : Int) (3 : Int)).bind fun r443 =>
      (bcone_between F l441 l442 (2 : Int) (3 : Int)).bind fun r444 =>
      let l445 : List Int := (l441 ++ (l442 ++ (r443.1 ++ r444.1)))
      let l446 : List Int := (if ((0 = 0) ∧ (16 = 16)) then l445 else (((List.take 0 bcone_PartsT205) ++ l445) ++ (List.drop 16 bcone_PartsT205)))
      some ((if ((0 = 0) ∧ (16 = 16)) then l446 else (List.take 16 (List.drop 0 l446))), ()))
      (let l448 : List Int := (if ((0 = 0) ∧ (4 = 4)) then l396 else (List.take 4 (List.drop 0 l396)))
      let l449 : List Int := (if ((0 = 0) ∧ (4 = 4)) then l397 else (List.take 4 (List.drop 0 l397)))
      (bcone_between F l448 l449 (1 : Int) (2 : Int)).bind fun r450 =>
      let l451 : List Int := (l448 ++ (l449 ++ (r450.1 ++ [(0 : Int), (0 : Int), (0 : Int), (0 : Int)])))
      let l452 : List Int := (if ((0 = 0) ∧ (16 = 16)) then l451 else (((List.take 0 bcone_PartsT205) ++ l451) ++ (List.drop 16 bcone_PartsT205)))
      some ((if ((0 = 0) ∧ (16 = 16)) then l452 else (List.take 16 (List.drop 0 l452))), ())))
def bcone_Decode_l0S (F : Nat) (rec : List Int → List Int → List Int → List Int → Int → Option (List Int × (List Int × Unit))) (x0 : List Int) (x1 : List Int) (x2 : List Int) (x3 : List Int) (x4 : Int) : Option (List Int × (List Int × Unit)) :=
  cond (decide (x4 < (16 : Int)))
    (let b472 : Bool := ((decide ((0 : Int) ≤ x4)) && (decide (x4 < (16 : Int))))
    cond b472
      (let v473 : Int := (List.getD x3 (Int.toNat x4) (0 : Int))
      cond ((decide ((0 : Int) ≤ v473)) && (decide (v473 < (4 : Int))))
        (cond b472
          (let n477 : Nat := ((Int.toNat x4) * 4)
          rec x0 (((List.take n477 x1) ++ (List.take 4 (List.drop ((Int.toNat v473) * 4) x2))) ++ (List.drop (n477 + 4) x1)) x2 x3 (IntKind.wrap .i64 (x4 + (1 : Int))))
          (none))
        (none))
      (none))
    (some (x0, (x1, ())))
def bcone_Decode_l0 (F : Nat) : Nat → List Int → List Int → List Int → List Int → Int → Option (List Int × (List Int × Unit))
  | 0, _, _, _, _, _ => none
  | k + 1, x0, x1, x2, x3, x4 => bcone_Decode_l0S F (bcone_Decode_l0 F k) x0 x1 x2 x3 x4
def bcone_Decode (F : Nat) (a0 : List Int) (a1 : Bool) : Option (List Int × (Int × Unit)) :=
  (bcone_Parts F a0).bind fun r361 =>
  let l362 : List Int := (if ((0 = 0) ∧ (16 = 16)) then r361.2.2.1 else (((List.take 0 bcone_PartsT205) ++ r361.2.2.1) ++ (List.drop 16 bcone_PartsT205)))
  cond (r361.2.2.2.1 != (0 : Int))
    (some (bcone_DecodeT203, (r361.2.2.2.1, ())))
    ((bcone_Palette F r361.1 r361.2.1 a1).bind fun r454 =>
    (bcone_Decode_l0 F F bcone_DecodeT203 bcone_DecodeT203 (if ((0 = 0) ∧ (16 = 16)) then r454.1 else (((List.take 0 bcone_PartsT205) ++ r454.1) ++ (List.drop 16 bcone_PartsT205))) (if ((0 = 0) ∧ (16 = 16)) then l362 else (List.take 16 (List.drop 0 l362))) (0 : Int)).bind fun r480 =>
    let l481 : List Int := (if ((0 = 0) ∧ (64 = 64)) then r480.2.1 else (List.take 64 (List.drop 0 r480.2.1)))
    let l482 : List Int := (if ((0 = 0) ∧ (64 = 64)) then l481 else (((List.take 0 r480.1) ++ l481) ++ (List.drop 64 r480.1)))
    some ((if ((0 = 0) ∧ (64 = 64)) then l482 else (List.take 64 (List.drop 0 l482))), ((0 : Int), ())))
end Go.AE.Gn

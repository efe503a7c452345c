/- The framework AE, part 16: functions by what they come to; loops by what they come to. -/
import Derived.Test.YtjmdnghdbfmijaaFw15
set_option linter.unusedVariables false
set_option linter.unusedSimpArgs false
namespace Go.AE
open Go Go.RowKit

variable {ρ : Type}

def st0 (n : Nat) : St := ⟨List.replicate n .undef, []⟩

theorem told0 {M : List Place} {st : St} {B : Nat} {w : World} {a : Array Value} (hB : B ≤ w.heap.size) (n : Nat) (hn : n = a.size) : Told M st B w a [] [] (st0 n) := by
  refine ⟨⟨by simp [st0, hn], fun t => ?_⟩, ⟨rfl, hB, fun i o h => (by simp [st0] at h), fun i j oi oj pi pj h => (by simp [st0] at h)⟩, rfl, fun i ac h => (by simp at h)⟩
  have : (List.replicate n AV.undef).getD t .undef = .undef := by
    rw [List.getD_eq_getElem?_getD, List.getElem?_replicate]
    split <;> rfl
  show RelV [] ((List.replicate n AV.undef).getD t .undef) _
  rw [this]
  exact relV_undef _ _

/-- A told state fits. -/
theorem ext_rel {M : List Place} {st : St} {B : Nat} {w0 : World} {a : Go.Act} {w : World} (r : Rel M st B w0 a w) {its : List Item} {d : D (tysI its [])} (h : extI st its [] () [] = some d) {n : Nat} (hn : st.tmps.length = n) : ∃ M', Rel M' (bldI its [] d (st0 n)).1 B w0 a w := by
  obtain ⟨⟨M2, _, t⟩, _⟩ := extI_sound r.tmps r.heap (told0 (a := a.tmps) r.heap.base n (by rw [← hn]; exact r.tmps.1)) h
  exact ⟨M2, t.tmps, r.defers, t.heap, r.below⟩

/-! ### results -/

def aresL (P : Program) (st : St) : List ResultVar → Option (List AV)
  | [] => some []
  | .tmp t :: r => match aresL P st r with
    | some l => some (st.tmps.getD t .undef :: l)
    | none => none
  | .cell t ty :: r => match aload P st.heap ty (st.tmps.getD t .undef), aresL P st r with
    | some x, some l => some (x :: l)
    | _, _ => none

def retV (rs : Array Value) : Value := if h : rs.size = 1 then rs[0] else .tuple rs
def retA : List AV → AV
  | [x] => x
  | l => .tup l

def resOne (a : Array Value) (x : ResultVar) : Sem Value :=
  match x with
  | .tmp t => pure (a.getD t undef)
  | .cell c t => (do loadVar t (← asAddr (a.getD c undef)) : Sem Value)

theorem aresL_sound {P : Program} {M : List Place} {st : St} {B : Nat} {w : World} {a : Array Value} (ht : RelT M st.tmps a) (hH : RelH M st.heap B w) : ∀ {rs : List ResultVar} {l : List AV}, aresL P st rs = some l →
    ∃ vs : List Value, RelL M l vs ∧ (rs.mapM (resOne a)).run P w = .ok vs w
  | [], l, h => by
    simp only [aresL, Option.some.injEq] at h
    subst h
    exact ⟨[], RelL_nil.2 rfl, by simp⟩
  | .tmp t :: r, l, h => by
    simp only [aresL] at h
    split at h
    · rename_i l' hl
      cases h
      obtain ⟨vs, h1, h2⟩ := aresL_sound ht hH hl
      have h3 : (resOne a (.tmp t)).run P w = .ok (a.getD t undef) w := rfl
      exact ⟨a.getD t undef :: vs, RelL_cons.2 ⟨_, _, rfl, ht.2 t, h1⟩, by rw [List.mapM_cons]; simp only [Sem.run_bind, Sem.run_pure, Result.andThen_ok, h2, h3]⟩
    · cases h
  | .cell c t :: r, l, h => by
    simp only [aresL] at h
    split at h
    · rename_i x l' hx hl
      cases h
      obtain ⟨vs, h1, h2⟩ := aresL_sound ht hH hl
      obtain ⟨A, u, e, hu, hrun⟩ := aload_sound hH (ht.2 c) hx
      have h3 : (resOne a (.cell c t)).run P w = .ok u w := by
        show ((do loadVar t (← asAddr (a.getD c undef)) : Sem Value)).run P w = _
        rw [Sem.run_bind, e]
        simp only [asAddr, Sem.run_pure, Result.andThen_ok]
        exact hrun w (Below.refl _ _)
      exact ⟨u :: vs, RelL_cons.2 ⟨_, _, rfl, hu, h1⟩, by rw [List.mapM_cons]; simp only [Sem.run_bind, Sem.run_pure, Result.andThen_ok, h2, h3]⟩
    · cases h

theorem results_run {P : Program} {M : List Place} {st : St} {B : Nat} {w : World} {a : Array Value} (ht : RelT M st.tmps a) (hH : RelH M st.heap B w) {fn : Func} {l : List AV} (h : aresL P st fn.results.toList = some l) :
    ∃ vs : Array Value, RelL M l vs.toList ∧ (results fn a).run P w = .ok (retV vs) w := by
  obtain ⟨vs, h1, h2⟩ := aresL_sound ht hH h
  refine ⟨vs.toArray, by simpa using h1, ?_⟩
  have h3 : (fn.results.mapM (resOne a)).run P w = .ok vs.toArray w := by
    rw [Array.mapM_eq_mapM_toList]
    show ((List.toArray <$> fn.results.toList.mapM (resOne a) : Sem (Array Value))).run P w = _
    rw [map_eq_pure_bind, Sem.run_bind, h2]
    rfl
  have h4 : results fn a = (do
      let vs ← fn.results.mapM (resOne a)
      pure (if h : vs.size = 1 then vs[0] else .tuple vs)) := by
    unfold results
    have : (fun (x : ResultVar) => (match x with | .tmp t => pure (a.getD t undef) | .cell c t => (do loadVar t (← asAddr (a.getD c undef)) : Sem Value) : Sem Value)) = resOne a := by
      funext x
      cases x <;> rfl
    rw [← this]
    rfl
  rw [h4, Sem.run_bind, h3]
  rfl

theorem retA_rel {M : List Place} {l : List AV} {vs : Array Value} (h : RelL M l vs.toList) : RelV M (retA l) (retV vs) := by
  have hlen : ∀ {l : List AV} {vs : List Value}, RelL M l vs → l.length = vs.length := by
    intro l
    induction l with
    | nil => intro vs h; rw [RelL_nil] at h; subst h; rfl
    | cons x l ih => intro vs h; obtain ⟨v, r, rfl, _, hr⟩ := RelL_cons.1 h; simp [ih hr]
  have hl := hlen h
  simp at hl
  unfold retA retV
  split
  · rename_i x
    simp at hl
    rw [dif_pos hl.symm]
    obtain ⟨v, r, e, hx, hr⟩ := RelL_cons.1 h
    rw [RelL_nil] at hr
    subst hr
    have : vs[0]'(by omega) = v := by
      have := congrArg (fun l : List Value => l[0]?) e
      simpa [hl.symm] using this
    rw [this]
    exact hx
  · rename_i hne
    rw [dif_neg]
    · simp only [RelV, RelX]
      exact ⟨vs, rfl, h⟩
    · intro h1
      rw [h1] at hl
      obtain ⟨x, rfl⟩ := List.length_eq_one_iff.1 hl
      exact hne x rfl

/-! ### a function's body -/

def evBody (P : Program) (cal : Cal ρ) (qcal : QCal ρ) (ann : Nat → Option (Ann ρ)) (f : FuncId) (args : List AV) (H : Heap) (K : List AV → Heap → Option ρ) : Option ρ :=
  match P.funcs[f]? with
  | some fn => match fn.body with
    | some c => evCode P cal qcal ann c ⟨args ++ List.replicate (fn.ntmps - args.length) .undef, H⟩ fun e st => match e with
      | .normal | .ret => match aresL P st fn.results.toList with
        | some l => K l st.heap
        | none => none
      | _ => none
    | none => none
  | none => none

theorem relL_size {M : List Place} : ∀ {l : List AV} {vs : List Value}, RelL M l vs → l.length = vs.length
  | [], vs, h => by rw [RelL_nil] at h; subst h; rfl
  | x :: l, vs, h => by obtain ⟨v, r, rfl, _, hr⟩ := RelL_cons.1 h; simp [relL_size hr]

theorem relT_args {M : List Place} {args : List AV} {vs : Array Value} (h : RelL M args vs.toList) (n : Nat) : RelT M (args ++ List.replicate n .undef) (vs ++ Array.replicate n undef) := by
  have hs := relL_size h
  simp at hs
  refine ⟨by simp [hs], fun t => ?_⟩
  by_cases ht : t < args.length
  · have e1 : (args ++ List.replicate n AV.undef).getD t .undef = args[t] := by simp [List.getD_eq_getElem?_getD, List.getElem?_append_left ht, ht]
    rw [e1]
    obtain ⟨v, hv, hr⟩ := relL_get h (List.getElem?_eq_getElem ht)
    have e2 : (vs ++ Array.replicate n undef).getD t undef = v := by
      have hv' : vs[t]? = some v := by simpa using hv
      simp [Array.getElem?_append_left (show t < vs.size by omega), hv']
    rw [e2]
    exact hr
  · have e1 : (args ++ List.replicate n AV.undef).getD t .undef = .undef := by
      rw [List.getD_eq_getElem?_getD, List.getElem?_append_right (by omega), List.getElem?_replicate]
      split <;> rfl
    rw [e1]
    exact relV_undef _ _

theorem evBody_sound {P : Program} (hP : Callable P) {cal : Cal ρ} (hcal : ∀ f, CalAt P f (cal f)) {qcal : QCal ρ} (hq : ∀ f, QCalAt P f (qcal f)) {ann : Nat → Option (Ann ρ)} {x : Bool} {f : FuncId} {args : List AV} {H : Heap} {K : List AV → Heap → Option ρ} {r : ρ}
    (h : evBody P cal qcal ann f args H K = some r) {M : List Place} {B : Nat} {w : World} {vs : Array Value}
    (hann : ∀ fn c, P.funcs[f]? = some fn → fn.body = some c → ∀ id an c', ann id = some an → (id, c') ∈ blocks c → AnnAt P x B w (.block id c') an)
    (hl : RelL M args vs.toList) (hH : RelH M H B w) :
    Calls P f vs w fun e w' => ∃ rs l H' M', e = .returned (retV rs) ∧ K l H' = some r ∧ ExtO x M M' ∧ RelL M' l rs.toList ∧ RelH M' H' B w' ∧ Below B w w' := by
  unfold evBody at h
  split at h
  · rename_i fn hf
    split at h
    · rename_i c hb
      have hs := relL_size hl
      simp at hs
      refine calls_of_wp hf hb ?_
      have hr0 : Rel M ⟨args ++ List.replicate (fn.ntmps - args.length) .undef, H⟩ B w { tmps := vs ++ Array.replicate (fn.ntmps - vs.size) undef, defers := [] } w :=
        ⟨by rw [hs]; exact relT_args hl _, rfl, hH, Below.refl _ _⟩
      refine evCode_sound hP hcal hq c (hann fn c hf hb) _ _ h M _ w _ hr0 fun e M' st' a' w' hE hk hr => ?_
      have fin : (match aresL P st' fn.results.toList with | some l => K l st'.heap | none => none) = some r →
          a'.defers = [] ∧ ∃ v, (results fn a'.tmps).run P w' = .ok v w' ∧ ∃ rs l H' M', Ending.returned v = .returned (retV rs) ∧ K l H' = some r ∧ ExtO x M M' ∧ RelL M' l rs.toList ∧ RelH M' H' B w' ∧ Below B w w' := by
        intro hk
        split at hk
        · rename_i l hres
          obtain ⟨rs, h1, h2⟩ := results_run hr.tmps hr.heap hres
          exact ⟨hr.defers, _, h2, rs, l, _, M', rfl, hk, hE, h1, hr.heap, hr.below⟩
        · cases hk
      cases e <;> simp only [reduceCtorEq] at hk
      case normal => exact fin hk
      case ret => exact fin hk
    · cases h
  · cases h

/-! ### the functions that are entered -/

/-- What is known of functions: the told ones, and the told ones that leave memory alone. -/
structure Env (ρ : Type) where
  sum : FuncId → Option (List AV → Heap → (AV → Heap → Option ρ) → Option ρ)
  qsum : FuncId → Option (List AV → Heap → (AV → Option ρ) → Option ρ)

structure EnvOk (P : Program) (E : Env ρ) : Prop where
  sum : ∀ f s, E.sum f = some s → CalAt P f s
  qsum : ∀ f s, E.qsum f = some s → QCalAt P f s

def qof (E : Env ρ) : QCal ρ := fun f args H K => match E.qsum f with
  | some s => s args H K
  | none => none

def evFn (P : Program) (E : Env ρ) : Nat → Cal ρ
  | 0 => fun _ _ _ _ => none
  | n + 1 => fun f args H K => match E.sum f with
    | some s => s args H K
    | none => evBody P (evFn P E n) (qof E) (fun _ => none) f args H fun l H' => K (retA l) H'

theorem qof_ok {P : Program} {E : Env ρ} (hE : EnvOk P E) (f : FuncId) : QCalAt P f (qof E f) := by
  intro args H K r h M B w vs hl hH
  unfold qof at h
  split at h
  · rename_i s hs
    exact hE.qsum f s hs args H K r h M B w vs hl hH
  · cases h

theorem evFn_ok {P : Program} (hP : Callable P) {E : Env ρ} (hE : EnvOk P E) : ∀ (n : Nat) (f : FuncId), CalAt P f (evFn P E n f)
  | 0, f => fun args H K r h => by cases h
  | n + 1, f => by
    intro args H K r h M B w vs hl hH
    unfold evFn at h
    split at h
    · rename_i s hs
      exact hE.sum f s hs args H K r h M B w vs hl hH
    · refine (evBody_sound hP (evFn_ok hP hE n) (qof_ok hE) (x := true) h (fun _ _ _ _ id an c' h1 => (by cases h1)) hl hH).mono ?_
      rintro e w' ⟨rs, l, H', M', h1, h2, h3, h4, h5, h6⟩
      exact ⟨retV rs, retA l, H', M', h1, h2, h3 rfl, h5, h6, retA_rel h4⟩

/-! ### told results -/

inductive Out where
  | ty (t : Ty)
  | row (k : IntKind) (sz : Nat)

@[reducible] def tysO : List Out → List Ty
  | [] => []
  | .ty t :: r => t :: tysO r
  | .row k _ :: r => .row k :: tysO r

def bldO : (os : List Out) → D (tysO os) → Nat → List AV × Heap
  | [], _, _ => ([], [])
  | .ty t :: r, d, b => (mkT t d.1 :: (bldO r d.2 b).1, (bldO r d.2 b).2)
  | .row k sz :: r, d, b => (.sl b 0 (div1 (List.length (α := Int) d.1) sz) sz .own :: (bldO r d.2 (b + 1)).1, some ⟨.row k d.1, true⟩ :: (bldO r d.2 (b + 1)).2)

def exO (H : Heap) : (os : List Out) → List AV → List Nat → Option (D (tysO os))
  | [], [], _ => some ()
  | .ty t :: r, x :: xs, used => match getT t x, exO H r xs used with
    | some v, some d => some (v, d)
    | _, _ => none
  | .row k sz :: r, x :: xs, used => match x with
    | .nils => if 1 ≤ sz then (match exO H r xs used with | some d => some ([], d) | none => none) else none
    | .sl b _ _ s .own => if s = sz ∧ 1 ≤ sz ∧ used.contains b = false then
        (match H[b]? with
         | some (some ⟨.row k' l, true⟩) => if k' = k then (match exO H r xs (b :: used) with | some d => some (l, d) | none => none) else none
         | _ => none)
      else none
    | _ => none
  | _, _, _ => none

/-- Results as told; rows are new ones, none met twice. -/
def RelOut (B : Nat) (w : World) : (os : List Out) → D (tysO os) → List Value → List Nat → Prop
  | [], _, vs, _ => vs = []
  | .ty t :: r, d, vs, used => ∃ v vs', vs = v :: vs' ∧ RelV [] (mkT t d.1) v ∧ RelOut B w r d.2 vs' used
  | .row k sz :: r, d, vs, used => ∃ v vs' pl, vs = v :: vs' ∧ 1 ≤ sz ∧ ObjOk [] ⟨.row k d.1, true⟩ pl B w ∧ (pl.nil = false → pl.blk ∉ used) ∧
      (∀ (M : List Place) (b : Nat), M[b]? = some pl → RelV M (.sl b 0 (div1 (List.length (α := Int) d.1) sz) sz .own) v) ∧
      RelOut B w r d.2 vs' (if pl.nil then used else pl.blk :: used)

theorem exO_sound {M : List Place} {H : Heap} {B : Nat} {w : World} (hH : RelH M H B w) : ∀ {os : List Out} {xs : List AV} {used : List Nat} {ub : List Nat} {d : D (tysO os)} {vs : List Value}, exO H os xs used = some d → RelL M xs vs →
    (∀ u ∈ ub, ∃ b p o, b ∈ used ∧ H[b]? = some (some o) ∧ M[b]? = some p ∧ p.nil = false ∧ p.blk = u ∧ o.own = true) → RelOut B w os d vs ub
  | [], [], used, ub, d, vs, h, hl, _ => by rw [RelL_nil] at hl; exact hl
  | [], _ :: _, used, ub, d, vs, h, hl, _ => by simp [exO] at h
  | .ty t :: r, [], used, ub, d, vs, h, hl, _ => by simp [exO] at h
  | .row k sz :: r, [], used, ub, d, vs, h, hl, _ => by simp [exO] at h
  | .ty t :: r, x :: xs, used, ub, d, vs, h, hl, hu => by
    simp only [exO] at h
    split at h
    · rename_i v d' hv hd
      cases h
      obtain ⟨u, vs', rfl, hx, hr⟩ := RelL_cons.1 hl
      exact ⟨u, vs', rfl, getT_rel hv hx, exO_sound hH hd hr hu⟩
    · cases h
  | .row k sz :: r, x :: xs, used, ub, d, vs, h, hl, hu => by
    obtain ⟨u, vs', rfl, hx, hr⟩ := RelL_cons.1 hl
    simp only [exO] at h
    split at h
    · split at h
      · rename_i hs
        split at h
        · rename_i d' hd
          cases h
          have hv : u = .slice none 0 0 := by simpa [RelX] using hx
          subst hv
          refine ⟨_, vs', ⟨true, 0, 0, 0, 0⟩, rfl, hs, .inl ⟨rfl, rfl, by simp [RelO]⟩, fun h => (by cases h), fun M b hb => ?_, ?_⟩
          · rw [div_len (n := List.length (α := Int) []) (len := 0) (by simp) hs]
            simp only [RelV, RelX]
            refine ⟨⟨true, 0, 0, 0, 0⟩, none, 0, hb, rfl, by simp, Nat.le_refl _, fun _ => ⟨fun _ => rfl, rfl⟩, fun h => (by cases h), fun hf => (by cases hf), fun _ => ⟨trivial, rfl, by simp, by simp⟩, fun hf => (by cases hf), by rw [has_iff]; simp [loB, hiB]⟩
          · exact exO_sound hH hd hr hu
        · cases h
      · cases h
    · rename_i b off len s
      split at h
      · rename_i hc
        obtain ⟨rfl, hs, hnu⟩ := hc
        split at h
        · rename_i k' l hob
          split at h
          · rename_i hk
            subst hk
            split at h
            · rename_i d' hd
              cases h
              obtain ⟨pl, hpl, hok⟩ := hH.obj b _ hob
              have hlen := row_len hH hob hpl
              simp only [RelX] at hx
              obtain ⟨pl', A, cap, hpl', hv, hb, hcap, hnil, hnn, hfull, hown, hwhole, hhas⟩ := hx
              rw [hpl] at hpl'
              cases hpl'
              obtain ⟨d1, d2, d3, d4⟩ := hown trivial
              subst d1
              have hdiv := div_len (n := l.length) (len := len) (by omega) hs
              refine ⟨u, vs', pl, rfl, hs, ?_, fun hn hm => ?_, fun M' b' hb' => ?_, ?_⟩
              · rcases hok with ⟨n1, n2, n3⟩ | ⟨n1, cs, el, fz, g1, g2, g3, g4, g5⟩
                · exact .inl ⟨n1, n2, n3⟩
                · exact .inr ⟨n1, cs, el, fz, g1, g2, g3, g4, g5⟩
              · obtain ⟨b2, p2, o2, m1, m2, m3, m4, m5, m6⟩ := hu _ hm
                have hne : b2 ≠ b := by
                  intro e
                  subst e
                  have : used.contains b2 = true := by simpa using m1
                  rw [this] at hnu
                  cases hnu
                exact hH.sep b2 b o2 _ p2 pl m2 hob m3 hpl hne m6 m4 hn m5
              · rw [hdiv]
                simp only [RelV, RelX]
                exact ⟨pl, A, cap, hb', by simpa using hv, by simpa using hb, hcap, hnil, hnn, hfull, fun _ => ⟨trivial, d2, d3, d4⟩, fun hf => (by cases hf), hhas⟩
              · refine exO_sound hH hd hr ?_
                intro v hv2
                cases hn : pl.nil with
                | true =>
                  rw [hn] at hv2
                  obtain ⟨b2, p2, o2, m1, m⟩ := hu v hv2
                  exact ⟨b2, p2, o2, by simp [m1], m⟩
                | false =>
                  rw [hn] at hv2
                  simp only [Bool.false_eq_true, if_false, List.mem_cons] at hv2
                  rcases hv2 with rfl | hv2
                  · exact ⟨b, pl, _, by simp, hob, hpl, hn, rfl, rfl⟩
                  · obtain ⟨b2, p2, o2, m1, m⟩ := hu v hv2
                    exact ⟨b2, p2, o2, by simp [m1], m⟩
            · cases h
          · cases h
        · cases h
      · cases h
    · cases h

/-- Told results in the caller's memory. -/
theorem relOut_add {B B2 : Nat} {w : World} (hB : B ≤ B2) : ∀ {os : List Out} {d : D (tysO os)} {vs : List Value} {used : List Nat} {M : List Place} {H : Heap}, RelOut B2 w os d vs used → RelH M H B w →
    (∀ (i : Nat) (o : AObj) (p : Place), H[i]? = some (some o) → M[i]? = some p → p.nil = false → p.blk < B2 ∨ p.blk ∈ used) → ∃ M', Ext M M' ∧ RelL M' (bldO os d H.length).1 vs ∧ RelH M' (H ++ (bldO os d H.length).2) B w
  | [], d, vs, used, M, H, h, hH, _ => by
    simp only [RelOut] at h
    exact ⟨M, Ext.refl M, by simp [bldO, RelL_nil, h], by simpa [bldO] using hH⟩
  | .ty t :: r, d, vs, used, M, H, h, hH, hlow => by
    obtain ⟨v, vs', rfl, hv, hr⟩ := h
    obtain ⟨M', h1, h2, h3⟩ := relOut_add hB hr hH hlow
    refine ⟨M', h1, RelL_cons.2 ⟨v, vs', rfl, RelX.mono (fun b pl e => (by simp at e)) _ _ hv, h2⟩, h3⟩
  | .row k sz :: r, d, vs, used, M, H, h, hH, hlow => by
    obtain ⟨v, vs', pl, rfl, hs, hok, hnu, hv, hr⟩ := h
    have hE0 : Ext [] M := fun b pl e => (by simp at e)
    have hok' : ObjOk M ⟨.row k d.1, true⟩ pl B w ∧ (pl.nil = false → B2 ≤ pl.blk) := by
      rcases hok with ⟨n1, n2, n3⟩ | ⟨n1, cs, el, fz, g1, g2, g3, g4, g5⟩
      · exact ⟨.inl ⟨n1, n2, n3.mono hE0⟩, fun h => (by rw [n1] at h; cases h)⟩
      · obtain ⟨z1, z2, z3⟩ := g5 rfl
        exact ⟨.inr ⟨n1, cs, el, fz, g1, g2, g3, g4.mono hE0, fun _ => ⟨z1, z2, Nat.le_trans hB z3⟩⟩, fun _ => z3⟩
    have hH2 := hH.add hok'.1 (fun i oi pi hi hpi _ hni hnp => by
      have h2 := hok'.2 hnp
      have h3 := hnu hnp
      rcases hlow i oi pi hi hpi hni with h4 | h4
      · omega
      · exact fun e => h3 (e ▸ h4))
    obtain ⟨M', h1, h2, h3⟩ := relOut_add hB hr hH2 (fun i o p hi hp hn => by
      rw [List.getElem?_append] at hi
      split at hi
      · rename_i hlt
        have hp' : M[i]? = some p := by
          rw [List.getElem?_append_left (by rw [← hH.len]; exact hlt)] at hp
          exact hp
        rcases hlow i o p hi hp' hn with h4 | h4
        · exact .inl h4
        · right
          split
          · exact h4
          · simp [h4]
      · rename_i hge
        have h0 : i - H.length = 0 := by
          rcases Nat.eq_zero_or_pos (i - H.length) with h | h
          · exact h
          · rw [List.getElem?_eq_none (by simp; omega)] at hi; cases hi
        have hiM : i = M.length := by have := hH.len; omega
        subst hiM
        simp at hp
        subst hp
        right
        rw [hn]
        simp)
    refine ⟨M', (Ext.snoc M _).trans h1, RelL_cons.2 ⟨v, vs', rfl, hv M' H.length (h1 _ _ (by rw [hH.len]; simp)), ?_⟩, ?_⟩
    · simpa [bldO] using h2
    · simpa [bldO] using h3

end Go.AE

/- The framework AE, part 18: what functions and loops come to. -/
import Derived.Test.YtjmdnghdbfmijaaFw17
set_option linter.unusedVariables false
set_option linter.unusedSimpArgs false
namespace Go.AE
open Go Go.RowKit

variable {ρ : Type}

/-- The state that items tell. -/
def bldS (nt : Nat) (its : List Item) (d : D (tysI its [])) : St := (bldI its [] d (st0 nt)).1
/-- The data of a state by items. -/
def extS (nt : Nat) (its : List Item) (st : St) : Option (D (tysI its [])) := if st.tmps.length = nt then extI st its [] () [] else none

theorem extS_rel {M : List Place} {st : St} {B : Nat} {w0 : World} {a : Go.Act} {w : World} (r : Rel M st B w0 a w) {its : List Item} {nt : Nat} {d : D (tysI its [])} (h : extS nt its st = some d) : ∃ M', Rel M' (bldS nt its d) B w0 a w := by
  unfold extS at h
  split at h
  · rename_i hn
    exact ext_rel r h hn
  · cases h

/-! ### loops -/

/-- A loop that only ends by its own exit. -/
def annS (nt : Nat) (ins outs : List Item) (L : D (tysI ins []) → Option (D (tysI outs []))) : Ann ρ := fun st K =>
  (extS nt ins st).bind fun d => (L d).bind fun r => K .normal (bldS nt outs r)

/-- A loop that ends by its own exit, or by another one. -/
def annX (nt : Nat) (ins outX outs : List Item) (e2 : Exit) (L : D (tysI ins []) → Option (D (tysI outX []) ⊕ D (tysI outs []))) : Ann ρ := fun st K =>
  (extS nt ins st).bind fun d => (L d).bind fun r => match r with
    | .inl r => K e2 (bldS nt outX r)
    | .inr r => K .normal (bldS nt outs r)

/-- What is done behind a round. -/
def kS (nt : Nat) (ins outs : List Item) (id : Nat) (L : D (tysI ins []) → Option (D (tysI outs []))) : Exit → St → Option (D (tysI outs [])) := fun e st => match e with
  | .normal => (extS nt ins st).bind L
  | .exit j => if j = id then extS nt outs st else none
  | _ => none

def kX (nt : Nat) (ins outX outs : List Item) (id : Nat) (e2 : Exit) (L : D (tysI ins []) → Option (D (tysI outX []) ⊕ D (tysI outs []))) : Exit → St → Option (D (tysI outX []) ⊕ D (tysI outs [])) := fun e st => match e with
  | .normal => (extS nt ins st).bind L
  | .exit j => if j = id then (extS nt outs st).bind fun r => some (.inr r) else (match e2 with
    | .exit i => if j = i then (extS nt outX st).bind fun r => some (.inl r) else none
    | _ => none)
  | .ret => (match e2 with
    | .ret => (extS nt outX st).bind fun r => some (.inl r)
    | _ => none)
  | _ => none

/-- The calls that are known, for all answers. -/
abbrev Cals := ∀ (σ : Type), Cal σ
abbrev QCals := ∀ (σ : Type), QCal σ

theorem annX_ok {P : Program} (hP : Callable P) {cal : Cals} (hcal : ∀ σ f, CalAt P f (cal σ f)) {qcal : QCals} (hq : ∀ σ f, QCalAt P f (qcal σ f)) {nt : Nat} {ins outX outs : List Item} {e2 : Exit} {id : Nat} {body : Code}
    {L : Nat → D (tysI ins []) → Option (D (tysI outX []) ⊕ D (tysI outs []))} {ann : Nat → Option (Ann (D (tysI outX []) ⊕ D (tysI outs [])))} {B : Nat} {w0 : World}
    (hann : ∀ id an c', ann id = some an → (id, c') ∈ blocks body → AnnAt P false B w0 (.block id c') an) (h0 : ∀ d, L 0 d = none)
    (hs : ∀ k d, evCode P (cal _) (qcal _) ann body (bldS nt ins d) (kX nt ins outX outs id e2 (L k)) = L (k + 1) d) (he : e2 = .ret ∨ ∃ j, e2 = .exit j ∧ j ≠ id) (F : Nat) :
    AnnAt (ρ := ρ) P false B w0 (.block id (.loop body)) (annX nt ins outX outs e2 (L F)) := by
  intro st K r h M a w Q hr hn
  unfold annX at h
  simp only [Option.bind_eq_some_iff] at h
  obtain ⟨d, hd, x, hx, hk⟩ := h
  refine wp_block ?_
  obtain ⟨M1, hr1⟩ := extS_rel hr hd
  refine wp_loop_ind (fun n a' w' => ∃ d' M', L n d' = some x ∧ Rel M' (bldS nt ins d') B w0 a' w') (n := F) ⟨d, M1, hx, hr1⟩ ?_
  rintro n a1 w1 ⟨d1, M1, h1, hr1⟩
  cases n with
  | zero => rw [h0] at h1; cases h1
  | succ n =>
    rw [← hs] at h1
    refine evCode_sound hP (hcal _) (hq _) body hann _ _ h1 M1 a1 w1 _ hr1 fun e M' st' a' w' hE hk' hr' => ?_
    have out1 : ∀ {r'}, extS nt outs st' = some r' → x = .inr r' → Q .normal a' w' := by
      intro r' hr2 hx2
      subst hx2
      obtain ⟨M2, hr3⟩ := extS_rel hr' hr2
      exact hn .normal M2 _ a' w' (fun h => by cases h) hk hr3
    have out2 : ∀ {r'}, extS nt outX st' = some r' → x = .inl r' → Q e2 a' w' := by
      intro r' hr2 hx2
      subst hx2
      obtain ⟨M2, hr3⟩ := extS_rel hr' hr2
      exact hn e2 M2 _ a' w' (fun h => by cases h) hk hr3
    cases e with
    | normal =>
      simp only [kX, Option.bind_eq_some_iff] at hk'
      obtain ⟨d2, hd2, hL⟩ := hk'
      obtain ⟨M2, hr2⟩ := extS_rel hr' hd2
      exact ⟨n, by omega, d2, M2, hL, hr2⟩
    | exit j =>
      simp only [kX] at hk'
      unfold Exit.inBlock
      show if j = id then Q .normal a' w' else Q (.exit j) a' w'
      split at hk'
      · rename_i hj
        rw [if_pos hj]
        simp only [Option.bind_eq_some_iff, Option.some.injEq] at hk'
        obtain ⟨r', h2, h3⟩ := hk'
        exact out1 h2 h3.symm
      · rename_i hj
        rw [if_neg hj]
        split at hk'
        · split at hk'
          · rename_i i hi
            simp only [Option.bind_eq_some_iff, Option.some.injEq] at hk'
            obtain ⟨r', h2, h3⟩ := hk'
            subst hi
            exact out2 h2 h3.symm
          · cases hk'
        · cases hk'
    | ret =>
      simp only [kX] at hk'
      split at hk'
      · simp only [Option.bind_eq_some_iff, Option.some.injEq] at hk'
        obtain ⟨r', h2, h3⟩ := hk'
        exact out2 h2 h3.symm
      · cases hk'
    | goto l => simp only [kX] at hk'; cases hk'
    | panic ch => simp only [kX] at hk'; cases hk'
    | outgrown => simp only [kX] at hk'; cases hk'

theorem annS_ok {P : Program} (hP : Callable P) {cal : Cals} (hcal : ∀ σ f, CalAt P f (cal σ f)) {qcal : QCals} (hq : ∀ σ f, QCalAt P f (qcal σ f)) {nt : Nat} {ins outs : List Item} {id : Nat} {body : Code}
    {L : Nat → D (tysI ins []) → Option (D (tysI outs []))} {ann : Nat → Option (Ann (D (tysI outs [])))} {B : Nat} {w0 : World}
    (hann : ∀ id an c', ann id = some an → (id, c') ∈ blocks body → AnnAt P false B w0 (.block id c') an) (h0 : ∀ d, L 0 d = none)
    (hs : ∀ k d, evCode P (cal _) (qcal _) ann body (bldS nt ins d) (kS nt ins outs id (L k)) = L (k + 1) d) (F : Nat) :
    AnnAt (ρ := ρ) P false B w0 (.block id (.loop body)) (annS nt ins outs (L F)) := by
  intro st K r h M a w Q hr hn
  unfold annS at h
  simp only [Option.bind_eq_some_iff] at h
  obtain ⟨d, hd, x, hx, hk⟩ := h
  refine wp_block ?_
  obtain ⟨M1, hr1⟩ := extS_rel hr hd
  refine wp_loop_ind (fun n a' w' => ∃ d' M', L n d' = some x ∧ Rel M' (bldS nt ins d') B w0 a' w') (n := F) ⟨d, M1, hx, hr1⟩ ?_
  rintro n a1 w1 ⟨d1, M1, h1, hr1⟩
  cases n with
  | zero => rw [h0] at h1; cases h1
  | succ n =>
    rw [← hs] at h1
    refine evCode_sound hP (hcal _) (hq _) body hann _ _ h1 M1 a1 w1 _ hr1 fun e M' st' a' w' hE hk' hr' => ?_
    cases e with
    | normal =>
      simp only [kS, Option.bind_eq_some_iff] at hk'
      obtain ⟨d2, hd2, hL⟩ := hk'
      obtain ⟨M2, hr2⟩ := extS_rel hr' hd2
      exact ⟨n, by omega, d2, M2, hL, hr2⟩
    | exit j =>
      simp only [kS] at hk'
      show if j = id then Q .normal a' w' else Q (.exit j) a' w'
      split at hk'
      · rename_i hj
        rw [if_pos hj]
        obtain ⟨M2, hr3⟩ := extS_rel hr' hk'
        exact hn .normal M2 _ a' w' (fun h => by cases h) hk hr3
      · cases hk'
    | ret => simp only [kS] at hk'; cases hk'
    | goto l => simp only [kS] at hk'; cases hk'
    | panic ch => simp only [kS] at hk'; cases hk'
    | outgrown => simp only [kS] at hk'; cases hk'

/-! ### functions -/

def noOwn : List Item → Bool
  | [] => true
  | .row _ _ _ own :: r => !own && noOwn r
  | .segs _ _ own :: r => !own && noOwn r
  | _ :: r => noOwn r

/-- What a function comes to, of arguments that are told by items. -/
def FnSpec (P : Program) (f : FuncId) (n : Nat) (ins : List Item) (os : List Out) (F : D (tysI ins []) → Option (D (tysO os))) : Prop :=
  ∀ (d : D (tysI ins [])) (r : D (tysO os)), F d = some r → ∀ (M : List Place) (w : World) (vs : Array Value), RelL M (bldS n ins d).tmps vs.toList → RelH M (bldS n ins d).heap w.heap.size w →
    Calls P f vs w fun e w' => ∃ rs : Array Value, e = .returned (retV rs) ∧ Below w.heap.size w w' ∧ RelOut w.heap.size w' os r rs.toList []

theorem fnSpec_of {P : Program} (hP : Callable P) {cal : Cals} (hcal : ∀ σ f, CalAt P f (cal σ f)) {qcal : QCals} (hq : ∀ σ f, QCalAt P f (qcal σ f)) {f : FuncId} {n : Nat} {ins : List Item} {os : List Out} {F : D (tysI ins []) → Option (D (tysO os))} {ann : Nat → Option (Ann (D (tysO os)))}
    (hann : ∀ fn c, P.funcs[f]? = some fn → fn.body = some c → ∀ id an c', ann id = some an → (id, c') ∈ blocks c → ∀ B w, AnnAt P false B w (.block id c') an)
    (h : ∀ d, evBody P (cal _) (qcal _) ann f (bldS n ins d).tmps (bldS n ins d).heap (fun l H => exO H os l []) = F d) : FnSpec P f n ins os F := by
  intro d r hd M w vs hl hH
  rw [← h] at hd
  refine (evBody_sound hP (hcal _) (hq _) (x := false) hd (fun fn c h1 h2 id an c' h3 h4 => hann fn c h1 h2 id an c' h3 h4 _ _) hl hH).mono ?_
  rintro e w' ⟨rs, l, H', M', rfl, hk, _, hl', hH', hb⟩
  exact ⟨rs, rfl, hb, exO_sound hH' hk hl' (fun u hu => by simp at hu)⟩

theorem relL_of_relT {M : List Place} {ts : List AV} {a : Array Value} (h : RelT M ts a) : RelL M ts a.toList := by
  have key : ∀ (ts : List AV) (vs : List Value), ts.length = vs.length → (∀ t, RelV M (ts.getD t .undef) (vs.getD t undef)) → RelL M ts vs := by
    intro ts
    induction ts with
    | nil => intro vs h _; rw [RelL_nil]; exact List.length_eq_zero_iff.1 h.symm
    | cons x ts ih =>
      intro vs h h2
      cases vs with
      | nil => simp at h
      | cons v vs => exact RelL_cons.2 ⟨v, vs, rfl, by simpa using h2 0, ih vs (by simpa using h) fun t => by simpa using h2 (t + 1)⟩
  refine key ts a.toList (by simpa using h.1) fun t => ?_
  have := h.2 t
  rw [show a.getD t undef = a.toList.getD t undef from by simp [List.getD_eq_getElem?_getD, Array.getElem?_toList]] at this
  exact this

theorem noOwn_heap : ∀ {its : List Item} {acc : List Ty} {d : D (tysI its acc)} {st : St}, noOwn its = true → (∀ (i : Nat) o, st.heap[i]? = some (some o) → o.own = false) → ∀ (i : Nat) o, (bldI its acc d st).1.heap[i]? = some (some o) → o.own = false := by
  intro its
  induction its with
  | nil => intro acc d st _ h; exact h
  | cons it its ih =>
    intro acc d st hn h
    have snoc : ∀ (x : Option AObj), (∀ o, x = some o → o.own = false) → ∀ (i : Nat) o, (st.heap ++ [x])[i]? = some (some o) → o.own = false := by
      intro x hx i o hi
      rw [List.getElem?_append] at hi
      split at hi
      · exact h i o hi
      · rcases Nat.eq_zero_or_pos (i - st.heap.length) with h0 | h0
        · rw [h0] at hi
          simp at hi
          exact hx o hi
        · rw [List.getElem?_eq_none (by simp; omega)] at hi; cases hi
    cases it with
    | row k sz src own =>
      simp only [noOwn, Bool.and_eq_true, Bool.not_eq_true'] at hn
      exact ih hn.2 (snoc _ (by rintro o ⟨⟩; exact hn.1))
    | segs cs src own =>
      simp only [noOwn, Bool.and_eq_true, Bool.not_eq_true'] at hn
      exact ih hn.2 (snoc _ (by rintro o ⟨⟩; exact hn.1))
    | drop => exact ih hn (snoc _ (by rintro o ⟨⟩))
    | slot t ty => exact ih hn h
    | const t a => exact ih hn h
    | sl t b sz c => exact ih hn h
    | ptr t b w => exact ih hn h
    | fn t f cs => exact ih hn h

theorem RelH.rebase {M : List Place} {H : Heap} {B : Nat} {w : World} (r : RelH M H B w) (h : ∀ (i : Nat) o, H[i]? = some (some o) → o.own = false) : RelH M H w.heap.size w := by
  refine ⟨r.len, Nat.le_refl _, fun i o ho => ?_, r.sep⟩
  obtain ⟨pl, hp, hok⟩ := r.obj i o ho
  refine ⟨pl, hp, ?_⟩
  rcases hok with hok | ⟨hn, cs, el, fz, h1, h2, h3, h4, h5⟩
  · exact .inl hok
  · exact .inr ⟨hn, cs, el, fz, h1, h2, h3, h4, fun ho2 => by rw [h i o ho] at ho2; cases ho2⟩

/-- The arguments' data. -/
def extA (n : Nat) (ins : List Item) (args : List AV) (H : Heap) : Option (D (tysI ins [])) := extS n ins ⟨args, H⟩

theorem extA_rel {M : List Place} {args : List AV} {H : Heap} {B : Nat} {w : World} {vs : Array Value} {n : Nat} {ins : List Item} {d : D (tysI ins [])} (hl : RelL M args vs.toList) (hH : RelH M H B w) (hn : noOwn ins = true) (h : extA n ins args H = some d) :
    ∃ M', RelL M' (bldS n ins d).tmps vs.toList ∧ RelH M' (bldS n ins d).heap w.heap.size w := by
  unfold extA extS at h
  split at h
  · rename_i hlen
    have ht : RelT M args vs := by
      have := relT_args hl 0
      simpa using this
    have hs : n = vs.size := by rw [← hlen]; exact ht.1
    obtain ⟨⟨M2, _, t⟩, _⟩ := extI_sound (st := ⟨args, H⟩) ht hH (told0 (a := vs) hH.base n hs) h
    refine ⟨M2, relL_of_relT t.tmps, t.heap.rebase (noOwn_heap hn ?_)⟩
    intro i o hi
    simp [st0] at hi
  · cases h

/-- A call of a function that is told. -/
def smRun (n : Nat) (ins : List Item) (os : List Out) (F : D (tysI ins []) → Option (D (tysO os))) : List AV → Heap → (AV → Heap → Option ρ) → Option ρ := fun args H K =>
  (extA n ins args H).bind fun d => (F d).bind fun r => K (retA (bldO os r H.length).1) (H ++ (bldO os r H.length).2)

theorem smRun_ok {P : Program} {f : FuncId} {n : Nat} {ins : List Item} {os : List Out} {F : D (tysI ins []) → Option (D (tysO os))} (h : FnSpec P f n ins os F) (hn : noOwn ins = true) : CalAt (ρ := ρ) P f (smRun n ins os F) := by
  intro args H K r hk M B w vs hl hH
  unfold smRun at hk
  simp only [Option.bind_eq_some_iff] at hk
  obtain ⟨d, hd, x, hx, hk⟩ := hk
  obtain ⟨M1, h1, h2⟩ := extA_rel hl hH hn hd
  refine (h d x hx M1 w vs h1 h2).mono ?_
  rintro e w' ⟨rs, rfl, hb, hro⟩
  obtain ⟨M', hE, hl', hH'⟩ := relOut_add hH.base hro (hH.below hb) (fun i o p hi hp hnil => by
    left
    obtain ⟨pl, hp', hok⟩ := hH.obj i o hi
    rw [hp] at hp'
    cases hp'
    rcases hok with ⟨h3, _⟩ | ⟨_, cs, el, fz, h3, _⟩
    · rw [hnil] at h3; cases h3
    · exact (Array.getElem?_eq_some_iff.1 h3).1)
  exact ⟨_, _, _, M', rfl, hk, hE, hH', hb.mono hH.base, retA_rel hl'⟩

/-! ### calls that leave memory alone -/

def allTy : List Out → Bool
  | [] => true
  | .ty (.row _) :: _ => false
  | .ty _ :: r => allTy r
  | .row _ _ :: _ => false

def valCs : (cs : List CTy) → DC cs → List Value
  | [], _ => []
  | .int k :: r, d => .int k d.1 :: valCs r d.2
  | .bool :: r, d => .bool d.1 :: valCs r d.2
  | .is k _ :: r, d => List.map (Value.int k) d.1 ++ valCs r d.2

theorem valCs_eq {M : List Place} : ∀ {cs : List CTy} {d : DC cs} {a : List Value}, RelC M (mkCs cs d) a → a = valCs cs d
  | [], d, a, h => RelC_nil.1 h
  | .int k :: r, d, a, h => by
    obtain ⟨b, t, rfl, hx, hr⟩ := RelC_cons.1 h
    rw [valCs_eq hr, (RelX_int.1 hx).1]
    rfl
  | .bool :: r, d, a, h => by
    obtain ⟨b, t, rfl, hx, hr⟩ := RelC_cons.1 h
    simp only [RelX] at hx
    rw [valCs_eq hr, hx.1]
    rfl
  | .is k n :: r, d, a, h => by
    obtain ⟨b, t, rfl, hx, hr⟩ := RelC_cons.1 h
    rw [valCs_eq hr, (RelX_is.1 hx).2.1]
    rfl

def valT : (t : Ty) → t.den → Value
  | .int k, x => .int k x
  | .bool, x => .bool x
  | .is k _, l => .agg (List.map (Value.int k) l).toArray
  | .row _, _ => undef
  | .agg cs, d => .agg (valCs cs d).toArray

def valO : (os : List Out) → D (tysO os) → List Value
  | [], _ => []
  | .ty t :: r, d => valT t d.1 :: valO r d.2
  | .row _ _ :: r, d => valO r d.2

theorem valT_eq {M : List Place} {t : Ty} {x : t.den} {v : Value} (ht : ∀ k, t ≠ .row k) (h : RelV M (mkT t x) v) : v = valT t x := by
  cases t with
  | int k => exact (relV_int h).1
  | bool => exact (relV_bool h).1
  | is k n =>
    obtain ⟨vs, e, hc⟩ := RelX_agg.1 h
    have e : v = .agg vs := by simpa using e
    subst e
    have := (RelX_is.1 (RelC_single.1 hc)).2.1
    simp only [valT]
    congr 1
    apply Array.toList_inj.1
    simpa using this
  | row k => exact absurd rfl (ht k)
  | agg cs =>
    obtain ⟨vs, e, hc⟩ := RelX_agg.1 h
    have e : v = .agg vs := by simpa using e
    subst e
    have := valCs_eq hc
    simp only [valT]
    congr 1
    apply Array.toList_inj.1
    simpa using this

theorem valO_eq {B : Nat} {w : World} : ∀ {os : List Out} {d : D (tysO os)} {vs : List Value} {u : List Nat}, allTy os = true → RelOut B w os d vs u → vs = valO os d ∧ RelL [] (bldO os d 0).1 vs
  | [], d, vs, u, _, h => by
    simp only [RelOut] at h
    subst h
    exact ⟨rfl, RelL_nil.2 rfl⟩
  | .ty t :: r, d, vs, u, ha, h => by
    obtain ⟨v, vs', rfl, hv, hr⟩ := h
    have ha' : allTy r = true ∧ ∀ k, t ≠ .row k := by
      cases t <;> simp [allTy] at ha <;> exact ⟨ha, fun k h => by cases h⟩
    obtain ⟨e, hl⟩ := valO_eq ha'.1 hr
    have hv2 := valT_eq ha'.2 hv
    exact ⟨by rw [e, hv2]; rfl, RelL_cons.2 ⟨v, vs', rfl, hv, hl⟩⟩
  | .row k sz :: r, d, vs, u, ha, h => by simp [allTy] at ha

def smQRun (n : Nat) (ins : List Item) (os : List Out) (F : D (tysI ins []) → Option (D (tysO os))) : List AV → Heap → (AV → Option ρ) → Option ρ := fun args H K =>
  (extA n ins args H).bind fun d => (F d).bind fun r => K (retA (bldO os r 0).1)

theorem smQRun_ok {P : Program} {f : FuncId} {n : Nat} {ins : List Item} {os : List Out} {F : D (tysI ins []) → Option (D (tysO os))} (h : FnSpec P f n ins os F) (hn : noOwn ins = true) (ha : allTy os = true) : QCalAt (ρ := ρ) P f (smQRun n ins os F) := by
  intro args H K r hk M B w vs hl hH
  unfold smQRun at hk
  simp only [Option.bind_eq_some_iff] at hk
  obtain ⟨d, hd, x, hx, hk⟩ := hk
  -- one run, for what the results are
  have hrun : ∀ w', Below w.heap.size w w' → Calls P f vs w' fun e w'' => e = .returned (retV (valO os x).toArray) ∧ Below w'.heap.size w' w'' := by
    intro w' hb
    obtain ⟨M1, h1, h2⟩ := extA_rel hl (hH.below hb) hn hd
    refine (h d x hx M1 w' vs h1 h2).mono ?_
    rintro e w'' ⟨rs, rfl, hb', hro⟩
    refine ⟨?_, hb'⟩
    have := (valO_eq ha hro).1
    rw [← this]
  refine ⟨_, _, hk, ?_, hrun⟩
  have key : ∀ (os : List Out) (x : D (tysO os)), allTy os = true → ∀ B w vs u, RelOut B w os x vs u → RelL M (bldO os x 0).1 (valO os x) := by
    intro os x ha B w vs u h
    obtain ⟨e, hl⟩ := valO_eq ha h
    rw [e] at hl
    exact RelL.mono (fun b pl e => (by simp at e)) _ _ hl
  obtain ⟨M1, h1, h2⟩ := extA_rel hl hH hn hd
  obtain ⟨e, w', fr, ⟨rs, _, _, hro⟩, _⟩ := h d x hx M1 w vs h1 h2 []
  exact retA_rel (by simpa using key os x ha _ _ _ _ hro)

end Go.AE

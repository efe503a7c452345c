/- The framework AE, part 18: what functions and loops come to. -/
import Derived.Test.YtaogfbhifeobmaaFw17
set_option linter.unusedVariables false
set_option linter.unusedSimpArgs false
namespace Go.AE
open Go Go.RowKit

variable {ρ : Type}

/-- The state that items tell. -/
def bldS (nt : Nat) (its : List Item) (d : D (tysI its [])) : St := (bldI its [] d (st0 nt)).1
/-- The data of a state by items. -/
def extS (nt : Nat) (its : List Item) (st : St) : Option (D (tysI its [])) := if st.tmps.length = nt then extI st true its [] () [drop0] else none

theorem extS_rel {M : List Place} {st : St} {B : Base} {w0 : World} {a : Go.Act} {w : World} (r : Rel M st B w0 a w) {its : List Item} {nt : Nat} {d : D (tysI its [])} (h : extS nt its st = some d) : ∃ M', Rel M' (bldS nt its d) B w0 a w := by
  unfold extS at h
  split at h
  · rename_i hn
    exact ext_rel r h hn
  · cases h

/-! ### loops -/

/-- A loop that only ends by its own exit. -/
def annS (nt : Nat) (ins outs : List Item) (L : D (tysI ins []) → Option (D (tysI outs []))) : Ann ρ := fun st K =>
  (extS nt ins st).bind fun d => (L d).bind fun r => K .normal (bldS nt outs r)

/-- A loop that ends by its own exit, or by another one. -/
def annX (nt : Nat) (ins outX outs : List Item) (e2 : Exit) (L : D (tysI ins []) → Option (D (tysI outX []) ⊕ D (tysI outs []))) : Ann ρ := fun st K =>
  (extS nt ins st).bind fun d => (L d).bind fun r => match r with
    | .inl r => K e2 (bldS nt outX r)
    | .inr r => K .normal (bldS nt outs r)

/-- What is done behind a round. -/
def kS (nt : Nat) (ins outs : List Item) (id : Nat) (L : D (tysI ins []) → Option (D (tysI outs []))) : Exit → St → Option (D (tysI outs [])) := fun e st => match e with
  | .normal => (extS nt ins st).bind L
  | .exit j => if j = id then extS nt outs st else none
  | _ => none

def kX (nt : Nat) (ins outX outs : List Item) (id : Nat) (e2 : Exit) (L : D (tysI ins []) → Option (D (tysI outX []) ⊕ D (tysI outs []))) : Exit → St → Option (D (tysI outX []) ⊕ D (tysI outs [])) := fun e st => match e with
  | .normal => (extS nt ins st).bind L
  | .exit j => if j = id then (extS nt outs st).bind fun r => some (.inr r) else (match e2 with
    | .exit i => if j = i then (extS nt outX st).bind fun r => some (.inl r) else none
    | _ => none)
  | .ret => (match e2 with
    | .ret => (extS nt outX st).bind fun r => some (.inl r)
    | _ => none)
  | _ => none

/-- The calls that are known, for all answers. -/
abbrev Cals := ∀ (σ : Type), Cal σ
abbrev QCals := ∀ (σ : Type), QCal σ

theorem annX_ok {P : Program} (hP : Callable P) {cal : Cals} (hcal : ∀ σ f, CalAt P f (cal σ f)) {qcal : QCals} (hq : ∀ σ f, QCalAt P f (qcal σ f)) {nt : Nat} {ins outX outs : List Item} {e2 : Exit} {id : Nat} {body : Code}
    {L : Nat → D (tysI ins []) → Option (D (tysI outX []) ⊕ D (tysI outs []))} {ann : Nat → Option (Ann (D (tysI outX []) ⊕ D (tysI outs [])))} {B : Base} {w0 : World}
    (hann : ∀ id an c', ann id = some an → (id, c') ∈ blocks body → AnnAt P false B w0 (.block id c') an) (h0 : ∀ d, L 0 d = none)
    (hs : ∀ k d, evCode P (cal _) (qcal _) ann body (bldS nt ins d) (kX nt ins outX outs id e2 (L k)) = L (k + 1) d) (he : e2 = .ret ∨ ∃ j, e2 = .exit j ∧ j ≠ id) (F : Nat) :
    AnnAt (ρ := ρ) P false B w0 (.block id (.loop body)) (annX nt ins outX outs e2 (L F)) := by
  intro st K r h M a w Q hr hn
  unfold annX at h
  simp only [Option.bind_eq_some_iff] at h
  obtain ⟨d, hd, x, hx, hk⟩ := h
  refine wp_block ?_
  obtain ⟨M1, hr1⟩ := extS_rel hr hd
  refine wp_loop_ind (fun n a' w' => ∃ d' M', L n d' = some x ∧ Rel M' (bldS nt ins d') B w0 a' w') (n := F) ⟨d, M1, hx, hr1⟩ ?_
  rintro n a1 w1 ⟨d1, M1, h1, hr1⟩
  cases n with
  | zero => rw [h0] at h1; cases h1
  | succ n =>
    rw [← hs] at h1
    refine evCode_sound hP (hcal _) (hq _) body hann _ _ h1 M1 a1 w1 _ hr1 fun e M' st' a' w' hE hk' hr' => ?_
    have out1 : ∀ {r'}, extS nt outs st' = some r' → x = .inr r' → Q .normal a' w' := by
      intro r' hr2 hx2
      subst hx2
      obtain ⟨M2, hr3⟩ := extS_rel hr' hr2
      exact hn .normal M2 _ a' w' (fun h => by cases h) hk hr3
    have out2 : ∀ {r'}, extS nt outX st' = some r' → x = .inl r' → Q e2 a' w' := by
      intro r' hr2 hx2
      subst hx2
      obtain ⟨M2, hr3⟩ := extS_rel hr' hr2
      exact hn e2 M2 _ a' w' (fun h => by cases h) hk hr3
    cases e with
    | normal =>
      simp only [kX, Option.bind_eq_some_iff] at hk'
      obtain ⟨d2, hd2, hL⟩ := hk'
      obtain ⟨M2, hr2⟩ := extS_rel hr' hd2
      exact ⟨n, by omega, d2, M2, hL, hr2⟩
    | exit j =>
      simp only [kX] at hk'
      unfold Exit.inBlock
      show if j = id then Q .normal a' w' else Q (.exit j) a' w'
      split at hk'
      · rename_i hj
        rw [if_pos hj]
        simp only [Option.bind_eq_some_iff, Option.some.injEq] at hk'
        obtain ⟨r', h2, h3⟩ := hk'
        exact out1 h2 h3.symm
      · rename_i hj
        rw [if_neg hj]
        split at hk'
        · split at hk'
          · rename_i i hi
            simp only [Option.bind_eq_some_iff, Option.some.injEq] at hk'
            obtain ⟨r', h2, h3⟩ := hk'
            subst hi
            exact out2 h2 h3.symm
          · cases hk'
        · cases hk'
    | ret =>
      simp only [kX] at hk'
      split at hk'
      · simp only [Option.bind_eq_some_iff, Option.some.injEq] at hk'
        obtain ⟨r', h2, h3⟩ := hk'
        exact out2 h2 h3.symm
      · cases hk'
    | goto l => simp only [kX] at hk'; cases hk'
    | panic ch => simp only [kX] at hk'; cases hk'
    | outgrown => simp only [kX] at hk'; cases hk'

theorem annS_ok {P : Program} (hP : Callable P) {cal : Cals} (hcal : ∀ σ f, CalAt P f (cal σ f)) {qcal : QCals} (hq : ∀ σ f, QCalAt P f (qcal σ f)) {nt : Nat} {ins outs : List Item} {id : Nat} {body : Code}
    {L : Nat → D (tysI ins []) → Option (D (tysI outs []))} {ann : Nat → Option (Ann (D (tysI outs [])))} {B : Base} {w0 : World}
    (hann : ∀ id an c', ann id = some an → (id, c') ∈ blocks body → AnnAt P false B w0 (.block id c') an) (h0 : ∀ d, L 0 d = none)
    (hs : ∀ k d, evCode P (cal _) (qcal _) ann body (bldS nt ins d) (kS nt ins outs id (L k)) = L (k + 1) d) (F : Nat) :
    AnnAt (ρ := ρ) P false B w0 (.block id (.loop body)) (annS nt ins outs (L F)) := by
  intro st K r h M a w Q hr hn
  unfold annS at h
  simp only [Option.bind_eq_some_iff] at h
  obtain ⟨d, hd, x, hx, hk⟩ := h
  refine wp_block ?_
  obtain ⟨M1, hr1⟩ := extS_rel hr hd
  refine wp_loop_ind (fun n a' w' => ∃ d' M', L n d' = some x ∧ Rel M' (bldS nt ins d') B w0 a' w') (n := F) ⟨d, M1, hx, hr1⟩ ?_
  rintro n a1 w1 ⟨d1, M1, h1, hr1⟩
  cases n with
  | zero => rw [h0] at h1; cases h1
  | succ n =>
    rw [← hs] at h1
    refine evCode_sound hP (hcal _) (hq _) body hann _ _ h1 M1 a1 w1 _ hr1 fun e M' st' a' w' hE hk' hr' => ?_
    cases e with
    | normal =>
      simp only [kS, Option.bind_eq_some_iff] at hk'
      obtain ⟨d2, hd2, hL⟩ := hk'
      obtain ⟨M2, hr2⟩ := extS_rel hr' hd2
      exact ⟨n, by omega, d2, M2, hL, hr2⟩
    | exit j =>
      simp only [kS] at hk'
      show if j = id then Q .normal a' w' else Q (.exit j) a' w'
      split at hk'
      · rename_i hj
        rw [if_pos hj]
        obtain ⟨M2, hr3⟩ := extS_rel hr' hk'
        exact hn .normal M2 _ a' w' (fun h => by cases h) hk hr3
      · cases hk'
    | ret => simp only [kS] at hk'; cases hk'
    | goto l => simp only [kS] at hk'; cases hk'
    | panic ch => simp only [kS] at hk'; cases hk'
    | outgrown => simp only [kS] at hk'; cases hk'

/-! ### functions -/

def noOwn : List Item → Bool
  | [] => true
  | .row _ _ _ own _ :: r => !own && noOwn r
  | .drow _ _ own _ :: r => !own && noOwn r
  | .segs _ _ own _ :: r => !own && noOwn r
  | _ :: r => noOwn r

/-- What a function comes to, of arguments that are told by items. -/
def FnSpec (P : Program) (f : FuncId) (n : Nat) (ins : List Item) (os : List Out) (F : D (tysI ins []) → Option (D (tysO os))) : Prop :=
  ∀ (d : D (tysI ins [])) (r : D (tysO os)), F d = some r → ∀ (M : List Place) (B : Base) (w : World) (vs : Array Value), RelL M (bldS n ins d).tmps vs.toList → RelH M (bldS n ins d).heap B w →
    Calls P f vs w fun e w' => ∃ rs : Array Value, e = .returned (retV rs) ∧ Beneath B w w' ∧ RelOut B w' os r rs.toList

/-- What is given back at a function's end. -/
def endO (os : List Out) : List AV → Heap → Option (D (tysO os)) := fun l H => exO H (keptIx H os) os l (keptIx H os)

theorem fnSpec_of {P : Program} (hP : Callable P) {cal : Cals} (hcal : ∀ σ f, CalAt P f (cal σ f)) {qcal : QCals} (hq : ∀ σ f, QCalAt P f (qcal σ f)) {f : FuncId} {n : Nat} {ins : List Item} {os : List Out} {F : D (tysI ins []) → Option (D (tysO os))} {ann : Nat → Option (Ann (D (tysO os)))}
    (hann : ∀ fn c, P.funcs[f]? = some fn → fn.body = some c → ∀ id an c', ann id = some an → (id, c') ∈ blocks c → ∀ B w, AnnAt P false B w (.block id c') an)
    (h : ∀ d, evBody P (cal _) (qcal _) ann f (bldS n ins d).tmps (bldS n ins d).heap (endO os) = F d) : FnSpec P f n ins os F := by
  intro d r hd M B w vs hl hH
  rw [← h] at hd
  refine (evBody_sound hP (hcal _) (hq _) (x := false) hd (fun fn c h1 h2 id an c' h3 h4 => hann fn c h1 h2 id an c' h3 h4 _ _) hl hH).mono ?_
  rintro e w' ⟨rs, l, H', M', rfl, hk, _, hl', hH', hb⟩
  exact ⟨rs, rfl, hb, relOut_of hH' hk hl'⟩

theorem relL_of_relT {M : List Place} {ts : List AV} {a : Array Value} (h : RelT M ts a) : RelL M ts a.toList := by
  have key : ∀ (ts : List AV) (vs : List Value), ts.length = vs.length → (∀ t, RelV M (ts.getD t .undef) (vs.getD t undef)) → RelL M ts vs := by
    intro ts
    induction ts with
    | nil => intro vs h _; rw [RelL_nil]; exact List.length_eq_zero_iff.1 h.symm
    | cons x ts ih =>
      intro vs h h2
      cases vs with
      | nil => simp at h
      | cons v vs => exact RelL_cons.2 ⟨v, vs, rfl, by simpa using h2 0, ih vs (by simpa using h) fun t => by simpa using h2 (t + 1)⟩
  refine key ts a.toList (by simpa using h.1) fun t => ?_
  have := h.2 t
  rw [show a.getD t undef = a.toList.getD t undef from by simp [List.getD_eq_getElem?_getD, Array.getElem?_toList]] at this
  exact this


/-- The arguments' data. -/
def extA (n : Nat) (ins : List Item) (args : List AV) (H : Heap) : Option (D (tysI ins [])) := if args.length = n then extI ⟨args, H⟩ false ins [] () [drop0] else none

/-- The base, but for pins. -/
def Base.anyPin (B : Base) : Base := ⟨B.w, B.vis, fun _ _ => True, B.f⟩
theorem RelH.anyPin {M : List Place} {H : Heap} {B : Base} {w : World} (r : RelH M H B w) : RelH M H B.anyPin w := ⟨r.len, r.base, r.obj, r.sep, fun _ _ _ _ _ _ _ => trivial, r.vis, r.fz, r.fo, r.bf⟩

theorem extA_told {M : List Place} {args : List AV} {H : Heap} {B : Base} {w : World} {vs : Array Value} {n : Nat} {ins : List Item} {d : D (tysI ins [])} (hl : RelL M args vs.toList) (hH : RelH M H B w) (h : extA n ins args H = some d) :
    ∃ M', Told M ⟨args, H⟩ B.anyPin w vs (drop0 :: actsI ⟨args, H⟩ false ins) M' (bldS n ins d) := by
  unfold extA at h
  split at h
  · rename_i hlen
    have ht : RelT M args vs := by
      have := relT_args hl 0
      simpa using this
    have hs : n = vs.size := by rw [← hlen]; exact ht.1
    obtain ⟨⟨M2, t⟩, _⟩ := extI_sound (st := ⟨args, H⟩) (B := B.anyPin) ht hH.anyPin (fun _ _ _ => trivial) (told0 (B := B.anyPin) (st := ⟨args, H⟩) (a := vs) hH.anyPin n hs) h
    exact ⟨M2, by simpa [bldS] using t⟩
  · cases h

/-! the memory behind a call -/

/-- No two told blocks have one number. -/
def nodupPins : Heap → Bool
  | [] => true
  | o :: r => (match o with
    | some ob => match ob.pin with
      | some k => (pinAt r k 0).isNone
      | none => true
    | none => true) && nodupPins r

theorem pinAt_none : ∀ {H : Heap} {k i : Nat}, pinAt H k i = none → ∀ (j : Nat) (o : AObj), H[j]? = some (some o) → o.pin ≠ some k
  | [], _, _, _, j, o, h => by simp at h
  | x :: r, k, i, hn, j, o, h => by
    unfold pinAt at hn
    cases j with
    | zero =>
      simp at h
      subst h
      simp only at hn
      split at hn
      · cases hn
      · assumption
    | succ j =>
      have h' : r[j]? = some (some o) := by simpa using h
      cases x with
      | none => exact pinAt_none hn j o h'
      | some ob =>
        simp only at hn
        split at hn
        · cases hn
        · exact pinAt_none hn j o h'

theorem nodupPins_eq : ∀ {H : Heap}, nodupPins H = true → ∀ (i j : Nat) (oi oj : AObj) (k : Nat), H[i]? = some (some oi) → H[j]? = some (some oj) → oi.pin = some k → oj.pin = some k → i = j
  | [], _, i, j, oi, oj, k, h, _, _, _ => by simp at h
  | x :: r, hn, i, j, oi, oj, k, hi, hj, h1, h2 => by
    simp only [nodupPins, Bool.and_eq_true] at hn
    obtain ⟨hx, hr⟩ := hn
    cases i with
    | zero =>
      cases j with
      | zero => rfl
      | succ j =>
        simp at hi
        subst hi
        simp only [h1, Option.isNone_iff_eq_none] at hx
        exact absurd h2 (pinAt_none hx j oj (by simpa using hj))
    | succ i =>
      cases j with
      | zero =>
        simp at hj
        subst hj
        simp only [h2, Option.isNone_iff_eq_none] at hx
        exact absurd h1 (pinAt_none hx i oi (by simpa using hi))
      | succ j =>
        have := nodupPins_eq hr i j oi oj k (by simpa using hi) (by simpa using hj) h1 h2
        omega

def findU : List (Nat × Cont) → Nat → Option Cont
  | [], _ => none
  | (j, c) :: r, k => if j = k then some c else findU r k
theorem findU_mem : ∀ {l : List (Nat × Cont)} {k : Nat} {c : Cont}, findU l k = some c → (k, c) ∈ l
  | [], _, _, h => by cases h
  | (j, c') :: r, k, c, h => by
    unfold findU at h
    split at h
    · rename_i hj
      cases h
      subst hj
      simp
    · simp [findU_mem h]

/-- What comes of a block that was told to a call. -/
def updB (ups : List (Nat × Cont)) (shared : Bool) (whole : Bool) (o : AObj) (b : Nat) (H : Heap) : Heap :=
  match o.own with
  | true => match whole, o.pin with
    | true, some k => match findU ups k, H[b]? with
      | some c, some (some o') => H.set b (some ⟨c, true, o'.pin⟩)
      | _, _ => H.set b none
    | _, _ => H.set b none
  | false => match shared, H[b]? with
    | true, some (some o') => H.set b (some ⟨o'.c, false, o'.pin⟩)
    | _, _ => H

def postH (ups : List (Nat × Cont)) (shared : Bool) : List Act → Heap → Heap → Heap
  | ac :: r, some o :: H1, H => postH ups shared r H1 (match ac.id with | some b => updB ups shared ac.whole o b H | none => H)
  | _ :: r, none :: H1, H => postH ups shared r H1 H
  | _, _, H => H

theorem updB_len (ups : List (Nat × Cont)) (shared whole : Bool) (o : AObj) (b : Nat) (H : Heap) : (updB ups shared whole o b H).length = H.length := by
  unfold updB
  repeat' split
  all_goals simp

theorem postH_len (ups : List (Nat × Cont)) (shared : Bool) : ∀ (acts : List Act) (H1 H : Heap), (postH ups shared acts H1 H).length = H.length
  | [], _, _ => rfl
  | _ :: _, [], _ => rfl
  | ac :: r, some o :: H1, H => by
    rw [postH, postH_len ups shared r H1]
    split
    · exact updB_len _ _ _ _ _ _
    · rfl
  | _ :: r, none :: H1, H => by rw [postH, postH_len ups shared r H1]

/-- What a block is behind a call. -/
def Left (ups : List (Nat × Cont)) (shared : Bool) (acts : List Act) (H1 : Heap) (j : Nat) (o o2 : AObj) : Prop :=
  o2.pin = o.pin ∧ ((o2.c = o.c ∧ (o2.own = true → o.own = true) ∧ ∀ (i : Nat) (ac : Act) (o1 : AObj), acts[i]? = some ac → H1[i]? = some (some o1) → ac.id = some j → o1.own = false ∧ (shared = true → o2.own = false)) ∨
    (∃ (i : Nat) (ac : Act) (o1 : AObj) (k : Nat), acts[i]? = some ac ∧ H1[i]? = some (some o1) ∧ ac.id = some j ∧ ac.whole = true ∧ o1.own = true ∧ o1.pin = some k ∧ (k, o2.c) ∈ ups))

theorem set_case {H : Heap} {b j : Nat} {x : Option AObj} {o : AObj} (h : (H.set b x)[j]? = some (some o)) : (b = j ∧ x = some o) ∨ (b ≠ j ∧ H[j]? = some (some o)) := by
  rw [List.getElem?_set] at h
  split at h
  · rename_i e
    split at h
    · exact .inl ⟨e, by simpa using h⟩
    · cases h
  · rename_i e
    exact .inr ⟨e, h⟩

theorem postH_spec {ups : List (Nat × Cont)} {shared : Bool} : ∀ {acts : List Act} {H1 H : Heap} {j : Nat} {o2 : AObj}, (postH ups shared acts H1 H)[j]? = some (some o2) → ∃ o, H[j]? = some (some o) ∧ Left ups shared acts H1 j o o2
  | [], H1, H, j, o2, h => ⟨o2, by simpa [postH] using h, rfl, .inl ⟨rfl, fun h => h, fun i ac o1 hi => by simp at hi⟩⟩
  | ac :: r, [], H, j, o2, h => ⟨o2, by simpa [postH] using h, rfl, .inl ⟨rfl, fun h => h, fun i ac o1 _ hi => by simp at hi⟩⟩
  | ac :: r, none :: H1, H, j, o2, h => by
    rw [postH] at h
    obtain ⟨o, h1, h2, h3⟩ := postH_spec h
    refine ⟨o, h1, h2, ?_⟩
    rcases h3 with ⟨a1, a2, a3⟩ | ⟨i, ac', o1, k, b1, b2, b3⟩
    · refine .inl ⟨a1, a2, fun i ac' o1 hi hi1 => ?_⟩
      cases i with
      | zero => simp at hi1
      | succ i => exact a3 i ac' o1 (by simpa using hi) (by simpa using hi1)
    · exact .inr ⟨i + 1, ac', o1, k, by simpa using b1, by simpa using b2, b3⟩
  | ac :: r, some o1 :: H1, H, j, o2, h => by
    rw [postH] at h
    obtain ⟨o', h1, h2, h3⟩ := postH_spec h
    -- the step of the head
    have step : ∃ o, H[j]? = some (some o) ∧ o'.pin = o.pin ∧ ((o'.c = o.c ∧ (o'.own = true → o.own = true) ∧ (ac.id = some j → o1.own = false ∧ (shared = true → o'.own = false))) ∨
        (o'.own = true ∧ ∃ k, ac.id = some j ∧ ac.whole = true ∧ o1.own = true ∧ o1.pin = some k ∧ (k, o'.c) ∈ ups)) := by
      cases hid : ac.id with
      | none =>
        rw [hid] at h1
        exact ⟨o', h1, rfl, .inl ⟨rfl, fun h => h, fun h => by cases h⟩⟩
      | some b =>
        rw [hid] at h1
        simp only at h1
        have other : b ≠ j → H[j]? = some (some o') → ∃ o, H[j]? = some (some o) ∧ o'.pin = o.pin ∧ ((o'.c = o.c ∧ (o'.own = true → o.own = true) ∧ (some b = some j → o1.own = false ∧ (shared = true → o'.own = false))) ∨
            (o'.own = true ∧ ∃ k, some b = some j ∧ ac.whole = true ∧ o1.own = true ∧ o1.pin = some k ∧ (k, o'.c) ∈ ups)) :=
          fun hne hH => ⟨o', hH, rfl, .inl ⟨rfl, fun h => h, fun e => absurd (Option.some.inj e) hne⟩⟩
        unfold updB at h1
        split at h1
        · rename_i how
          split at h1
          · rename_i k hw hp
            split at h1
            · rename_i c ob hfu hHb
              rcases set_case h1 with ⟨rfl, e⟩ | ⟨e, h1⟩
              · cases e
                exact ⟨ob, hHb, rfl, .inr ⟨rfl, k, rfl, hw, how, hp, findU_mem hfu⟩⟩
              · exact other e h1
            · rcases set_case h1 with ⟨rfl, e⟩ | ⟨e, h1⟩
              · cases e
              · exact other e h1
          · rcases set_case h1 with ⟨rfl, e⟩ | ⟨e, h1⟩
            · cases e
            · exact other e h1
        · rename_i how
          split at h1
          · rename_i ob hHb
            rcases set_case h1 with ⟨rfl, e⟩ | ⟨e, h1⟩
            · cases e
              exact ⟨ob, hHb, rfl, .inl ⟨rfl, fun h => (by cases h), fun _ => ⟨how, fun _ => rfl⟩⟩⟩
            · exact other e h1
          · rename_i hno
            refine ⟨o', h1, rfl, .inl ⟨rfl, fun h => h, fun e => ⟨how, fun hs => ?_⟩⟩⟩
            cases e
            exact absurd h1 (hno o' hs)
    obtain ⟨o, s1, s2, s3⟩ := step
    refine ⟨o, s1, by rw [h2, s2], ?_⟩
    rcases h3 with ⟨a1, a2, a3⟩ | ⟨i, ac', o1', k, b1, b2, b3⟩
    · rcases s3 with ⟨c1, c2, c3⟩ | ⟨c1, k, c2, c3, c4, c5, c6⟩
      · refine .inl ⟨by rw [a1, c1], fun h => c2 (a2 h), fun i ac' o1' hi hi1 hid => ?_⟩
        cases i with
        | zero =>
          simp at hi hi1
          subst hi; subst hi1
          obtain ⟨d1, d2⟩ := c3 hid
          refine ⟨d1, fun hs => ?_⟩
          cases ho : o2.own with
          | false => rfl
          | true => rw [d2 hs] at a2; exact absurd (a2 ho) (by simp)
        | succ i => exact a3 i ac' o1' (by simpa using hi) (by simpa using hi1) hid
      · exact .inr ⟨0, ac, o1, k, by simp, by simp, c2, c3, c4, c5, by rw [a1]; exact c6⟩
    · exact .inr ⟨i + 1, ac', o1', k, by simpa using b1, by simpa using b2, b3⟩

/-- Is a row given back that others may see? -/
def sharedCO : List CO → Bool
  | [] => false
  | .row _ _ own :: r => !own || sharedCO r
  | _ :: r => sharedCO r
def sharedO : List Out → Bool
  | [] => false
  | .row _ _ own :: r => !own || sharedO r
  | .agg cs :: r => sharedCO cs || sharedO r
  | .psegs _ cs :: r => sharedCO cs || sharedO r
  | _ :: r => sharedO r

theorem sharedCO_of : ∀ {cs : List CO} {acc : List Ty} {d : D (tysCO cs acc)} {o : AObj}, some o ∈ newsCO cs acc d → o.own = false → sharedCO cs = true
  | [], _, _, o, h, _ => by simp [newsCO] at h
  | .hole _ :: r, acc, d, o, h, ho => sharedCO_of (cs := r) (d := d.2) h ho
  | .const _ :: r, acc, d, o, h, ho => sharedCO_of (cs := r) (d := d) h ho
  | .row _ _ own :: r, acc, d, o, h, ho => by
    simp only [newsCO, List.mem_cons] at h
    rcases h with h | h
    · cases h
      simp only at ho
      simp [sharedCO, ho]
    · simp [sharedCO, sharedCO_of (cs := r) (d := d.2) h ho]
theorem sharedO_of : ∀ {os : List Out} {d : D (tysO os)} {o : AObj}, some o ∈ newsO os d → o.own = false → sharedO os = true
  | [], _, o, h, _ => by simp [newsO] at h
  | .ty _ :: r, d, o, h, ho => sharedO_of (os := r) (d := d.2) h ho
  | .row _ _ own :: r, d, o, h, ho => by
    simp only [newsO, List.mem_cons] at h
    rcases h with h | h
    · cases h
      simp only at ho
      simp [sharedO, ho]
    · simp [sharedO, sharedO_of (os := r) (d := d.2) h ho]
  | .agg cs :: r, d, o, h, ho => by
    simp only [newsO, List.mem_append] at h
    rcases h with h | h
    · simp [sharedO, sharedCO_of h ho]
    · simp [sharedO, sharedO_of h ho]
  | .prow _ _ :: r, d, o, h, ho => sharedO_of (os := r) (d := d.2) h ho
  | .psegs _ cs :: r, d, o, h, ho => by
    simp only [newsO, List.mem_append] at h
    rcases h with h | h
    · simp [sharedO, sharedCO_of h ho]
    · simp [sharedO, sharedO_of h ho]

/-- A call of a function that is told. -/
def smRun (n : Nat) (ins : List Item) (os : List Out) (F : D (tysI ins []) → Option (D (tysO os))) : List AV → Heap → (AV → Heap → Option ρ) → Option ρ := fun args H K =>
  (extA n ins args H).bind fun d => if nodupPins (bldS n ins d).heap = true then
    (F d).bind fun r => K (retA (avsO os r H.length)) (postH (upsO os r H.length) (sharedO os) (drop0 :: actsI ⟨args, H⟩ false ins) (bldS n ins d).heap H ++ (newsO os r ++ fzH os))
  else none

theorem blk_lt {M : List Place} {o : AObj} {pl : Place} {B : Base} {w : World} (h : ObjOk M o pl B w) (hn : pl.nil = false) : pl.blk < w.heap.size := by
  rcases h with ⟨n1, _⟩ | ⟨_, cs, el, fz, g1, _⟩
  · rw [hn] at n1; cases n1
  · exact (Array.getElem?_eq_some_iff.1 g1).1

theorem smRun_ok {P : Program} {f : FuncId} {n : Nat} {ins : List Item} {os : List Out} {F : D (tysI ins []) → Option (D (tysO os))} (h : FnSpec P f n ins os F) : CalAt (ρ := ρ) P f (smRun n ins os F) := by
  intro args H K r hk M B w vs hl hH
  unfold smRun at hk
  simp only [Option.bind_eq_some_iff] at hk
  obtain ⟨d, hd, hk⟩ := hk
  split at hk
  case isFalse => cases hk
  rename_i hnd
  simp only [Option.bind_eq_some_iff] at hk
  obtain ⟨x, hx, hk⟩ := hk
  obtain ⟨M1, t⟩ := extA_told hl hH hd
  generalize hst : bldS n ins d = st1 at *
  generalize hac : drop0 :: actsI ⟨args, H⟩ false ins = acts at *
  -- where told blocks come from
  have src : ∀ (i : Nat) (o1 : AObj) (pl : Place), st1.heap[i]? = some (some o1) → M1[i]? = some pl → pl.nil = false →
      (∃ ac b o p, acts[i]? = some ac ∧ ac.id = some b ∧ H[b]? = some (some o) ∧ M[b]? = some p ∧ p.nil = false ∧ pl.blk = p.blk ∧ (o1.own = true → o.own = true) ∧ (ac.whole = true → pl = p)) ∨
      (o1.own = false ∧ ∃ ob, FzAt M pl.blk ob) := by
    intro i o1 pl h1 h2 hn
    have hi : i < acts.length := by rw [t.len]; exact (List.getElem?_eq_some_iff.1 h2).1
    obtain ⟨p1, hp1, a1, a2, a3, _⟩ := t.act i acts[i] (List.getElem?_eq_getElem hi)
    rw [h2] at hp1
    cases hp1
    cases hid : (acts[i]).id with
    | none =>
      obtain ⟨q1, q2⟩ := (a2.1 hid).2 hn
      exact .inr ⟨by rw [a3 o1 h1, q1], q2⟩
    | some b =>
      obtain ⟨o, p, b1, b2, b3, b4, b5, b6⟩ := a1 b hid
      exact .inl ⟨acts[i], b, o, p, List.getElem?_eq_getElem hi, hid, b1, b2, by rw [← b3]; exact hn, b4, fun ho => b5 (by rw [← a3 o1 h1]; exact ho), b6⟩
  -- the call's own base
  let B1 : Base := ⟨fun k => w.heap.size ≤ k ∨ ∃ (i : Nat) (o1 : AObj) (pl : Place), st1.heap[i]? = some (some o1) ∧ o1.own = true ∧ M1[i]? = some pl ∧ pl.nil = false ∧ pl.blk = k,
    fun k => w.heap.size ≤ k ∨ (∃ (i : Nat) (o1 : AObj) (pl : Place), st1.heap[i]? = some (some o1) ∧ M1[i]? = some pl ∧ pl.nil = false ∧ pl.blk = k) ∨ ∃ ob, FzAt M k ob,
    fun k pl => ∃ (i : Nat) (o1 : AObj), st1.heap[i]? = some (some o1) ∧ M1[i]? = some pl ∧ o1.pin = some k,
    fun k => B.f k ∨ ∃ ob, FzAt M k ob⟩
  have wB : ∀ k, B1.w k → B.w k := by
    rintro k (hk | ⟨i, o1, pl, h1, h2, h3, h4, rfl⟩)
    · exact (hH.base k hk).1
    · rcases src i o1 pl h1 h3 h4 with ⟨ac, b, o, p, _, _, c3, c4, c5, c6, c7, _⟩ | ⟨q, _⟩
      · obtain ⟨p', hp', hok⟩ := hH.obj b o c3
        rw [c4] at hp'
        cases hp'
        rcases hok with ⟨n1, _⟩ | ⟨_, _, _, _, _, _, _, _, g5⟩
        · rw [c5] at n1; cases n1
        · rw [c6]; exact (g5 (c7 h2)).2.2
      · rw [q] at h2; cases h2
  have visB : ∀ k, B1.vis k → B.vis k := by
    rintro k (hk | ⟨i, o1, pl, h1, h3, h4, rfl⟩ | ⟨ob, hk⟩)
    · exact (hH.base k hk).2
    · rcases src i o1 pl h1 h3 h4 with ⟨ac, b, o, p, _, _, c3, c4, c5, c6, _⟩ | ⟨_, ob, q⟩
      · rw [c6]; exact hH.vis b o p c3 c4 c5
      · exact (hH.fz _ _ q).2.1
    · exact (hH.fz _ _ hk).2.1
  -- what is handed over does not stay as it is
  have notF : ∀ (i : Nat) (o1 : AObj) (pl : Place), st1.heap[i]? = some (some o1) → M1[i]? = some pl → o1.own = true → pl.nil = false → ¬ B1.f pl.blk := by
    intro i o1 pl h1 h3 h2 h4
    rcases src i o1 pl h1 h3 h4 with ⟨ac, b, o, p, _, _, c3, c4, c5, c6, c7, _⟩ | ⟨q, _⟩
    · obtain ⟨f1, f2⟩ := hH.fo b o p c3 c4 (c7 h2) c5
      rw [c6]
      rintro (h | ⟨ob, h⟩)
      · exact f1 h
      · exact f2 ob h
    · rw [q] at h2; cases h2
  have hH1 : RelH M1 st1.heap B1 w := by
    refine ⟨t.heap.len, fun k hk => ⟨.inl hk, .inl hk⟩, fun i o1 ho1 => ?_, t.heap.sep, fun i o1 pl k h1 h2 h3 => ⟨i, o1, h1, h2, h3⟩, fun i o1 pl h1 h2 h3 => .inr (.inl ⟨i, o1, pl, h1, h2, h3, rfl⟩),
      fun k ob h => ⟨(t.heap.fz k ob h).1, .inr (.inr ⟨ob, t.zf k ob h⟩), .inr (.inr ⟨ob, t.zf k ob h⟩)⟩, fun i o1 pl h1 h2 h3 h4 => ⟨notF i o1 pl h1 h2 h3 h4, (t.heap.fo i o1 pl h1 h2 h3 h4).2⟩, fun k hk h => h.elim (hH.bf k hk) fun ⟨ob, h⟩ => absurd (hH.fz_lt h) (by omega)⟩
    obtain ⟨pl, hpl, hok⟩ := t.heap.obj i o1 ho1
    refine ⟨pl, hpl, ?_⟩
    rcases hok with hok | ⟨n1, cs, el, fz, g1, g2, g3, g4, g5⟩
    · exact .inl hok
    · exact .inr ⟨n1, cs, el, fz, g1, g2, g3, g4, fun ho => ⟨(g5 ho).1, (g5 ho).2.1, .inr ⟨i, o1, pl, ho1, ho, hpl, n1, rfl⟩⟩⟩
  refine (h d x hx M1 B1 w vs (by rw [hst]; exact relL_of_relT t.tmps) (by rw [hst]; exact hH1)).mono ?_
  rintro e w' ⟨rs, rfl, hb, N, Fz, hN, hFl, hN0, hF1, hF2, hav, hups⟩
  have hlen := hH.len
  have hEx : Ext M (M ++ (N ++ Fz)) := Ext.snoc M _
  have hE0 : Ext [] (M ++ (N ++ Fz)) := fun b pl e => (by simp at e)
  have hbB : Beneath B w w' := ⟨hb.os, hb.tape, hb.output, hb.size, fun k hk hw => hb.block k hk fun h1 => hw (wB k h1)⟩
  refine ⟨_, _, _, M ++ (N ++ Fz), rfl, hk, hEx, ?_, hbB, retA_rel (by rw [hlen]; exact hav M)⟩
  have hlpost := postH_len (upsO os x H.length) (sharedO os) acts st1.heap H
  generalize hH2 : postH (upsO os x H.length) (sharedO os) acts st1.heap H = H2 at *
  -- old and new
  have part : ∀ (i : Nat) (o : AObj) (pl : Place), (H2 ++ (newsO os x ++ fzH os))[i]? = some (some o) → (M ++ (N ++ Fz))[i]? = some pl →
      (i < M.length ∧ M[i]? = some pl ∧ ∃ o0, H[i]? = some (some o0) ∧ Left (upsO os x H.length) (sharedO os) acts st1.heap i o0 o) ∨ (∃ j, i = M.length + j ∧ (newsO os x)[j]? = some (some o) ∧ N[j]? = some pl) := by
    intro i o pl h1 h2
    by_cases hi : i < M.length
    · rw [List.getElem?_append_left (by omega)] at h1
      rw [List.getElem?_append_left hi] at h2
      rw [← hH2] at h1
      exact .inl ⟨hi, h2, postH_spec h1⟩
    · rw [List.getElem?_append_right (by omega)] at h1 h2
      rw [hlpost, hlen] at h1
      by_cases hi2 : i - M.length < N.length
      · rw [List.getElem?_append_left (by rw [← hN.len]; exact hi2)] at h1
        rw [List.getElem?_append_left hi2] at h2
        exact .inr ⟨i - M.length, by omega, h1, h2⟩
      · rw [List.getElem?_append_right (by rw [← hN.len]; omega)] at h1
        exfalso
        have := List.mem_of_getElem? h1
        unfold fzH at this
        split at this <;> simp at this
  -- an updated block's place
  have upd : ∀ (j : Nat) (o0 o : AObj) (pl : Place), H[j]? = some (some o0) → M[j]? = some pl →
      (∃ (i : Nat) (ac : Act) (o1 : AObj) (k : Nat), acts[i]? = some ac ∧ st1.heap[i]? = some (some o1) ∧ ac.id = some j ∧ ac.whole = true ∧ o1.own = true ∧ o1.pin = some k ∧ (k, o.c) ∈ upsO os x H.length) →
      o0.own = true ∧ ObjOk (M ++ (N ++ Fz)) ⟨o.c, true, none⟩ pl B1 w' ∧ (∀ (i : Nat) (pi : Place), N[i]? = some pi → pi.nil = false → pl.nil = false → pi.blk ≠ pl.blk) ∧ (pl.nil = false → ∀ ob, ¬ FzAt Fz pl.blk ob) := by
    rintro j o0 o pl h1 h2 ⟨i, ac, o1, k, a1, a2, a3, a4, a5, a6, a7⟩
    obtain ⟨p1, hp1, c1, _, c3, _⟩ := t.act i ac a1
    obtain ⟨o', p, d1, d2, _, _, d5, d6⟩ := c1 j a3
    have d1' : H[j]? = some (some o') := d1
    rw [h1] at d1'
    cases d1'
    rw [h2] at d2
    cases d2
    have hpp := d6 a4
    subst hpp
    rw [hlen] at a7
    obtain ⟨pl', ⟨i', o1', e1, e2, e3⟩, f2, f3, f4⟩ := hups M k o.c a7
    have := nodupPins_eq hnd i i' o1 o1' k a2 e1 a6 e3
    subst this
    rw [hp1] at e2
    cases e2
    exact ⟨d5 (by rw [← c3 o1 a2]; exact a5), f2, f3, f4⟩
  -- a new block's number
  have newB : ∀ (j : Nat) (o : AObj) (pl : Place), (newsO os x)[j]? = some (some o) → N[j]? = some pl → pl.nil = false → B1.vis pl.blk ∧ (o.own = true → B1.w pl.blk) := by
    intro j o pl h1 h2 hn
    obtain ⟨_, _, p, hp, hok, hv⟩ := hN.obj j o h1
    rw [h2] at hp
    cases hp
    refine ⟨hv hn, fun ho => ?_⟩
    rcases hok with ⟨n1, _⟩ | ⟨_, _, _, _, _, _, _, _, g5⟩
    · rw [hn] at n1; cases n1
    · exact (g5 ho).2.2
  -- an old block and a new one lie apart, where one of them is the call's own
  have cross : ∀ (i j : Nat) (oi oj o0 : AObj) (pi pj : Place), M[i]? = some pi → H[i]? = some (some o0) → Left (upsO os x H.length) (sharedO os) acts st1.heap i o0 oi → (newsO os x)[j]? = some (some oj) → N[j]? = some pj →
      (oi.own = true ∨ oj.own = true) → pi.nil = false → pj.nil = false → pi.blk ≠ pj.blk := by
    intro i j oi oj o0 pi pj h1 h2 h3 h4 h5 ho hni hnj
    obtain ⟨v1, v2⟩ := newB j oj pj h4 h5 hnj
    obtain ⟨p', hp', hok⟩ := hH.obj i o0 h2
    rw [h1] at hp'
    cases hp'
    have hlt := blk_lt hok hni
    rcases h3 with ⟨_, ⟨c1, c2, c3⟩ | hu⟩
    · cases hoj : oj.own with
      | true =>
        rcases v2 hoj with hk | ⟨i1, o1, pl, e1, e2, e3, e4, e5⟩
        · omega
        · obtain ⟨ac, b, ob, p, a1, a2, a3, a4, a5, a6, a7, _⟩ := (src i1 o1 pl e1 e3 e4).resolve_right (fun q => by rw [q.1] at e2; cases e2)
          have hbi : b ≠ i := by
            rintro rfl
            have := (c3 i1 ac o1 a1 e1 a2).1
            rw [e2] at this
            cases this
          rw [← e5, a6]
          exact fun e => hH.sep b i ob o0 p pi a3 h2 a4 h1 hbi (a7 e2) a5 hni e.symm
      | false =>
        have hoi : oi.own = true := by
          rcases ho with ho | ho
          · exact ho
          · rw [hoj] at ho; cases ho
        have hsh : sharedO os = true := sharedO_of (List.mem_of_getElem? h4) hoj
        have still : ∀ ob, FzAt M pj.blk ob → pi.blk ≠ pj.blk := fun ob hz e => (hH.fo i o0 pi h2 h1 (c2 hoi) hni).2 ob (by rw [e]; exact hz)
        rcases v1 with hk | ⟨i1, o1, pl, e1, e3, e4, e5⟩ | ⟨ob, hz⟩
        · omega
        · rcases src i1 o1 pl e1 e3 e4 with ⟨ac, b, ob, p, a1, a2, a3, a4, a5, a6, _⟩ | ⟨_, ob, hz⟩
          · have hbi : i ≠ b := by
              rintro rfl
              have := (c3 i1 ac o1 a1 e1 a2).2 hsh
              rw [hoi] at this
              cases this
            rw [← e5, a6]
            exact hH.sep i b o0 ob pi p h2 a3 h1 a4 hbi (c2 hoi) hni a5
          · exact still ob (by rw [← e5]; exact hz)
        · exact still ob hz
    · obtain ⟨_, _, u3, _⟩ := upd i o0 oi pi h2 h1 hu
      exact fun e => u3 j pj h5 hnj hni e.symm
  -- what stays as it is
  have frozen : ∀ k ob, FzAt (M ++ (N ++ Fz)) k ob → FzAt M k ob ∨ FzAt Fz k ob := fun k ob h => (h.append).imp id fun h => (h.append).resolve_left (hN0 k ob)
  have b1f : ∀ k, B1.w k ∨ B1.f k → B.w k ∨ B.f k := by
    rintro k (h | h | ⟨ob, h⟩)
    · exact .inl (wB k h)
    · exact .inr h
    · exact (hH.fz k ob h).2.2
  refine ⟨by simp [hlpost, hN.len, hlen, hFl], fun k hk => hH.base k (Nat.le_trans hb.size hk), fun i o ho => ?_, fun i j oi oj pi pj hi hj hpi hpj hne how hni hnj => ?_, fun i o pl k ho hp hk' => ?_, fun i o pl ho hp hn => ?_, fun k ob hk => ?_, fun i o pl ho hp how hn => ?_, fun k hk => hH.bf k (Nat.le_trans hb.size hk)⟩
  · have hi : i < (M ++ (N ++ Fz)).length := by
      have := (List.getElem?_eq_some_iff.1 ho).1
      rw [List.length_append, List.length_append, hlpost, hlen, ← hN.len, ← hFl] at this
      rw [List.length_append, List.length_append]
      exact this
    refine ⟨(M ++ (N ++ Fz))[i], List.getElem?_eq_getElem hi, ?_⟩
    generalize hpl : (M ++ (N ++ Fz))[i] = pl
    have hp : (M ++ (N ++ Fz))[i]? = some pl := by rw [List.getElem?_eq_getElem hi, hpl]
    rcases part i o pl ho hp with ⟨_, h2, o0, h3, h4⟩ | ⟨j, rfl, h2, h3⟩
    · obtain ⟨p', hp', hok⟩ := hH.obj i o0 h3
      rw [h2] at hp'
      cases hp'
      rcases h4 with ⟨_, ⟨c1, c2, c3⟩ | hu⟩
      · rcases hok with ⟨n1, n2, n3⟩ | ⟨n1, cs, el, fz, g1, g2, g3, g4, g5⟩
        · exact .inl ⟨n1, n2, by rw [c1]; exact n3.mono hEx⟩
        · refine .inr ⟨n1, cs, el, fz, ?_, g2, g3, by rw [c1]; exact g4.mono hEx, fun h => g5 (c2 h)⟩
          rw [hb.block _ ((Array.getElem?_eq_some_iff.1 g1).1)]
          · exact g1
          · rintro (hk | ⟨i1, o1, pl1, e1, e2, e3, e4, e5⟩)
            · have := (Array.getElem?_eq_some_iff.1 g1).1
              omega
            · obtain ⟨ac, b, ob, p, a1, a2, a3, a4, a5, a6, a7, _⟩ := (src i1 o1 pl1 e1 e3 e4).resolve_right (fun q => by rw [q.1] at e2; cases e2)
              have hbi : b ≠ i := by
                rintro rfl
                have := (c3 i1 ac o1 a1 e1 a2).1
                rw [e2] at this
                cases this
              exact hH.sep b i ob o0 p pl a3 h3 a4 h2 hbi (a7 e2) a5 n1 (by rw [← a6]; exact e5)
      · obtain ⟨u1, u2, _⟩ := upd i o0 o pl h3 h2 hu
        rcases hok with ⟨n1, n2, n3⟩ | ⟨n1, cs, el, fz, g1, g2, g3, g4, g5⟩
        · rcases u2 with ⟨m1, m2, m3⟩ | ⟨m1, _⟩
          · exact .inl ⟨m1, m2, m3⟩
          · rw [n1] at m1; cases m1
        · rcases u2 with ⟨m1, _⟩ | ⟨m1, cs', el', fz', f1, f2, f3, f4, f5⟩
          · rw [n1] at m1; cases m1
          · exact .inr ⟨m1, cs', el', fz', f1, f2, f3, f4, fun _ => ⟨(f5 rfl).1, (f5 rfl).2.1, (g5 u1).2.2⟩⟩
    · obtain ⟨_, _, p, hp', hok, hv⟩ := hN.obj j o h2
      rw [h3] at hp'
      cases hp'
      rcases hok with ⟨n1, n2, n3⟩ | ⟨n1, cs, el, fz, g1, g2, g3, g4, g5⟩
      · exact .inl ⟨n1, n2, n3.mono hE0⟩
      · exact .inr ⟨n1, cs, el, fz, g1, g2, g3, g4.mono hE0, fun h => ⟨(g5 h).1, (g5 h).2.1, wB _ (g5 h).2.2⟩⟩
  · rcases part i oi pi hi hpi with ⟨_, h2, o0, h3, h4⟩ | ⟨j1, rfl, h2, h3⟩ <;> rcases part j oj pj hj hpj with ⟨_, k2, o0', k3, k4⟩ | ⟨j2, rfl, k2, k3⟩
    · have ho : o0.own = true := by
        rcases h4 with ⟨_, ⟨c1, c2, c3⟩ | hu⟩
        · exact c2 how
        · exact (upd i o0 oi pi h3 h2 hu).1
      exact hH.sep i j o0 o0' pi pj h3 k3 h2 k2 hne ho hni hnj
    · exact cross i j2 oi oj o0 pi pj h2 h3 h4 k2 k3 (.inl how) hni hnj
    · exact fun e => cross j j1 oj oi o0' pj pi k2 k3 k4 h2 h3 (.inr how) hnj hni e.symm
    · exact hN.sep j1 j2 oi oj pi pj h2 k2 h3 k3 (fun e => hne (by rw [e])) how hni hnj
  · rcases part i o pl ho hp with ⟨_, h2, o0, h3, h4⟩ | ⟨j, rfl, h2, h3⟩
    · exact hH.pin i o0 pl k h3 h2 (by rw [← h4.1]; exact hk')
    · rw [(hN.obj j o h2).1] at hk'; cases hk'
  · rcases part i o pl ho hp with ⟨_, h2, o0, h3, h4⟩ | ⟨j, rfl, h2, h3⟩
    · exact hH.vis i o0 pl h3 h2 hn
    · exact visB _ (newB j o pl h2 h3 hn).1
  · rcases frozen k ob hk with h | h
    · obtain ⟨z1, z2, z3⟩ := hH.fz k ob h
      refine ⟨?_, z2, z3⟩
      rw [hb.block k (hH.fz_lt h)]
      · exact z1
      · rintro (hk | ⟨i1, o1, pl1, e1, e2, e3, e4, e5⟩)
        · have := hH.fz_lt h
          omega
        · exact notF i1 o1 pl1 e1 e3 e2 e4 (.inr ⟨ob, by rw [e5]; exact h⟩)
    · obtain ⟨z1, z2, z3⟩ := hF1 k ob h
      exact ⟨z1, visB k z2, b1f k z3⟩
  · rcases part i o pl ho hp with ⟨_, h2, o0, h3, h4⟩ | ⟨j, rfl, h2, h3⟩
    · have how0 : o0.own = true := by
        rcases h4 with ⟨_, ⟨c1, c2, c3⟩ | hu⟩
        · exact c2 how
        · exact (upd i o0 o pl h3 h2 hu).1
      obtain ⟨f1, f2⟩ := hH.fo i o0 pl h3 h2 how0 hn
      refine ⟨f1, fun ob h => ?_⟩
      rcases frozen _ ob h with h | h
      · exact f2 ob h
      · rcases h4 with ⟨_, ⟨c1, c2, c3⟩ | hu⟩
        · obtain ⟨p', hp', hok⟩ := hH.obj i o0 h3
          rw [h2] at hp'
          cases hp'
          have hlt := blk_lt hok hn
          rcases (hF1 _ ob h).2.2 with (hk | ⟨i1, o1, pl1, e1, e2, e3, e4, e5⟩) | (hk | ⟨ob', hk⟩)
          · omega
          · obtain ⟨ac, b, ob2, p, a1, a2, a3, a4, a5, a6, a7, _⟩ := (src i1 o1 pl1 e1 e3 e4).resolve_right (fun q => by rw [q.1] at e2; cases e2)
            have hbi : b ≠ i := by
              rintro rfl
              have := (c3 i1 ac o1 a1 e1 a2).1
              rw [e2] at this
              cases this
            exact hH.sep b i ob2 o0 p pl a3 h3 a4 h2 hbi (a7 e2) a5 hn (by rw [← a6]; exact e5)
          · exact f1 hk
          · exact f2 ob' hk
        · exact (upd i o0 o pl h3 h2 hu).2.2.2 hn ob h
    · obtain ⟨g1, g2⟩ := hF2 j pl o h3 h2 how hn
      refine ⟨fun h => g1 (.inl h), fun ob h => ?_⟩
      rcases frozen _ ob h with h | h
      · exact g1 (.inr ⟨ob, h⟩)
      · exact g2 ob h

/-! ### calls that leave memory alone -/

def allTy : List Out → Bool
  | [] => true
  | .ty (.row _) :: _ => false
  | .ty t :: r => !t.deep && allTy r
  | _ => false

def valCs : (cs : List CTy) → DC cs → List Value
  | [], _ => []
  | .int k :: r, d => .int k d.1 :: valCs r d.2
  | .bool :: r, d => .bool d.1 :: valCs r d.2
  | .is k _ :: r, d => List.map (Value.int k) d.1 ++ valCs r d.2
  | .str :: r, d => .string (mkS d.1) :: valCs r d.2
  | .fsl _ _ :: r, d => valCs r d.2
  | .dsl _ :: r, d => valCs r d.2

theorem valCs_eq {M : List Place} : ∀ {cs : List CTy} {d : DC cs} {a : List Value}, deepC cs = false → RelC M (mkCs cs d) a → a = valCs cs d
  | [], d, a, _, h => RelC_nil.1 h
  | .int k :: r, d, a, hd, h => by
    obtain ⟨b, t, rfl, hx, hr⟩ := RelC_cons.1 h
    have h2 : deepC r = false := hd
    rw [valCs_eq (cs := r) h2 hr, (RelX_int.1 hx).1]
    rfl
  | .bool :: r, d, a, hd, h => by
    obtain ⟨b, t, rfl, hx, hr⟩ := RelC_cons.1 h
    have h2 : deepC r = false := hd
    simp only [mk1, RelX] at hx
    rw [valCs_eq (cs := r) h2 hr, hx.1]
    rfl
  | .is k n :: r, d, a, hd, h => by
    obtain ⟨b, t, rfl, hx, hr⟩ := RelC_cons.1 h
    have h2 : deepC r = false := hd
    rw [valCs_eq (cs := r) h2 hr, (RelX_is.1 hx).2.1]
    rfl
  | .str :: r, d, a, hd, h => by
    obtain ⟨b, t, rfl, hx, hr⟩ := RelC_cons.1 h
    have h2 : deepC r = false := hd
    simp only [mk1, RelX] at hx
    rw [valCs_eq (cs := r) h2 hr, hx.1]
    rfl
  | .fsl _ _ :: r, d, a, hd, h => by simp [deepC] at hd
  | .dsl _ :: r, d, a, hd, h => by simp [deepC] at hd

def valT : (t : Ty) → t.den → Value
  | .int k, x => .int k x
  | .bool, x => .bool x
  | .is k _, l => .agg (List.map (Value.int k) l).toArray
  | .row _, _ => undef
  | .agg cs, d => .agg (valCs cs d).toArray
  | .str, l => .string (mkS l)
  | .fsl _ _, _ => undef
  | .dsl _, _ => undef
  | .drow _, _ => undef
  | .mapc _, _ => undef

def valO : (os : List Out) → D (tysO os) → List Value
  | [], _ => []
  | .ty t :: r, d => valT t d.1 :: valO r d.2
  | .row _ _ _ :: r, d => valO r d.2
  | .agg cs :: r, d => valO r (restCO cs (tysO r) d)
  | .prow _ _ :: r, d => valO r d.2
  | .psegs _ cs :: r, d => valO r (restCO cs (tysO r) d)

theorem valT_eq {M : List Place} {t : Ty} {x : t.den} {v : Value} (ht : ∀ k, t ≠ .row k) (hd : t.deep = false) (h : RelV M (mkT t x) v) : v = valT t x := by
  cases t with
  | int k => exact (relV_int h).1
  | bool => exact (relV_bool h).1
  | is k n =>
    obtain ⟨vs, e, hc⟩ := RelX_agg.1 h
    have e : v = .agg vs := by simpa using e
    subst e
    have := (RelX_is.1 (RelC_single.1 hc)).2.1
    simp only [valT]
    congr 1
    apply Array.toList_inj.1
    simpa using this
  | row k => exact absurd rfl (ht k)
  | agg cs =>
    obtain ⟨vs, e, hc⟩ := RelX_agg.1 h
    have e : v = .agg vs := by simpa using e
    subst e
    have := valCs_eq hd hc
    simp only [valT]
    congr 1
    apply Array.toList_inj.1
    simpa using this
  | str =>
    simp only [mkT, RelV, RelX] at h
    simpa [valT] using h.1
  | fsl k sz => cases hd
  | dsl e => cases hd
  | drow e => cases hd
  | mapc i => cases hd

theorem mkCs_any {M M' : List Place} {cs : List CTy} {d : DC cs} {a : List Value} (hd : deepC cs = false) (h : RelC M (mkCs cs d) a) : RelC M' (mkCs cs d) a := by
  induction cs generalizing a with
  | nil => exact RelC_nil.2 (RelC_nil.1 h)
  | cons t r ih =>
    obtain ⟨b, t', rfl, hx, hr⟩ := RelC_cons.1 h
    have h2 : deepC r = false := by cases t <;> first | exact hd | cases hd
    refine RelC_cons.2 ⟨b, t', rfl, ?_, ih h2 hr⟩
    cases t with
    | fsl k sz => cases hd
    | dsl e => cases hd
    | _ => simpa only [mk1, RelX] using hx
theorem mkT_any {M M' : List Place} {t : Ty} {x : t.den} {v : Value} (hd : t.deep = false) (h : RelV M (mkT t x) v) : RelV M' (mkT t x) v := by
  cases t with
  | int k => exact RelX_int.2 (RelX_int.1 h)
  | bool => simpa only [mkT, RelV, RelX] using h
  | is k n =>
    obtain ⟨vs, e, hc⟩ := RelX_agg.1 h
    exact RelX_agg.2 ⟨vs, e, RelC_single.2 (RelX_is.2 (RelX_is.1 (RelC_single.1 hc)))⟩
  | row k => exact relV_undef _ _
  | agg cs =>
    obtain ⟨vs, e, hc⟩ := RelX_agg.1 h
    exact RelX_agg.2 ⟨vs, e, mkCs_any hd hc⟩
  | str => simpa only [mkT, RelV, RelX] using h
  | fsl k sz => cases hd
  | dsl e => cases hd
  | drow e => exact relV_undef _ _
  | mapc i => cases hd

theorem valO_eq : ∀ {os : List Out} {d : D (tysO os)} {M : List Place} {b : Nat} {vs : List Value}, allTy os = true → RelL M (avsO os d b) vs → vs = valO os d ∧ RelL [] (avsO os d 0) vs
  | [], d, M, b, vs, _, h => by
    simp only [avsO, RelL_nil] at h
    subst h
    exact ⟨rfl, RelL_nil.2 rfl⟩
  | .ty t :: r, d, M, b, vs, ha, h => by
    obtain ⟨v, vs', rfl, hv, hr⟩ := RelL_cons.1 h
    have ha' : allTy r = true ∧ (∀ k, t ≠ .row k) ∧ t.deep = false := by
      cases t <;> simp only [allTy, Bool.and_eq_true, Bool.not_eq_true', reduceCtorEq] at ha <;> exact ⟨ha.2, fun k h => (by cases h), ha.1⟩
    obtain ⟨e, hl⟩ := valO_eq ha'.1 hr
    have hv2 := valT_eq ha'.2.1 ha'.2.2 hv
    refine ⟨by rw [e, hv2]; rfl, RelL_cons.2 ⟨v, vs', rfl, ?_, hl⟩⟩
    exact mkT_any ha'.2.2 hv
  | .row k sz _ :: r, d, M, b, vs, ha, h => by simp [allTy] at ha
  | .agg cs :: r, d, M, b, vs, ha, h => by simp [allTy] at ha
  | .prow _ _ :: r, d, M, b, vs, ha, h => by simp [allTy] at ha
  | .psegs _ _ :: r, d, M, b, vs, ha, h => by simp [allTy] at ha

def smQRun (n : Nat) (ins : List Item) (os : List Out) (F : D (tysI ins []) → Option (D (tysO os))) : List AV → Heap → (AV → Option ρ) → Option ρ := fun args H K =>
  (extA n ins args H).bind fun d => (F d).bind fun r => K (retA (avsO os r 0))

theorem noOwn_heap : ∀ {its : List Item} {acc : List Ty} {d : D (tysI its acc)} {st : St}, noOwn its = true → (∀ (i : Nat) o, st.heap[i]? = some (some o) → o.own = false) → ∀ (i : Nat) o, (bldI its acc d st).1.heap[i]? = some (some o) → o.own = false := by
  intro its
  induction its with
  | nil => intro acc d st _ h; exact h
  | cons it its ih =>
    intro acc d st hn h
    have snoc : ∀ (x : Option AObj), (∀ o, x = some o → o.own = false) → ∀ (i : Nat) o, (st.heap ++ [x])[i]? = some (some o) → o.own = false := by
      intro x hx i o hi
      rw [List.getElem?_append] at hi
      split at hi
      · exact h i o hi
      · rcases Nat.eq_zero_or_pos (i - st.heap.length) with h0 | h0
        · rw [h0] at hi
          simp at hi
          exact hx o hi
        · rw [List.getElem?_eq_none (by simp; omega)] at hi; cases hi
    cases it with
    | row k sz src own pin =>
      simp only [noOwn, Bool.and_eq_true, Bool.not_eq_true'] at hn
      exact ih hn.2 (snoc _ (by rintro o ⟨⟩; exact hn.1))
    | segs cs src own pin =>
      simp only [noOwn, Bool.and_eq_true, Bool.not_eq_true'] at hn
      exact ih hn.2 (snoc _ (by rintro o ⟨⟩; exact hn.1))
    | drow e src own pin =>
      simp only [noOwn, Bool.and_eq_true, Bool.not_eq_true'] at hn
      exact ih hn.2 (snoc _ (by rintro o ⟨⟩; exact hn.1))
    | drop => exact ih hn (snoc _ (by rintro o ⟨⟩))
    | slot t ty => exact ih hn h
    | const t a => exact ih hn h
    | sl t b sz c => exact ih hn h
    | ptr t b w => exact ih hn h
    | fn t f cs => exact ih hn h
    | cells t cs => exact ih hn h

/-- All blocks from n on may be written; and any told number is right. -/
def Base.fresh (n : Nat) : Base := ⟨fun k => n ≤ k, fun _ => True, fun _ _ => True, fun k => k < n⟩
theorem Beneath.below' {w w' : World} (h : Beneath (Base.fresh w.heap.size) w w') : Below w.heap.size w w' := ⟨h.os, h.tape, h.output, h.size, fun k hk => h.block k hk (fun h2 => Nat.lt_irrefl _ (Nat.lt_of_lt_of_le hk h2))⟩

theorem smQRun_ok {P : Program} {f : FuncId} {n : Nat} {ins : List Item} {os : List Out} {F : D (tysI ins []) → Option (D (tysO os))} (h : FnSpec P f n ins os F) (hn : noOwn ins = true) (ha : allTy os = true) : QCalAt (ρ := ρ) P f (smQRun n ins os F) := by
  intro args H K r hk M B w vs hl hH
  unfold smQRun at hk
  simp only [Option.bind_eq_some_iff] at hk
  obtain ⟨d, hd, x, hx, hk⟩ := hk
  -- one run, for what the results are
  have hrun : ∀ w', Below w.heap.size w w' → Calls P f vs w' fun e w'' => ∃ rs : Array Value, e = .returned (retV rs) ∧ rs = (valO os x).toArray ∧ RelL [] (avsO os x 0) (valO os x) ∧ Below w'.heap.size w' w'' := by
    intro w' hb
    obtain ⟨M1, t⟩ := extA_told hl (hH.below hb) hd
    have hno := noOwn_heap (acc := []) (d := d) (st := st0 n) hn (fun i o hi => by cases i <;> simp [st0] at hi)
    have hH1 : RelH M1 (bldS n ins d).heap (Base.fresh w'.heap.size) w' := by
      refine ⟨t.heap.len, fun k hk => ⟨hk, trivial⟩, fun i o ho => ?_, t.heap.sep, fun _ _ _ _ _ _ _ => trivial, fun _ _ _ _ _ _ => trivial, fun k ob h => ⟨(t.heap.fz k ob h).1, trivial, .inr (t.heap.fz_lt h)⟩, fun i o pl ho hp how hn => (by rw [hno i o ho] at how; cases how), fun k hk h => absurd hk (Nat.not_le_of_lt h)⟩
      obtain ⟨pl, hp, hok⟩ := t.heap.obj i o ho
      refine ⟨pl, hp, ?_⟩
      rcases hok with hok | ⟨hn, cs, el, fz, h1, h2, h3, h4, h5⟩
      · exact .inl hok
      · exact .inr ⟨hn, cs, el, fz, h1, h2, h3, h4, fun ho2 => by rw [hno i o ho] at ho2; cases ho2⟩
    refine (h d x hx M1 (Base.fresh w'.heap.size) w' vs (relL_of_relT t.tmps) hH1).mono ?_
    rintro e w'' ⟨rs, rfl, hb', N, Fz, _, _, _, _, _, hav, _⟩
    obtain ⟨e1, e2⟩ := valO_eq (b := 0) ha (by simpa using hav [])
    refine ⟨rs, rfl, ?_, by rw [← e1]; exact e2, hb'.below'⟩
    apply Array.toList_inj.1
    simpa using e1
  obtain ⟨e, w', fr, ⟨rs, _, _, hro, _⟩, _⟩ := hrun w (Below.refl _ _) []
  refine ⟨retV (valO os x).toArray, _, hk, RelX.mono (fun b pl e => (by simp at e)) _ _ (retA_rel (M := []) (by simpa using hro)), fun w' hb => (hrun w' hb).mono ?_⟩
  rintro e w'' ⟨rs, rfl, rfl, _, hb'⟩
  exact ⟨rfl, hb'⟩

end Go.AE

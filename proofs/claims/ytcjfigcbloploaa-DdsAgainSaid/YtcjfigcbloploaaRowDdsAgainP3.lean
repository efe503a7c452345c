/- A part of the proof, put together of my texts: Fw15, Fw16, Fw17, Fw18, Fw19, Fw20, Fw21, Fw22, Fw23. -/
import Derived.OpenShut
import GoSem.ClaimWide
import Derived.Maps.Range
import Derived.DeepKeys5
import Derived.Test.YtcjfigcbloploaaRowDdsAgainP2
set_option linter.unusedVariables false
set_option linter.unusedSimpArgs false
namespace Go.AE
open Go Go.RowKit
inductive CTy where
  | int (k : IntKind)
  | bool
  | is (k : IntKind) (n : Nat)
  | str
  | fsl (k : IntKind) (sz : Nat)
  | dsl (e : EK)
  deriving DecidableEq
@[reducible] def CTy.den : CTy → Type
  | .int _ => Int
  | .bool => Bool
  | .is _ _ => List Int
  | .str => List Int
  | .fsl _ _ => List Int
  | .dsl e => List e.den
@[reducible] def DC : List CTy → Type
  | [] => Unit
  | t :: ts => t.den × DC ts
inductive Ty where
  | int (k : IntKind)
  | bool
  | is (k : IntKind) (n : Nat)
  | row (k : IntKind)
  | agg (cs : List CTy)
  | str
  | fsl (k : IntKind) (sz : Nat)
  | dsl (e : EK)
  | drow (e : EK)
  | mapc (i : Nat)
  deriving DecidableEq
@[reducible] def Ty.den : Ty → Type
  | .int _ => Int
  | .bool => Bool
  | .is _ _ => List Int
  | .row _ => List Int
  | .agg cs => DC cs
  | .str => List Int
  | .fsl _ _ => List Int
  | .dsl e => List e.den
  | .drow e => List e.den
  | .mapc _ => Unit
@[reducible] def D : List Ty → Type
  | [] => Unit
  | t :: ts => t.den × D ts
def mk1 : (t : CTy) → t.den → AV
  | .int k, x => .int k none x
  | .bool, x => .bool none x
  | .is k n, l => .is k n l
  | .str, l => .str l
  | .fsl k sz, l => .fsl k sz l
  | .dsl e, l => .dsl ⟨e, l⟩
def mkCs : (cs : List CTy) → DC cs → List AV
  | [], _ => []
  | t :: r, d => mk1 t d.1 :: mkCs r d.2
def mkT : (t : Ty) → t.den → AV
  | .int k, x => .int k none x
  | .bool, x => .bool none x
  | .is k n, l => .agg [.is k n l]
  | .row _, _ => .undef
  | .agg cs, d => .agg (mkCs cs d)
  | .str, l => .str l
  | .fsl k sz, l => .fsl k sz l
  | .dsl e, l => .dsl ⟨e, l⟩
  | .drow _, _ => .undef
  | .mapc i, _ => .mapc i
def mkC : (t : Ty) → t.den → AV
  | .int k, x => .int k none x
  | .bool, x => .bool none x
  | .is k n, l => .is k n l
  | .row _, _ => .undef
  | .agg _, _ => .undef
  | .str, l => .str l
  | .fsl k sz, l => .fsl k sz l
  | .dsl e, l => .dsl ⟨e, l⟩
  | .drow _, _ => .undef
  | .mapc _, _ => .undef
def deepC : List CTy → Bool
  | [] => false
  | .fsl _ _ :: _ => true
  | .dsl _ :: _ => true
  | _ :: r => deepC r
def Ty.deep : Ty → Bool
  | .fsl _ _ | .dsl _ | .drow _ | .mapc _ => true
  | .agg cs => deepC cs
  | _ => false
def getStr : AV → Option (List Int)
  | .str l => some l
  | _ => none
def getFsl (k : IntKind) (sz : Nat) : AV → Option (List Int)
  | .fsl k' sz' l => if k' = k ∧ sz' = sz then some l else none
  | .nils => some []
  | _ => none
def getDsl (e : EK) : AV → Option (List e.den)
  | .dsl d => if h : d.e = e then some (h ▸ d.l) else none
  | .nils => some []
  | _ => none
theorem getStr_rel {M M' : List Place} {a : AV} {l : List Int} {vs : List Value} (h : getStr a = some l) (r : RelX M a vs) : RelX M' (.str l) vs := by
  cases a <;> simp only [getStr, reduceCtorEq, Option.some.injEq] at h
  subst h
  simpa only [RelX] using r
theorem getFsl_rel {M M' : List Place} (hz : FzSub M M') {k : IntKind} {sz : Nat} {a : AV} {l : List Int} {vs : List Value} (h : getFsl k sz a = some l) (r : RelX M a vs) : RelX M' (.fsl k sz l) vs := by
  cases a <;> simp only [getFsl, reduceCtorEq, Option.some.injEq] at h
  · subst h
    simp only [RelX] at r ⊢
    subst r
    exact ⟨_, rfl, none, 0, 0, rfl, Nat.le_refl _, by simp, by rw [has_iff]; simp [loB, hiB], by simp, .inl rfl⟩
  · split at h
    · rename_i hk
      obtain ⟨rfl, rfl⟩ := hk
      cases h
      simp only [RelX] at r ⊢
      obtain ⟨v, e, r⟩ := r
      exact ⟨v, e, r.mono hz⟩
    · cases h
theorem getDsl_rel {M M' : List Place} (hz : FzSub M M') {e : EK} {a : AV} {l : List e.den} {vs : List Value} (h : getDsl e a = some l) (r : RelX M a vs) : RelX M' (.dsl ⟨e, l⟩) vs := by
  cases a <;> simp only [getDsl, reduceCtorEq, Option.some.injEq] at h
  · subst h
    simp only [RelX] at r ⊢
    subst r
    exact ⟨_, rfl, none, 0, 0, rfl, Nat.le_refl _, rfl, by rw [has_iff]; simp [loB, hiB], .inl rfl⟩
  · rename_i d
    split at h
    · rename_i he
      subst he
      cases h
      simp only [RelX] at r ⊢
      obtain ⟨v, e, r⟩ := r
      exact ⟨v, e, r.mono hz fun x a => EK.rel_mono hz d.e x a⟩
    · cases h
def popInt (k : IntKind) : List AV → Option (Int × List AV)
  | .int k' _ x :: r => if k' = k then some (x, r) else none
  | .is k' (n + 1) l :: r => if k' = k then some (l.getD 0 0, match n with | 0 => r | n + 1 => .is k (n + 1) (l.drop 1) :: r) else none
  | _ => none
def takeN (k : IntKind) : Nat → List AV → Option (List Int × List AV)
  | 0, xs => some ([], xs)
  | n + 1, xs => match popInt k xs with
    | some (x, r) => match takeN k n r with
      | some (l, r') => some (x :: l, r')
      | none => none
    | none => none
def takeIs (k : IntKind) (n : Nat) (xs : List AV) : Option (List Int × List AV) :=
  match xs with
  | .is k' n' l :: r => if k' = k ∧ n' = n then some (l, r) else takeN k n xs
  | _ => takeN k n xs
theorem popInt_rel {M : List Place} {k : IntKind} {xs : List AV} {a : List Value} (h : RelC M xs a) {x : Int} {r : List AV} (hp : popInt k xs = some (x, r)) : ∃ a', a = .int k x :: a' ∧ k.has x ∧ RelC M r a' := by
  unfold popInt at hp
  split at hp
  · rename_i k' l y r'
    split at hp
    · rename_i hk
      subst hk
      simp only [Option.some.injEq, Prod.mk.injEq] at hp
      obtain ⟨rfl, rfl⟩ := hp
      obtain ⟨b, t, rfl, hx, hr⟩ := RelC_cons.1 h
      obtain ⟨e, h1, _⟩ := RelX_int.1 hx
      exact ⟨t, by rw [e]; rfl, h1, hr⟩
    · cases hp
  · rename_i k' n l r'
    split at hp
    · rename_i hk
      subst hk
      simp only [Option.some.injEq, Prod.mk.injEq] at hp
      obtain ⟨rfl, rfl⟩ := hp
      obtain ⟨b, t, rfl, hx, hr⟩ := RelC_cons.1 h
      obtain ⟨h1, h2, h3⟩ := RelX_is.1 hx
      cases l with
      | nil => simp at h1
      | cons z l =>
        simp at h1
        refine ⟨l.map (.int k') ++ t, by rw [h2]; rfl, h3 z (by simp), ?_⟩
        cases n with
        | zero =>
          have : l = [] := List.length_eq_zero_iff.1 h1
          subst this
          exact hr
        | succ n => exact RelC_cons.2 ⟨l.map (.int k'), t, rfl, RelX_is.2 ⟨h1, rfl, fun x hx => h3 x (by simp at hx; simp [hx])⟩, hr⟩
    · cases hp
  · cases hp
theorem takeN_rel {M : List Place} {k : IntKind} : ∀ {n : Nat} {xs : List AV} {a : List Value} {l : List Int} {r : List AV}, RelC M xs a → takeN k n xs = some (l, r) → ∃ a', a = l.map (.int k) ++ a' ∧ l.length = n ∧ (∀ x ∈ l, k.has x) ∧ RelC M r a'
  | 0, xs, a, l, r, h, hp => by
    simp only [takeN, Option.some.injEq, Prod.mk.injEq] at hp
    obtain ⟨rfl, rfl⟩ := hp
    exact ⟨a, rfl, rfl, by simp, h⟩
  | n + 1, xs, a, l, r, h, hp => by
    simp only [takeN] at hp
    split at hp
    · rename_i x r1 h1
      split at hp
      · rename_i l2 r2 h2
        simp only [Option.some.injEq, Prod.mk.injEq] at hp
        obtain ⟨rfl, rfl⟩ := hp
        obtain ⟨a1, rfl, hx, hr⟩ := popInt_rel h h1
        obtain ⟨a2, rfl, hl, ha, hr2⟩ := takeN_rel hr h2
        refine ⟨a2, rfl, by simp [hl], fun z hz => ?_, hr2⟩
        rcases List.mem_cons.1 hz with rfl | hz
        · exact hx
        · exact ha z hz
      · cases hp
    · cases hp
theorem takeIs_rel {M : List Place} {k : IntKind} {n : Nat} {xs : List AV} {a : List Value} {l : List Int} {r : List AV} (h : RelC M xs a) (hp : takeIs k n xs = some (l, r)) : ∃ a', a = l.map (.int k) ++ a' ∧ l.length = n ∧ (∀ x ∈ l, k.has x) ∧ RelC M r a' := by
  unfold takeIs at hp
  split at hp
  · rename_i k' n' l' r'
    split at hp
    · rename_i hk
      obtain ⟨rfl, rfl⟩ := hk
      simp only [Option.some.injEq, Prod.mk.injEq] at hp
      obtain ⟨rfl, rfl⟩ := hp
      obtain ⟨b, t, rfl, hx, hr⟩ := RelC_cons.1 h
      obtain ⟨h1, h2, h3⟩ := RelX_is.1 hx
      exact ⟨t, by rw [h2], h1, h3, hr⟩
    · exact takeN_rel h hp
  · exact takeN_rel h hp
def pop1 : (t : CTy) → List AV → Option (t.den × List AV)
  | .int k, xs => popInt k xs
  | .bool, .bool _ x :: r => some (x, r)
  | .is k n, xs => takeIs k n xs
  | .str, x :: r => match getStr x with
    | some l => some (l, r)
    | none => none
  | .fsl k sz, x :: r => match getFsl k sz x with
    | some l => some (l, r)
    | none => none
  | .dsl e, x :: r => match getDsl e x with
    | some l => some (l, r)
    | none => none
  | _, _ => none
theorem pop1_rel {M M' : List Place} {t : CTy} (hz : deepC [t] = true → FzSub M M') {xs : List AV} {vs : List Value} {x : t.den} {ys : List AV} (h : pop1 t xs = some (x, ys)) (hr : RelC M xs vs) : ∃ a r, vs = a ++ r ∧ RelX M' (mk1 t x) a ∧ RelC M ys r := by
  cases t with
  | int k =>
    obtain ⟨a', rfl, h1, h2⟩ := popInt_rel hr h
    exact ⟨[.int k x], a', rfl, RelX_int.2 ⟨rfl, h1, fun m hm => by cases hm⟩, h2⟩
  | bool =>
    cases xs with
    | nil => simp [pop1] at h
    | cons c r =>
      cases c <;> simp only [pop1, reduceCtorEq, Option.some.injEq, Prod.mk.injEq] at h
      obtain ⟨rfl, rfl⟩ := h
      obtain ⟨a, t, rfl, hx, hr'⟩ := RelC_cons.1 hr
      simp only [RelX] at hx
      exact ⟨a, t, rfl, by simp [mk1, RelX, hx.1], hr'⟩
  | is k n =>
    obtain ⟨a', rfl, h1, h2, h3⟩ := takeIs_rel hr h
    exact ⟨List.map (Value.int k) x, a', rfl, RelX_is.2 ⟨h1, rfl, h2⟩, h3⟩
  | str =>
    cases xs with
    | nil => simp [pop1] at h
    | cons c r =>
      simp only [pop1] at h
      split at h
      · rename_i l hl
        cases h
        obtain ⟨a, t, rfl, hx, hr'⟩ := RelC_cons.1 hr
        exact ⟨a, t, rfl, getStr_rel hl hx, hr'⟩
      · cases h
  | fsl k sz =>
    cases xs with
    | nil => simp [pop1] at h
    | cons c r =>
      simp only [pop1] at h
      split at h
      · rename_i l hl
        cases h
        obtain ⟨a, t, rfl, hx, hr'⟩ := RelC_cons.1 hr
        exact ⟨a, t, rfl, getFsl_rel (hz rfl) hl hx, hr'⟩
      · cases h
  | dsl e =>
    cases xs with
    | nil => simp [pop1] at h
    | cons c r =>
      simp only [pop1] at h
      split at h
      · rename_i l hl
        cases h
        obtain ⟨a, t, rfl, hx, hr'⟩ := RelC_cons.1 hr
        exact ⟨a, t, rfl, getDsl_rel (hz rfl) hl hx, hr'⟩
      · cases h
def getCs : (cs : List CTy) → List AV → Option (DC cs)
  | [], [] => some ()
  | [], _ :: _ => none
  | t :: r, xs => match pop1 t xs with
    | some (x, ys) => match getCs r ys with
      | some d => some (x, d)
      | none => none
    | none => none
theorem deepC_head {t : CTy} {r : List CTy} (h : deepC [t] = true) : deepC (t :: r) = true := by
  cases t <;> first | rfl | cases h
theorem deepC_tail {t : CTy} {r : List CTy} (h : deepC r = true) : deepC (t :: r) = true := by
  cases t <;> first | rfl | exact h
theorem getCs_rel {M M' : List Place} : ∀ {cs : List CTy} {xs : List AV} {a : List Value} {d : DC cs}, (deepC cs = true → FzSub M M') → getCs cs xs = some d → RelC M xs a → RelC M' (mkCs cs d) a
  | [], [], a, d, _, h, hr => by
    rw [RelC_nil] at hr
    exact RelC_nil.2 hr
  | [], _ :: _, a, d, _, h, hr => by cases h
  | t :: r, xs, a, d, hz, h, hr => by
    simp only [getCs] at h
    split at h
    · rename_i x ys h1
      split at h
      · rename_i d' h2
        cases h
        obtain ⟨a', r', rfl, hx, hr'⟩ := pop1_rel (fun h => hz (deepC_head h)) h1 hr
        exact RelC_cons.2 ⟨a', r', rfl, hx, getCs_rel (fun h => hz (deepC_tail h)) h2 hr'⟩
      · cases h
    · cases h
def getT : (t : Ty) → AV → Option t.den
  | .int k, .int k' _ x => if k' = k then some x else none
  | .bool, .bool _ x => some x
  | .is k n, .agg xs => match takeIs k n xs with
    | some (l, []) => some l
    | _ => none
  | .agg cs, .agg xs => getCs cs xs
  | .str, x => getStr x
  | .fsl k sz, x => getFsl k sz x
  | .dsl e, x => getDsl e x
  | _, _ => none
def getC : (t : Ty) → AV → Option t.den
  | .int k, .int k' _ x => if k' = k then some x else none
  | .bool, .bool _ x => some x
  | .is k n, .is k' n' l => if k' = k ∧ n' = n then some l else none
  | .str, x => getStr x
  | .fsl k sz, x => getFsl k sz x
  | .dsl e, x => getDsl e x
  | _, _ => none
theorem getT_rel {M M' : List Place} {t : Ty} (hz : t.deep = true → FzSub M M') {a : AV} {x : t.den} {v : Value} (h : getT t a = some x) (hr : RelV M a v) : RelV M' (mkT t x) v := by
  cases t with
  | int k =>
    cases a <;> simp only [getT, reduceCtorEq] at h
    split at h
    · rename_i hk
      subst hk
      cases h
      obtain ⟨e, h1, _⟩ := relV_int hr
      subst e
      exact RelX_int.2 ⟨rfl, h1, fun m hm => by cases hm⟩
    · cases h
  | bool =>
    cases a <;> simp only [getT, reduceCtorEq] at h
    cases h
    obtain ⟨e, _⟩ := relV_bool hr
    subst e
    simp [mkT, RelV, RelX]
  | is k n =>
    cases a <;> simp only [getT, reduceCtorEq] at h
    split at h
    · rename_i l h1
      cases h
      obtain ⟨vs, e, hc⟩ := RelX_agg.1 hr
      obtain ⟨a', ha, hl, hx, hr'⟩ := takeIs_rel hc h1
      rw [RelC_nil] at hr'
      subst hr'
      exact RelX_agg.2 ⟨vs, e, RelC_single.2 (RelX_is.2 ⟨hl, by simpa using ha, hx⟩)⟩
    · cases h
  | agg cs =>
    cases a <;> simp only [getT, reduceCtorEq] at h
    obtain ⟨vs, e, hc⟩ := RelX_agg.1 hr
    exact RelX_agg.2 ⟨vs, e, getCs_rel hz h hc⟩
  | row k => simp [getT] at h
  | drow e => simp [getT] at h
  | mapc i => simp [getT] at h
  | str => exact getStr_rel h hr
  | fsl k sz => exact getFsl_rel (hz rfl) h hr
  | dsl e => exact getDsl_rel (hz rfl) h hr
theorem getC_rel {M M' : List Place} {t : Ty} (hz : t.deep = true → FzSub M M') {a : AV} {x : t.den} {vs : List Value} (h : getC t a = some x) (hr : RelX M a vs) : RelX M' (mkC t x) vs := by
  cases t with
  | int k =>
    cases a <;> simp only [getC, reduceCtorEq] at h
    split at h
    · rename_i hk
      subst hk
      cases h
      obtain ⟨e, h1, _⟩ := RelX_int.1 hr
      exact RelX_int.2 ⟨e, h1, fun m hm => by cases hm⟩
    · cases h
  | bool =>
    cases a <;> simp only [getC, reduceCtorEq] at h
    cases h
    simp only [RelX] at hr
    simp [mkC, RelX, hr.1]
  | is k n =>
    cases a <;> simp only [getC, reduceCtorEq] at h
    split at h
    · rename_i hk
      obtain ⟨rfl, rfl⟩ := hk
      cases h
      exact RelX_is.2 (RelX_is.1 hr)
    · cases h
  | agg cs => simp [getC] at h
  | row k => simp [getC] at h
  | drow e => simp [getC] at h
  | mapc i => simp [getC] at h
  | str => exact getStr_rel h hr
  | fsl k sz => exact getFsl_rel (hz rfl) h hr
  | dsl e => exact getDsl_rel (hz rfl) h hr
def sameA : AV → AV → Bool
  | .undef, .is _ _ _ => false
  | .undef, _ => true
  | .int k (some m) x, .int k' (some m') _ => decide (k = k') && (m == m') && (x == m)
  | .bool (some m) x, .bool (some m') _ => (m == m') && (x == m)
  | .nilp, .nilp => true
  | .nils, .nils => true
  | .nilf, .nilf => true
  | .niface, .niface => true
  | _, _ => false
theorem sameA_rel {M M' : List Place} {a b : AV} {v : Value} (h : sameA a b = true) (hr : RelV M b v) : RelV M' a v := by
  cases a <;> try (exact relV_undef _ _)
  case int k l x =>
    cases l <;> cases b <;> try (cases h; done)
    rename_i m k' l' y
    cases l' <;> try (cases h; done)
    simp only [sameA, Bool.and_eq_true, decide_eq_true_eq, beq_iff_eq] at h
    obtain ⟨⟨rfl, rfl⟩, rfl⟩ := h
    obtain ⟨e, h1, h2⟩ := RelX_int.1 hr
    have := h2 _ rfl
    subst this
    exact RelX_int.2 ⟨e, h1, fun m hm => by cases hm; rfl⟩
  case bool l x =>
    cases l <;> cases b <;> try (cases h; done)
    rename_i m l' y
    cases l' <;> try (cases h; done)
    simp only [sameA, Bool.and_eq_true, beq_iff_eq] at h
    obtain ⟨rfl, rfl⟩ := h
    simp only [RelV, RelX] at hr ⊢
    have := hr.2 _ rfl
    subst this
    exact ⟨hr.1, fun m hm => by cases hm; rfl⟩
  all_goals
    cases b <;> try (cases h; done)
    try exact hr
inductive Src where
  | same (b : Nat)
  | slot (t : Nat)
  | cell (p : Src) (j : Nat)
  | cap (p : Src) (j : Nat)
  | part (p : Src) (j : Nat)
inductive CI where
  | hole (t : Ty)
  | const (a : AV)
  | sl (b sz : Nat) (c : CapK)
  | ptr (b w : Nat)
  | fnp (f : FuncId) (ps : List (Nat × Nat))
inductive Item where
  | row (k : IntKind) (sz : Nat) (src : Src) (own : Bool) (pin : Option Nat := none)
  | drow (e : EK) (src : Src) (own : Bool) (pin : Option Nat := none)
  | segs (cs : List CI) (src : Src) (own : Bool) (pin : Option Nat := none)
  | drop
  | slot (t : Nat) (ty : Ty)
  | const (t : Nat) (a : AV)
  | sl (t b sz : Nat) (c : CapK)
  | ptr (t b w : Nat)
  | fn (t : Nat) (f : FuncId) (cs : List CI)
  | cells (t : Nat) (cs : List CI)
  | ifc (t : Nat) (T : TypeId) (k : IntKind)
@[reducible] def tysC : List CI → List Ty → List Ty
  | [], acc => acc
  | .hole t :: r, acc => t :: tysC r acc
  | .const _ :: r, acc => tysC r acc
  | .sl _ _ _ :: r, acc => tysC r acc
  | .ptr _ _ :: r, acc => tysC r acc
  | .fnp _ _ :: r, acc => tysC r acc
@[reducible] def tysI : List Item → List Ty → List Ty
  | [], acc => acc
  | .row k _ _ _ _ :: r, acc => .row k :: tysI r acc
  | .drow e _ _ _ :: r, acc => .drow e :: tysI r acc
  | .segs cs _ _ _ :: r, acc => tysC cs (tysI r acc)
  | .slot _ t :: r, acc => t :: tysI r acc
  | .drop :: r, acc => tysI r acc
  | .const _ _ :: r, acc => tysI r acc
  | .sl _ _ _ _ :: r, acc => tysI r acc
  | .ptr _ _ _ :: r, acc => tysI r acc
  | .fn _ _ cs :: r, acc => tysC cs (tysI r acc)
  | .cells _ cs :: r, acc => tysC cs (tysI r acc)
  | .ifc _ _ k :: r, acc => .int k :: tysI r acc
def div1 (n sz : Nat) : Nat := match sz with | 1 => n | s => n / s
theorem div1_eq (n sz : Nat) : div1 n sz = n / sz := by unfold div1; split <;> simp
def rowLen (H : Heap) (b : Nat) : Nat :=
  match H[b]? with
  | some (some ⟨.row _ l, _, _⟩) => l.length
  | some (some ⟨.drow d, _, _⟩) => mul1 d.l.length d.e.w
  | _ => 0
def bldC (H : Heap) : (cs : List CI) → (acc : List Ty) → D (tysC cs acc) → List AV × D acc
  | [], _, d => ([], d)
  | .hole t :: r, acc, d => (mkC t d.1 :: (bldC H r acc d.2).1, (bldC H r acc d.2).2)
  | .const a :: r, acc, d => (a :: (bldC H r acc d).1, (bldC H r acc d).2)
  | .sl b sz c :: r, acc, d => (.sl b 0 (div1 (rowLen H b) sz) sz c :: (bldC H r acc d).1, (bldC H r acc d).2)
  | .ptr b w :: r, acc, d => (.ptr b 0 none w w :: (bldC H r acc d).1, (bldC H r acc d).2)
  | .fnp f ps :: r, acc, d => (.fn f [] (ps.map fun p => .ptr p.1 0 none p.2 p.2) :: (bldC H r acc d).1, (bldC H r acc d).2)
def setSrc (ts : List AV) (src : Src) (b len sz : Nat) (own : Bool) : List AV :=
  match src with
  | .slot t => ts.set t (.sl b 0 (div1 len sz) sz (if own then .own else .whole))
  | _ => ts
def bldI : (its : List Item) → (acc : List Ty) → D (tysI its acc) → St → St × D acc
  | [], _, d, st => (st, d)
  | .row k sz src own pin :: r, acc, d, st => bldI r acc d.2 ⟨setSrc st.tmps src st.heap.length (List.length (α := Int) d.1) sz own, st.heap ++ [some ⟨.row k d.1, own, pin⟩]⟩
  | .drow e src own pin :: r, acc, d, st => bldI r acc d.2 ⟨setSrc st.tmps src st.heap.length (mul1 (List.length (α := e.den) d.1) e.w) e.w own, st.heap ++ [some ⟨.drow ⟨e, d.1⟩, own, pin⟩]⟩
  | .segs cs _ own pin :: r, acc, d, st => bldI r acc (bldC st.heap cs (tysI r acc) d).2 ⟨st.tmps, st.heap ++ [some ⟨.segs (bldC st.heap cs (tysI r acc) d).1, own, pin⟩]⟩
  | .drop :: r, acc, d, st => bldI r acc d ⟨st.tmps, st.heap ++ [none]⟩
  | .slot t ty :: r, acc, d, st => bldI r acc d.2 ⟨st.tmps.set t (mkT ty d.1), st.heap⟩
  | .const t a :: r, acc, d, st => bldI r acc d ⟨st.tmps.set t a, st.heap⟩
  | .sl t b sz c :: r, acc, d, st => bldI r acc d ⟨st.tmps.set t (.sl b 0 (div1 (rowLen st.heap b) sz) sz c), st.heap⟩
  | .ptr t b w :: r, acc, d, st => bldI r acc d ⟨st.tmps.set t (.ptr b 0 none w w), st.heap⟩
  | .fn t f cs :: r, acc, d, st => bldI r acc (bldC st.heap cs (tysI r acc) d).2 ⟨st.tmps.set t (.fn f [] (bldC st.heap cs (tysI r acc) d).1), st.heap⟩
  | .cells t cs :: r, acc, d, st => bldI r acc (bldC st.heap cs (tysI r acc) d).2 ⟨st.tmps.set t (.agg (bldC st.heap cs (tysI r acc) d).1), st.heap⟩
  | .ifc t T k :: r, acc, d, st => bldI r acc d.2 ⟨st.tmps.set t (.iface T (.int k none d.1)), st.heap⟩
structure Act where
  id : Option Nat
  whole : Bool
  own : Bool
  row : Bool
def cellOf (H : Heap) (b j : Nat) : Option AV :=
  match H[b]? with
  | some (some ⟨.segs cs, _, _⟩) => cellAt1 cs j
  | _ => none
where cellAt1 : List AV → Nat → Option AV
  | [], _ => none
  | x :: _, 0 => some x
  | _ :: r, j + 1 => cellAt1 r j
def valAt (st : St) : Src → Option AV
  | .same _ => none
  | .slot t => some (st.tmps.getD t .undef)
  | .cell p j => match valAt st p with
    | some (.ptr b 0 none _ _) => match st.heap[b]? with
      | some (some ⟨.segs cs, _, _⟩) => cellAt cs j
      | _ => none
    | _ => none
  | .cap p j => match valAt st p with
    | some (.fn _ [] caps) => cellOf.cellAt1 caps j
    | _ => none
  | .part p j => match valAt st p with
    | some (.agg cs) => cellAt cs j
    | _ => none
def srcBlk (st : St) : Src → Option Nat
  | .same b => some b
  | p => match valAt st p with
    | some (.ptr b 0 none _ _) => some b
    | _ => none
def fresh (acts : List Act) (own : Bool) (b : Nat) : Bool := acts.all fun a => !(a.id == some b) || !(own || a.own)
def actFresh (acts : List Act) (own : Bool) (ac : Act) : Bool := match ac.id with | some b => fresh acts own b | none => true
def isWhole (c : CapK) : Bool := match c with | .own | .whole => true | _ => false
def pinOk (chk : Bool) (pin op : Option Nat) (whole : Bool) : Bool := match pin with
  | none => true
  | some k => whole && (!chk || decide (op = some k))
def castE (e : EK) (d : EKs) : Option (List e.den) := if h : d.e = e then some (h ▸ d.l) else none
theorem castE_spec {e : EK} {d : EKs} {l : List e.den} (h : castE e d = some l) : d = ⟨e, l⟩ := by
  unfold castE at h
  split at h
  · rename_i he
    subst he
    cases h
    rfl
  · cases h
def drowSrc (st : St) (chk : Bool) (e : EK) (src : Src) (own : Bool) (pin : Option Nat) : Option (Act × List e.den) :=
  match src with
  | .same b => match st.heap[b]? with
    | some (some ⟨.drow d, o, op⟩) => if (own = true → o = true) ∧ pinOk chk pin op true = true then (match castE e d with | some l => some (⟨some b, true, own, true⟩, l) | none => none) else none
    | _ => none
  | src => match valAt st src with
    | some .nils => if pinOk chk pin none true = true then some (⟨none, true, own, true⟩, []) else none
    | some (.sl b _ _ s c) => if s = e.w ∧ (own = true → c = .own) ∧ isWhole c = true then
        match st.heap[b]? with
        | some (some ⟨.drow d, o, op⟩) => if (own = true → o = true) ∧ pinOk chk pin op true = true then (match castE e d with | some l => some (⟨some b, true, own, true⟩, l) | none => none) else none
        | _ => none
      else none
    | _ => none
def rowVal (st : St) (chk : Bool) (k : IntKind) (sz : Nat) (own : Bool) (pin : Option Nat) : Option AV → Option (Act × List Int)
  | some .nils => if pinOk chk pin none true = true then some (⟨none, true, own, true⟩, []) else none
  | some (.sl b off len s c) => if s = sz ∧ (own = true → c = .own) then
      match st.heap[b]? with
      | some (some ⟨_, o, op⟩) => if (own = true → o = true) ∧ pinOk chk pin op (isWhole c) = true then
          match wholeC st.heap (.sl b off len s c) with
          | some (.row k' l) => if k' = k then some (⟨some b, isWhole c, own, true⟩, l) else none
          | _ => none
        else none
      | _ => none
    else none
  | some (.fsl k' s l) => if s = sz ∧ k' = k ∧ own = false ∧ pin = none then some (⟨none, false, false, true⟩, l) else none
  | _ => none
def rowSrc (st : St) (chk : Bool) (k : IntKind) (sz : Nat) (src : Src) (own : Bool) (pin : Option Nat) : Option (Act × List Int) :=
  match src with
  | .same b => match st.heap[b]? with
    | some (some ⟨.row k' l, o, op⟩) => if k' = k ∧ (own = true → o = true) ∧ pinOk chk pin op true = true then some (⟨some b, true, own, true⟩, l) else none
    | _ => none
  | src => rowVal st chk k sz own pin (valAt st src)
def slOk (acts : List Act) (b sz : Nat) (c : CapK) (a : AV) : Bool :=
  match acts[b]?, a with
  | some ⟨some b', true, o, true⟩, .sl b'' _ _ s c' => (b'' == b') && (s == sz) && isWhole c' && (match c with | .own => (match c' with | .own => o | _ => false) | .whole => true | _ => false)
  | some ⟨none, true, o, true⟩, .nils => match c with | .own => o | .whole => true | _ => false
  | _, _ => false
def ptrOk (acts : List Act) (b w : Nat) (a : AV) : Bool :=
  match acts[b]?, a with
  | some ⟨some b', true, _, _⟩, .ptr b'' 0 none room _ => (b'' == b') && decide (w ≤ room)
  | _, _ => false
def ptrsOk (acts : List Act) : List (Nat × Nat) → List AV → Bool
  | [], [] => true
  | p :: ps, x :: xs => ptrOk acts p.1 p.2 x && ptrsOk acts ps xs
  | _, _ => false
def popC : (t : Ty) → List AV → Option (t.den × List AV)
  | .int k, xs => popInt k xs
  | .bool, .bool _ x :: r => some (x, r)
  | .is k n, xs => takeIs k n xs
  | .str, x :: r => match getStr x with
    | some l => some (l, r)
    | none => none
  | .fsl k sz, x :: r => match getFsl k sz x with
    | some l => some (l, r)
    | none => none
  | .dsl e, x :: r => match getDsl e x with
    | some l => some (l, r)
    | none => none
  | _, _ => none
def extC (st : St) (acts : List Act) : (cs : List CI) → (acc : List Ty) → D acc → List AV → Option (D (tysC cs acc))
  | [], _, rest, [] => some rest
  | .hole t :: r, acc, rest, xs => match popC t xs with
    | some (v, ys) => match extC st acts r acc rest ys with
      | some d => some (v, d)
      | none => none
    | none => none
  | .const a :: r, acc, rest, x :: xs => if sameA a x then extC st acts r acc rest xs else none
  | .sl b sz c :: r, acc, rest, x :: xs => if slOk acts b sz c x && decide (1 ≤ sz) then extC st acts r acc rest xs else none
  | .ptr b w :: r, acc, rest, x :: xs => if ptrOk acts b w x = true then extC st acts r acc rest xs else none
  | .fnp f ps :: r, acc, rest, x :: xs => match x with
    | .fn f' [] caps => if f' = f ∧ ptrsOk acts ps caps = true then extC st acts r acc rest xs else none
    | _ => none
  | _, _, _, _ => none
def extV (st : St) (acts : List Act) : (cs : List CI) → (acc : List Ty) → D acc → List AV → Option (D (tysC cs acc))
  | [], _, rest, [] => some rest
  | .hole t :: r, acc, rest, x :: xs => match getC t x, extV st acts r acc rest xs with
    | some v, some d => some (v, d)
    | _, _ => none
  | .const a :: r, acc, rest, x :: xs => if sameA a x then extV st acts r acc rest xs else none
  | .sl b sz c :: r, acc, rest, x :: xs => if slOk acts b sz c x && decide (1 ≤ sz) then extV st acts r acc rest xs else none
  | .ptr b w :: r, acc, rest, x :: xs => if ptrOk acts b w x = true then extV st acts r acc rest xs else none
  | .fnp f ps :: r, acc, rest, x :: xs => match x with
    | .fn f' [] caps => if f' = f ∧ ptrsOk acts ps caps = true then extV st acts r acc rest xs else none
    | _ => none
  | _, _, _, _ => none
def extI (st : St) (chk : Bool) : (its : List Item) → (acc : List Ty) → D acc → List Act → Option (D (tysI its acc))
  | [], _, rest, _ => some rest
  | .row k sz src own pin :: r, acc, rest, acts => match rowSrc st chk k sz src own pin with
    | some (act, l) => if 1 ≤ sz ∧ actFresh acts own act = true then
        (match extI st chk r acc rest (acts ++ [act]) with | some d => some (l, d) | none => none)
      else none
    | none => none
  | .drow e src own pin :: r, acc, rest, acts => match drowSrc st chk e src own pin with
    | some (act, l) => if actFresh acts own act = true then
        (match extI st chk r acc rest (acts ++ [act]) with | some d => some (l, d) | none => none)
      else none
    | none => none
  | .segs cs src own pin :: r, acc, rest, acts => match srcBlk st src with
    | some b => match st.heap[b]? with
      | some (some ⟨.segs xs, o, op⟩) => if (own = true → o = true) ∧ fresh acts own b = true ∧ pinOk chk pin op true = true then
          (match extI st chk r acc rest (acts ++ [⟨some b, true, own, false⟩]) with | some d => extC st acts cs (tysI r acc) d xs | none => none)
        else none
      | _ => none
    | none => none
  | .drop :: r, acc, rest, acts => extI st chk r acc rest (acts ++ [⟨none, false, false, false⟩])
  | .slot t ty :: r, acc, rest, acts => match getT ty (st.tmps.getD t .undef), extI st chk r acc rest acts with
    | some v, some d => some (v, d)
    | _, _ => none
  | .const t a :: r, acc, rest, acts => if sameA a (st.tmps.getD t .undef) then extI st chk r acc rest acts else none
  | .sl t b sz c :: r, acc, rest, acts => if slOk acts b sz c (st.tmps.getD t .undef) && decide (1 ≤ sz) then extI st chk r acc rest acts else none
  | .ptr t b w :: r, acc, rest, acts => if ptrOk acts b w (st.tmps.getD t .undef) = true then extI st chk r acc rest acts else none
  | .fn t f cs :: r, acc, rest, acts => match st.tmps.getD t .undef with
    | .fn f' [] caps => if f' = f then (match extI st chk r acc rest acts with | some d => extV st acts cs (tysI r acc) d caps | none => none) else none
    | _ => none
  | .cells t cs :: r, acc, rest, acts => match st.tmps.getD t .undef with
    | .agg xs => match extI st chk r acc rest acts with | some d => extC st acts cs (tysI r acc) d xs | none => none
    | _ => none
  | .ifc t T k :: r, acc, rest, acts => match st.tmps.getD t .undef with
    | .iface T' (.int k' _ x) => if T' = T ∧ k' = k then (match extI st chk r acc rest acts with | some d => some (x, d) | none => none) else none
    | _ => none
def actsI (st : St) (chk : Bool) : List Item → List Act
  | [] => []
  | .row k sz src own pin :: r => (match rowSrc st chk k sz src own pin with | some (act, _) => [act] | none => []) ++ actsI st chk r
  | .drow e src own pin :: r => (match drowSrc st chk e src own pin with | some (act, _) => [act] | none => []) ++ actsI st chk r
  | .segs _ src own _ :: r => (match srcBlk st src with | some b => [⟨some b, true, own, false⟩] | none => []) ++ actsI st chk r
  | .drop :: r => ⟨none, false, false, false⟩ :: actsI st chk r
  | _ :: r => actsI st chk r
def NoneOk (M : List Place) (ac : Act) (pl : Place) : Prop :=
  (ac.id = none → (ac.whole = true → pl = ⟨true, 0, 0, 0, 0, noFz⟩) ∧ (pl.nil = false → ac.own = false ∧ ∃ ob, FzAt M pl.blk ob)) ∧ ∀ k ob, pl.fz k = some ob → FzAt M k ob
def isRowC : Cont → Bool
  | .row _ _ | .drow _ => true
  | .segs _ => false
structure Told (M : List Place) (st : St) (B : Base) (w : World) (a : Array Value) (acts : List Act) (M1 : List Place) (st1 : St) : Prop where
  tmps : RelT M1 st1.tmps a
  heap : RelH M1 st1.heap B w
  len : acts.length = M1.length
  act : ∀ (i : Nat) (ac : Act), acts[i]? = some ac → ∃ p1, M1[i]? = some p1 ∧
    (∀ b, ac.id = some b → ∃ o p, st.heap[b]? = some (some o) ∧ M[b]? = some p ∧ p1.nil = p.nil ∧ p1.blk = p.blk ∧ (ac.own = true → o.own = true) ∧ (ac.whole = true → p1 = p)) ∧
    NoneOk M ac p1 ∧
    (∀ oi, st1.heap[i]? = some (some oi) → oi.own = ac.own) ∧
    (ac.row = true → ∃ c o pn, st1.heap[i]? = some (some ⟨c, o, pn⟩) ∧ isRowC c = true)
  fz : FzSub M M1
  zf : FzSub M1 M
theorem row_len {M1 : List Place} {H1 : Heap} {B : Base} {w : World} (r : RelH M1 H1 B w) {b : Nat} {c : Cont} {o : Bool} {pn : Option Nat} (h : H1[b]? = some (some ⟨c, o, pn⟩)) (hc : isRowC c = true) {p : Place} (hp : M1[b]? = some p) : rowLen H1 b = p.n := by
  obtain ⟨p', hp', hok⟩ := r.obj b _ h
  rw [hp] at hp'
  cases hp'
  unfold rowLen
  rw [h]
  rcases hok with ⟨_, n2, n3⟩ | ⟨_, cs, el, fz, _, h2, h3, h4, _⟩
  · cases c with
    | segs cs => cases hc
    | row k l =>
      have := congrArg List.length n3.1
      simp at this
      simp [this, n2]
    | drow d =>
      have := n3.1
      simp only [List.length_nil] at this
      simp only [mul1_eq]
      omega
  · cases c with
    | segs cs => cases hc
    | row k l =>
      have := congrArg List.length h4.1
      simp at this
      simp only
      omega
    | drow d =>
      have := h4.1
      simp at this
      simp only [mul1_eq]
      omega
theorem div_len {n len sz : Nat} (h : n = len * sz) (hs : 1 ≤ sz) : div1 n sz = len := by
  rw [div1_eq, h, Nat.mul_div_cancel _ (by omega)]
theorem slOk_sound {M : List Place} {st : St} {B : Base} {w : World} {a : Array Value} {acts : List Act} {M1 : List Place} {st1 : St} (t : Told M st B w a acts M1 st1) {b sz : Nat} {c : CapK} {x : AV} {v : Value} (h : slOk acts b sz c x = true) (hs : 1 ≤ sz) (hx : RelV M x v) :
    RelV M1 (.sl b 0 (div1 (rowLen st1.heap b) sz) sz c) v := by
  unfold slOk at h
  split at h
  · rename_i b' o b'' off len s c' ha
    simp only [Bool.and_eq_true, beq_iff_eq] at h
    obtain ⟨⟨⟨rfl, rfl⟩, hw⟩, hc⟩ := h
    obtain ⟨p1, hp1, hid, _, hown1, hrow⟩ := t.act b _ ha
    obtain ⟨o', p, ho', hp, _, _, _, hwh⟩ := hid b'' rfl
    have := hwh rfl
    subst this
    obtain ⟨c2, o2, pn, hr, hrc⟩ := hrow rfl
    have hlen := row_len t.heap hr hrc hp1
    simp only [RelV, RelX] at hx ⊢
    obtain ⟨pl, A, cap, hpl, hv, hb, hcap, hnil, hnn, hfull, hown, hwhole, hhas⟩ := hx
    rw [hp] at hpl
    cases hpl
    have h0 : off = 0 ∧ len * s = p1.n := by
      cases c' <;> simp [isWhole] at hw
      · exact ⟨(hown rfl).1, (hown rfl).2.2.1⟩
      · exact hwhole rfl
    have hdiv : div1 (rowLen st1.heap b) s = len := div_len (by omega) hs
    rw [hdiv]
    obtain ⟨rfl, h0⟩ := h0
    refine ⟨p1, A, cap, hp1, hv, hb, hcap, fun hn => ⟨fun hf => (by subst hf; cases c' <;> simp at hc; exact (hnil hn).1 rfl), (hnil hn).2⟩, fun hn => ⟨(hnn hn).1, fun hq => ?_⟩, fun hf => ?_, fun hf => ?_, fun hf => ⟨trivial, h0⟩, hhas⟩
    · rcases hq with hq | hq
      · exact (hnn hn).2 (.inl hq)
      · subst hq
        cases c' <;> simp at hc
        exact (hnn hn).2 (.inr rfl)
    · subst hf
      simp at hc
    · subst hf
      cases c' <;> simp at hc
      exact ⟨trivial, (hown rfl).2⟩
  · rename_i o ha
    obtain ⟨p1, hp1, _, hnone, _, hrow⟩ := t.act b _ ha
    have hn := (hnone.1 rfl).1 rfl
    subst hn
    obtain ⟨c2, o2, pn, hr, hrc⟩ := hrow rfl
    have hlen := row_len t.heap hr hrc hp1
    have hdiv : div1 (rowLen st1.heap b) sz = 0 := div_len (by simpa using hlen) hs
    have hv : v = .slice none 0 0 := by simpa [RelV, RelX] using hx
    subst hv
    rw [hdiv]
    simp only [RelV, RelX]
    refine ⟨_, none, 0, hp1, rfl, by simp, Nat.le_refl _, fun _ => ⟨fun _ => rfl, rfl⟩, fun h => (by cases h), fun hf => (by subst hf; simp at h), fun _ => ⟨trivial, rfl, by simp, by simp⟩, fun _ => ⟨trivial, by simp⟩, by rw [has_iff]; simp [loB, hiB]⟩
  · cases h
theorem ptrOk_sound {M : List Place} {st : St} {B : Base} {w : World} {a : Array Value} {acts : List Act} {M1 : List Place} {st1 : St} (t : Told M st B w a acts M1 st1) {b wd : Nat} {x : AV} (h : ptrOk acts b wd x = true) {v : Value} (hx : RelV M x v) : RelV M1 (.ptr b 0 none wd wd) v := by
  unfold ptrOk at h
  split at h
  · rename_i b' o rw' b'' room span ha
    simp only [Bool.and_eq_true, beq_iff_eq, decide_eq_true_eq] at h
    obtain ⟨rfl, hw⟩ := h
    obtain ⟨p1, hp1, hid, _, _, _⟩ := t.act b _ ha
    obtain ⟨o', p, _, hpp, _, _, _, hwh⟩ := hid _ rfl
    have := hwh rfl
    subst this
    simp only [RelV, RelX] at hx ⊢
    obtain ⟨pl, hpl, hnil, hv, hd1, hd2⟩ := hx
    rw [hpp] at hpl
    cases hpl
    simp only [Option.getD_none, Nat.add_zero, Nat.zero_add] at *
    exact ⟨p1, hp1, hnil, hv, Nat.le_refl _, by omega⟩
  · cases h
theorem popC_rel {M M' : List Place} {t : Ty} (hz : t.deep = true → FzSub M M') {xs : List AV} {vs : List Value} {x : t.den} {ys : List AV} (h : popC t xs = some (x, ys)) (hr : RelC M xs vs) : ∃ a r, vs = a ++ r ∧ RelX M' (mkC t x) a ∧ RelC M ys r := by
  cases t with
  | int k => exact pop1_rel (t := .int k) (fun h => by cases h) h hr
  | bool =>
    refine pop1_rel (t := .bool) (fun h => by cases h) (ys := ys) (x := x) ?_ hr
    cases xs with
    | nil => simp [popC] at h
    | cons c r => cases c <;> simp only [popC, reduceCtorEq] at h <;> exact h
  | is k n => exact pop1_rel (t := .is k n) (fun h => by cases h) h hr
  | row k => simp [popC] at h
  | agg cs => simp [popC] at h
  | drow e => simp [popC] at h
  | mapc i => simp [popC] at h
  | str => cases xs with
    | nil => simp [popC] at h
    | cons c r => exact pop1_rel (t := .str) (xs := c :: r) (fun h => by cases h) h hr
  | fsl k sz => cases xs with
    | nil => simp [popC] at h
    | cons c r => exact pop1_rel (t := .fsl k sz) (xs := c :: r) (fun _ => hz rfl) h hr
  | dsl e => cases xs with
    | nil => simp [popC] at h
    | cons c r => exact pop1_rel (t := .dsl e) (xs := c :: r) (fun _ => hz rfl) h hr
theorem mkC_mono {M M' : List Place} {t : Ty} (hz : t.deep = true → FzSub M M') {x : t.den} {a : List Value} (h : RelX M (mkC t x) a) : RelX M' (mkC t x) a := by
  cases t with
  | fsl k sz => exact getFsl_rel (a := .fsl k sz x) (hz rfl) (by simp [getFsl]) h
  | dsl e => exact getDsl_rel (a := .dsl ⟨e, x⟩) (hz rfl) (by simp [getDsl]) h
  | _ => simpa only [mkC, RelX] using h
theorem ptrsOk_sound {M : List Place} {st : St} {B : Base} {w : World} {a : Array Value} {acts : List Act} {M1 : List Place} {st1 : St} (t : Told M st B w a acts M1 st1) : ∀ {ps : List (Nat × Nat)} {xs : List AV} {vs : List Value}, ptrsOk acts ps xs = true → RelL M xs vs →
    RelL M1 (ps.map fun p => .ptr p.1 0 none p.2 p.2) vs
  | [], [], vs, _, h => by rw [RelL_nil] at h; exact RelL_nil.2 h
  | [], _ :: _, vs, h, _ => by simp [ptrsOk] at h
  | _ :: _, [], vs, h, _ => by simp [ptrsOk] at h
  | p :: ps, x :: xs, vs, h, hl => by
    simp only [ptrsOk, Bool.and_eq_true] at h
    obtain ⟨v, r, rfl, hx, hr⟩ := RelL_cons.1 hl
    exact RelL_cons.2 ⟨v, r, rfl, ptrOk_sound t h.1 hx, ptrsOk_sound t h.2 hr⟩
theorem fnp_sound {M : List Place} {st : St} {B : Base} {w : World} {a : Array Value} {acts : List Act} {M1 : List Place} {st1 : St} (t : Told M st B w a acts M1 st1) {f : FuncId} {ps : List (Nat × Nat)} {caps : List AV} (h : ptrsOk acts ps caps = true) {v : Value} (hx : RelV M (.fn f [] caps) v) :
    RelV M1 (.fn f [] (ps.map fun p => .ptr p.1 0 none p.2 p.2)) v := by
  simp only [RelV, RelX] at hx ⊢
  obtain ⟨x, y, hv, h1, h2⟩ := hx
  exact ⟨x, y, hv, by rw [RelL_nil] at h1 ⊢; exact h1, ptrsOk_sound t h h2⟩
theorem extC_sound {M : List Place} {st : St} {B : Base} {w : World} {a : Array Value} {acts : List Act} {M1 : List Place} {st1 : St} (t : Told M st B w a acts M1 st1) : ∀ {cs : List CI} {acc : List Ty} {rest : D acc} {xs : List AV} {vs : List Value} {d : D (tysC cs acc)},
    extC st acts cs acc rest xs = some d → RelC M xs vs → RelC M1 (bldC st1.heap cs acc d).1 vs ∧ (bldC st1.heap cs acc d).2 = rest
  | [], acc, rest, xs, vs, d, h, hr => by
    cases xs with
    | nil =>
      simp only [extC, Option.some.injEq] at h
      subst h
      exact ⟨by simpa [bldC, RelC_nil] using hr, rfl⟩
    | cons _ _ => simp [extC] at h
  | .hole ty :: cs, acc, rest, xs, vs, d, h, hr => by
    simp only [extC] at h
    split at h
    · rename_i v ys hp
      split at h
      · rename_i d' hd
        cases h
        obtain ⟨a, r, rfl, h1, h2⟩ := popC_rel (M' := M1) (fun _ => t.fz) hp hr
        obtain ⟨i1, i2⟩ := extC_sound t hd h2
        exact ⟨RelC_cons.2 ⟨a, r, rfl, h1, i1⟩, i2⟩
      · cases h
    · cases h
  | .const _ :: cs, acc, rest, [], vs, d, h, hr => by simp [extC] at h
  | .sl _ _ _ :: cs, acc, rest, [], vs, d, h, hr => by simp [extC] at h
  | .ptr _ _ :: cs, acc, rest, [], vs, d, h, hr => by simp [extC] at h
  | .fnp _ _ :: cs, acc, rest, [], vs, d, h, hr => by simp [extC] at h
  | c :: cs, acc, rest, x :: xs, vs, d, h, hr => by
    obtain ⟨u, r, rfl, hx, hr'⟩ := RelC_cons.1 hr
    cases c with
    | hole ty =>
      simp only [extC] at h
      split at h
      · rename_i v ys hp
        split at h
        · rename_i d' hd
          cases h
          obtain ⟨a, r', e, h1, h2⟩ := popC_rel (M' := M1) (fun _ => t.fz) hp hr
          obtain ⟨i1, i2⟩ := extC_sound t hd h2
          exact ⟨RelC_cons.2 ⟨a, r', e, h1, i1⟩, i2⟩
        · cases h
      · cases h
    | const k =>
      simp only [extC] at h
      split at h
      · rename_i hs
        obtain ⟨i1, i2⟩ := extC_sound t h hr'
        have : ∃ v, u = [v] := by
          have hl := RelX_length hx
          have : width x = 1 := by
            cases x <;> first | rfl | (exfalso; cases k <;> simp [sameA] at hs)
          rw [this] at hl
          exact List.length_eq_one_iff.1 hl
        obtain ⟨v, rfl⟩ := this
        exact ⟨RelC_cons.2 ⟨[v], r, rfl, sameA_rel hs hx, i1⟩, i2⟩
      · cases h
    | sl b sz cc =>
      simp only [extC, Bool.and_eq_true, decide_eq_true_eq] at h
      split at h
      · rename_i hs
        obtain ⟨i1, i2⟩ := extC_sound t h hr'
        have : ∃ v, u = [v] := by
          have hl := RelX_length hx
          have : width x = 1 := by
            have := hs.1
            unfold slOk at this
            split at this <;> first | rfl | (cases this)
          rw [this] at hl
          exact List.length_eq_one_iff.1 hl
        obtain ⟨v, rfl⟩ := this
        exact ⟨RelC_cons.2 ⟨[v], r, rfl, slOk_sound t hs.1 hs.2 hx, i1⟩, i2⟩
      · cases h
    | fnp f ps =>
      simp only [extC] at h
      split at h
      · rename_i f' caps
        split at h
        · rename_i hs
          obtain ⟨rfl, hs⟩ := hs
          obtain ⟨i1, i2⟩ := extC_sound t h hr'
          have hx2 : ∃ v, u = [v] := by
            have hl := RelX_length hx
            exact List.length_eq_one_iff.1 hl
          obtain ⟨v, rfl⟩ := hx2
          exact ⟨RelC_cons.2 ⟨[v], r, rfl, fnp_sound t hs hx, i1⟩, i2⟩
        · cases h
      · cases h
    | ptr b wd =>
      simp only [extC] at h
      split at h
      · rename_i hs
        obtain ⟨i1, i2⟩ := extC_sound t h hr'
        have : ∃ v, u = [v] := by
          have hl := RelX_length hx
          have : width x = 1 := by
            have := hs
            unfold ptrOk at this
            split at this <;> first | rfl | (cases this)
          rw [this] at hl
          exact List.length_eq_one_iff.1 hl
        obtain ⟨v, rfl⟩ := this
        exact ⟨RelC_cons.2 ⟨[v], r, rfl, ptrOk_sound t hs hx, i1⟩, i2⟩
      · cases h
theorem extL_sound {M : List Place} {st : St} {B : Base} {w : World} {a : Array Value} {acts : List Act} {M1 : List Place} {st1 : St} (t : Told M st B w a acts M1 st1) : ∀ {cs : List CI} {acc : List Ty} {rest : D acc} {xs : List AV} {vs : List Value} {d : D (tysC cs acc)},
    extV st acts cs acc rest xs = some d → RelL M xs vs → RelL M1 (bldC st1.heap cs acc d).1 vs ∧ (bldC st1.heap cs acc d).2 = rest
  | [], acc, rest, xs, vs, d, h, hr => by
    cases xs with
    | nil =>
      simp only [extV, Option.some.injEq] at h
      subst h
      exact ⟨by simpa [bldC, RelL_nil] using hr, rfl⟩
    | cons _ _ => simp [extV] at h
  | c :: cs, acc, rest, [], vs, d, h, hr => by cases c <;> simp [extV] at h
  | c :: cs, acc, rest, x :: xs, vs, d, h, hr => by
    obtain ⟨v, r, rfl, hx, hr'⟩ := RelL_cons.1 hr
    cases c with
    | hole ty =>
      simp only [extV] at h
      split at h
      · rename_i y d' hv hd
        cases h
        obtain ⟨i1, i2⟩ := extL_sound t hd hr'
        exact ⟨RelL_cons.2 ⟨v, r, rfl, getC_rel (fun _ => t.fz) hv hx, i1⟩, i2⟩
      · cases h
    | const k =>
      simp only [extV] at h
      split at h
      · rename_i hs
        obtain ⟨i1, i2⟩ := extL_sound t h hr'
        exact ⟨RelL_cons.2 ⟨v, r, rfl, sameA_rel hs hx, i1⟩, i2⟩
      · cases h
    | sl b sz cc =>
      simp only [extV, Bool.and_eq_true, decide_eq_true_eq] at h
      split at h
      · rename_i hs
        obtain ⟨i1, i2⟩ := extL_sound t h hr'
        exact ⟨RelL_cons.2 ⟨v, r, rfl, slOk_sound t hs.1 hs.2 hx, i1⟩, i2⟩
      · cases h
    | ptr b wd =>
      simp only [extV] at h
      split at h
      · rename_i hs
        obtain ⟨i1, i2⟩ := extL_sound t h hr'
        exact ⟨RelL_cons.2 ⟨v, r, rfl, ptrOk_sound t hs hx, i1⟩, i2⟩
      · cases h
    | fnp f ps =>
      simp only [extV] at h
      split at h
      · rename_i f' caps
        split at h
        · rename_i hs
          obtain ⟨rfl, hs⟩ := hs
          obtain ⟨i1, i2⟩ := extL_sound t h hr'
          exact ⟨RelL_cons.2 ⟨v, r, rfl, fnp_sound t hs hx, i1⟩, i2⟩
        · cases h
      · cases h
theorem Told.add {M : List Place} {st : St} {B : Base} {w : World} {a : Array Value} {acts : List Act} {M1 : List Place} {st1 : St} (t : Told M st B w a acts M1 st1) (hH : RelH M st.heap B w) {ac : Act} {pl : Place} {o : AObj} (hok : ObjOk M1 o pl B w) (hown : o.own = ac.own)
    (hid : ∀ b, ac.id = some b → fresh acts ac.own b = true ∧ ∃ o' p, st.heap[b]? = some (some o') ∧ M[b]? = some p ∧ pl.nil = p.nil ∧ pl.blk = p.blk ∧ (ac.own = true → o'.own = true) ∧ (ac.whole = true → pl = p)) (hpin : ∀ k, o.pin = some k → B.pin k pl)
    (hnone : NoneOk M ac pl) (hrow : ac.row = true → isRowC o.c = true) {ts : List AV} (hts : RelT (M1 ++ [pl]) ts a) :
    Told M st B w a (acts ++ [ac]) (M1 ++ [pl]) ⟨ts, st1.heap ++ [some o]⟩ := by
  have hlen := t.len
  have hlen1 := t.heap.len
  have hvis : pl.nil = false → B.vis pl.blk := by
    intro hn
    cases hab : ac.id with
    | none =>
      obtain ⟨ob, h⟩ := ((hnone.1 hab).2 hn).2
      exact (hH.fz _ _ h).2.1
    | some b2 =>
      obtain ⟨_, o2, q2, ho2, hq2, hn2, hb2, _⟩ := hid b2 hab
      rw [hb2]
      exact hH.vis b2 o2 q2 ho2 hq2 (by rw [← hn2]; exact hn)
  have hz1 : ∀ k ob, pl.fz k = some ob → FzAt M1 k ob := fun k ob h => t.fz k ob (hnone.2 k ob h)
  refine ⟨hts, t.heap.addS hok hpin hvis (fun i oi pi hi hpi hor hni hnp => ?_) hz1 (fun how hn => ?_), by simp [hlen], fun i ac' hac => ?_, fun k ob h => (t.fz k ob h).left _, fun k ob h => t.zf k ob (FzAt.snocS hz1 h)⟩
  · 
    have hi1 : i < acts.length := by rw [hlen]; exact (List.getElem?_eq_some_iff.1 hpi).1
    obtain ⟨p1, hp1, hid1, hnone1, hown1, _⟩ := t.act i acts[i] (List.getElem?_eq_getElem hi1)
    rw [hpi] at hp1
    cases hp1
    have hoi := hown1 oi hi
    cases hai : (acts[i]).id with
    | none =>
      obtain ⟨q1, ob, q2⟩ := (hnone1.1 hai).2 hni
      rw [q1] at hoi
      cases hab : ac.id with
      | none =>
        have := ((hnone.1 hab).2 hnp).1
        rcases hor with h | h
        · rw [hoi] at h; cases h
        · rw [hown, this] at h; cases h
      | some b2 =>
        obtain ⟨_, o2, q2', ho2, hq2, hn2, hb2, hw2, _⟩ := hid b2 hab
        rcases hor with h | h
        · rw [hoi] at h; cases h
        · intro e
          exact (hH.fo b2 o2 q2' ho2 hq2 (hw2 (by rw [← hown]; exact h)) (by rw [← hn2]; exact hnp)).2 ob (by rw [← hb2, ← e]; exact q2)
    | some b1 =>
      obtain ⟨o1, q1, ho1, hq1, hn1, hb1, hw1, _⟩ := hid1 b1 hai
      cases hab : ac.id with
      | none =>
        obtain ⟨q1, ob, q2⟩ := (hnone.1 hab).2 hnp
        rcases hor with h | h
        · intro e
          exact (hH.fo b1 o1 _ ho1 hq1 (hw1 (by rw [← hoi]; exact h)) (by rw [← hn1]; exact hni)).2 ob (by rw [← hb1, e]; exact q2)
        · rw [hown, q1] at h; cases h
      | some b2 =>
        obtain ⟨hf, o2, q2, ho2, hq2, hn2, hb2, hw2, _⟩ := hid b2 hab
        rw [hb1, hb2]
        have hne : b1 ≠ b2 := by
          intro e
          subst e
          have := List.all_eq_true.1 hf acts[i] (List.getElem_mem hi1)
          simp only [hai, beq_self_eq_true, Bool.not_true, Bool.false_or, Bool.not_eq_true', Bool.or_eq_false_iff] at this
          rcases hor with h | h
          · rw [hoi] at h; rw [this.2] at h; cases h
          · rw [hown] at h; rw [this.1] at h; cases h
        rcases hor with h | h
        · exact hH.sep b1 b2 o1 o2 q1 q2 ho1 ho2 hq1 hq2 hne (hw1 (by rw [← hoi]; exact h)) (by rw [← hn1]; exact hni) (by rw [← hn2]; exact hnp)
        · exact fun e => hH.sep b2 b1 o2 o1 q2 q1 ho2 ho1 hq2 hq1 (fun e => hne e.symm) (hw2 (by rw [← hown]; exact h)) (by rw [← hn2]; exact hnp) (by rw [← hn1]; exact hni) e.symm
  · cases hab : ac.id with
    | none =>
      have := ((hnone.1 hab).2 hn).1
      rw [hown, this] at how
      cases how
    | some b2 =>
      obtain ⟨_, o2, q2, ho2, hq2, hn2, hb2, hw2, _⟩ := hid b2 hab
      obtain ⟨f1, f2⟩ := hH.fo b2 o2 q2 ho2 hq2 (hw2 (by rw [← hown]; exact how)) (by rw [← hn2]; exact hn)
      rw [hb2]
      exact ⟨f1, fun ob h => f2 ob (t.zf _ _ h)⟩
  · rw [List.getElem?_append] at hac
    split at hac
    · rename_i hlt
      obtain ⟨p1, hp1, h1, h2, h3, h4⟩ := t.act i ac' hac
      refine ⟨p1, by rw [List.getElem?_append_left (by omega)]; exact hp1, h1, h2, fun oi hoi => ?_, fun hr => ?_⟩
      · rw [List.getElem?_append_left (by omega)] at hoi
        exact h3 oi hoi
      · obtain ⟨c', o', pn', ho', hc'⟩ := h4 hr
        exact ⟨c', o', pn', by rw [List.getElem?_append_left (by omega)]; exact ho', hc'⟩
    · rename_i hge
      have h0 : i - acts.length = 0 := by
        rcases Nat.eq_zero_or_pos (i - acts.length) with h | h
        · exact h
        · rw [List.getElem?_eq_none (by simp; omega)] at hac; cases hac
      rw [h0] at hac
      simp at hac
      subst hac
      have hi : i = M1.length := by omega
      subst hi
      have hlast : (st1.heap ++ [some o])[M1.length]? = some (some o) := by rw [← hlen1]; simp
      refine ⟨pl, by simp, fun b hb => (hid b hb).2, hnone, fun oi hoi => ?_, fun hr => ?_⟩
      · rw [hlast] at hoi
        cases hoi
        exact hown
      · exact ⟨o.c, o.own, o.pin, hlast, hrow hr⟩
theorem pin_sound {M : List Place} {H : Heap} {B : Base} {w : World} (hH : RelH M H B w) {chk : Bool} (hB : chk = false → ∀ k pl, B.pin k pl) {pin : Option Nat} {o : AObj} {b : Nat} {p : Place} (ho : H[b]? = some (some o)) (hp : M[b]? = some p) {whole : Bool} (h : pinOk chk pin o.pin whole = true) {pl : Place} (hw : whole = true → pl = p) :
    ∀ k, pin = some k → B.pin k pl := by
  rintro k rfl
  simp only [pinOk, Bool.and_eq_true, Bool.or_eq_true, Bool.not_eq_true', decide_eq_true_eq] at h
  rcases h with ⟨h1, h2 | h2⟩
  · exact hB h2 k pl
  · rw [hw h1]
    exact hH.pin b o p k ho hp h2
theorem cellAt1_relL {M : List Place} : ∀ {cs : List AV} {vs : List Value} {j : Nat} {x : AV}, RelL M cs vs → cellOf.cellAt1 cs j = some x → ∃ us, RelX M x us
  | [], _, _, _, _, h => by simp [cellOf.cellAt1] at h
  | c :: cs, vs, 0, x, hr, h => by
    obtain ⟨a, t, rfl, hx, _⟩ := RelL_cons.1 hr
    simp [cellOf.cellAt1] at h
    subst h
    exact ⟨[a], hx⟩
  | c :: cs, vs, j + 1, x, hr, h => by
    obtain ⟨a, t, rfl, _, hr'⟩ := RelL_cons.1 hr
    exact cellAt1_relL hr' (by simpa [cellOf.cellAt1] using h)
theorem valAt_rel {M : List Place} {st : St} {B : Base} {w : World} {a : Array Value} (ht : RelT M st.tmps a) (hH : RelH M st.heap B w) : ∀ {p : Src} {x : AV}, valAt st p = some x → ∃ vs, RelX M x vs
  | .same _, x, h => by simp [valAt] at h
  | .slot t, x, h => by
    simp only [valAt, Option.some.injEq] at h
    subst h
    exact ⟨_, ht.2 t⟩
  | .cell p j, x, h => by
    simp only [valAt] at h
    split at h
    · split at h
      · rename_i cs o pn hob
        obtain ⟨pl, _, hok⟩ := hH.obj _ _ hob
        have : ∃ vs, RelC M cs vs := by
          rcases hok with ⟨_, _, n3⟩ | ⟨_, cs', el, fz, _, h2, h3, h4, _⟩
          · exact ⟨_, n3⟩
          · exact ⟨_, h4⟩
        obtain ⟨vs, hvs⟩ := this
        obtain ⟨v, _, hv⟩ := cellAt_rel hvs h
        exact ⟨[v], hv⟩
      · cases h
    · cases h
  | .cap p j, x, h => by
    simp only [valAt] at h
    split at h
    · rename_i f caps hp
      obtain ⟨vs, hvs⟩ := valAt_rel ht hH hp
      simp only [RelX] at hvs
      obtain ⟨x', y, _, _, h2⟩ := hvs
      exact cellAt1_relL h2 h
    · cases h
  | .part p j, x, h => by
    simp only [valAt] at h
    split at h
    · rename_i cs hp
      obtain ⟨vs, hvs⟩ := valAt_rel ht hH hp
      obtain ⟨us, _, h2⟩ := RelX_agg.1 hvs
      obtain ⟨v, _, hv⟩ := cellAt_rel h2 h
      exact ⟨[v], hv⟩
    · cases h
theorem rowSrc_sound {M : List Place} {st : St} {B : Base} {w : World} {a : Array Value} (ht : RelT M st.tmps a) (hH : RelH M st.heap B w) {chk : Bool} (hB : chk = false → ∀ k pl, B.pin k pl) {acts : List Act} {M1 : List Place} {st1 : St} (t : Told M st B w a acts M1 st1) {k : IntKind} {sz : Nat} {src : Src} {own : Bool} {pin : Option Nat} {ac : Act} {l : List Int}
    (h : rowSrc st chk k sz src own pin = some (ac, l)) (hs : 1 ≤ sz) (hf : actFresh acts own ac = true) :
    ∃ pl, Told M st B w a (acts ++ [ac]) (M1 ++ [pl]) ⟨setSrc st1.tmps src st1.heap.length l.length sz own, st1.heap ++ [some ⟨.row k l, own, pin⟩]⟩ := by
  have hE : ∀ pl, Ext M1 (M1 ++ [pl]) := fun pl => Ext.snoc M1 _
  have slice : ∀ (x : AV) (v : Value), RelV M x v → rowVal st chk k sz own pin (some x) = some (ac, l) →
      ∃ pl, ObjOk M1 ⟨.row k l, own, pin⟩ pl B w ∧ ac.own = own ∧ ac.row = true ∧ (∀ k, pin = some k → B.pin k pl) ∧
        (∀ b, ac.id = some b → ∃ o' p, st.heap[b]? = some (some o') ∧ M[b]? = some p ∧ pl.nil = p.nil ∧ pl.blk = p.blk ∧ (ac.own = true → o'.own = true) ∧ (ac.whole = true → pl = p)) ∧
        NoneOk M ac pl ∧ RelV (M1 ++ [pl]) (.sl st1.heap.length 0 (div1 l.length sz) sz (if own then .own else .whole)) v := by
    intro x v hx hq
    unfold rowVal at hq
    split at hq
    · rename_i hxn
      cases hxn
      split at hq
      case isFalse => cases hq
      rename_i hpk
      cases hq
      have hv : v = .slice none 0 0 := by simpa [RelV, RelX] using hx
      subst hv
      refine ⟨⟨true, 0, 0, 0, 0, noFz⟩, .inl ⟨rfl, rfl, by simp [RelO]⟩, rfl, rfl, ?_, fun b hb => (by cases hb), ⟨fun _ => ⟨fun _ => rfl, fun h => by cases h⟩, fun k ob h => by cases h⟩, ?_⟩
      · rintro k' rfl
        simp only [pinOk, Bool.and_eq_true, Bool.or_eq_true, Bool.not_eq_true', decide_eq_true_eq] at hpk
        rcases hpk with ⟨_, h2 | h2⟩
        · exact hB h2 _ _
        · cases h2
      rw [div_len (n := ([] : List Int).length) (len := 0) (by simp) hs]
      simp only [RelV, RelX]
      refine ⟨⟨true, 0, 0, 0, 0, noFz⟩, none, 0, by rw [t.heap.len]; simp, rfl, by simp, Nat.le_refl _, fun _ => ⟨fun _ => rfl, rfl⟩, fun h => (by cases h), fun hf => (by cases own <;> simp at hf), fun _ => ⟨trivial, rfl, by simp, by simp⟩, fun _ => ⟨trivial, by simp⟩, by rw [has_iff]; simp [loB, hiB]⟩
    · rename_i b off len s c hxs
      cases hxs
      split at hq
      · rename_i hcond
        obtain ⟨rfl, hco⟩ := hcond
        split at hq
        · rename_i oc o op hob
          split at hq
          · rename_i hoo
            obtain ⟨hoo, hpk⟩ := hoo
            split at hq
            · rename_i k' l' hwc
              split at hq
              · rename_i hk
                subst hk
                cases hq
                obtain ⟨us, hus, lus⟩ := wholeC_rel hH hx hwc (fun _ _ _ _ _ e => by cases e; rfl)
                obtain ⟨pl0, hpl0, hok0⟩ := hH.obj b _ hob
                have hx0 := hx
                simp only [RelV, RelX] at hx0
                obtain ⟨pl, A, cap, hpl, hv, hb, hcap, hnil, hnn, hfull, hown, hwhole, hhas⟩ := hx0
                rw [hpl0] at hpl
                cases hpl
                have hv : v = .slice A len cap := by simpa using hv
                have hlus := lus.1
                simp only [slLen] at hlus
                have hll : l.length = len * s := by have := congrArg List.length hus.1; simp at this; omega
                have hdiv := div_len hll hs
                rw [hdiv]
                have hcells : pl0.nil = false → ∃ cs el fz, w.heap[pl0.blk]? = some (.cells cs el fz) ∧ cs.size = pl0.size ∧ pl0.off + pl0.n ≤ pl0.size ∧ us = (cs.toList.drop (pl0.off + off)).take (len * s) ∧ (o = true → FzOk fz cs.size ∧ pl0.off = 0 ∧ B.w pl0.blk) := by
                  intro hn
                  rcases hok0 with ⟨n1, _⟩ | ⟨_, cs, el, fz, g1, g2, g3, g4, g5⟩
                  · rw [hn] at n1; cases n1
                  · refine ⟨cs, el, fz, g1, g2, g3, ?_, g5⟩
                    obtain ⟨_, A2, cap2, hv2, _, hm⟩ := lus
                    simp only [slLen] at hv2 hm
                    by_cases hz : len * s = 0
                    · rw [hz] at hlus ⊢
                      have : us = [] := List.eq_nil_of_length_eq_zero hlus
                      rw [this]; simp
                    · rcases hm with hm | ⟨blk, o2, cs2, el2, fz2, e, hg2, hle2, hus2⟩
                      · exact absurd hm hz
                      · have hl0 : 0 < len := by
                          rcases Nat.eq_zero_or_pos len with h0 | h0
                          · rw [h0] at hz; simp at hz
                          · exact h0
                        have hA := (hnn hn).2 (.inl hl0)
                        rw [hv] at hv2
                        injection hv2 with e1
                        rw [← e1, hA] at e
                        injection e with e
                        injection e with e2 e3
                        rw [← e2, g1] at hg2
                        cases hg2
                        rw [hus2, ← e3]
                cases hw : isWhole c with
                | true =>
                  have h0 : off = 0 ∧ len * s = pl0.n := by
                    cases c <;> simp [isWhole] at hw
                    · exact ⟨(hown rfl).1, (hown rfl).2.2.1⟩
                    · exact hwhole rfl
                  obtain ⟨rfl, h0⟩ := h0
                  refine ⟨pl0, ?_, rfl, rfl, pin_sound hH hB hob hpl0 hpk (fun _ => rfl), fun b' hb' => (by cases hb'; exact ⟨_, pl0, hob, hpl0, rfl, rfl, hoo, fun _ => rfl⟩), ⟨fun h => (by cases h), fun k ob h => ⟨b, pl0, hpl0, h⟩⟩, ?_⟩
                  · cases hn : pl0.nil with
                    | true =>
                      have h1 := (hnil hn).2
                      have : l = [] := List.eq_nil_of_length_eq_zero (by rw [hll]; have h3 : len = 0 := (by omega); simp [h3])
                      subst this
                      refine .inl ⟨hn, ?_, by simp [RelO]⟩
                      rcases hok0 with ⟨_, n2, _⟩ | ⟨n1, _⟩
                      · exact n2
                      · rw [hn] at n1; cases n1
                    | false =>
                      obtain ⟨cs, el, fz, g1, g2, g3, g4, g5⟩ := hcells hn
                      refine .inr ⟨hn, cs, el, fz, g1, g2, g3, ?_, fun ho => g5 (hoo ho)⟩
                      rw [← h0]
                      simp only [Nat.add_zero] at g4
                      rw [← g4]
                      exact hus
                  · simp only [RelV, RelX]
                    refine ⟨pl0, A, cap, by rw [t.heap.len]; simp, by rw [hv], by rw [Nat.zero_add]; exact Nat.le_of_eq h0, hcap, fun hn => ⟨fun hf => (hnil hn).1 (hco (by cases own with | true => rfl | false => simp at hf)), (hnil hn).2⟩, fun hn => ⟨(hnn hn).1, fun hq => ?_⟩, fun hf => (by cases own <;> simp at hf), fun hf => ?_, fun _ => ⟨trivial, h0⟩, hhas⟩
                    · rcases hq with hq | hq
                      · exact (hnn hn).2 (.inl hq)
                      · have : own = true := by cases own with | true => rfl | false => simp at hq
                        exact (hnn hn).2 (.inr (hco this))
                    · have : own = true := by cases own with | true => rfl | false => simp at hf
                      exact ⟨trivial, (hown (hco this)).2⟩
                | false =>
                  have hno : own = false := by
                    cases own with
                    | false => rfl
                    | true => have := hco rfl; subst this; simp [isWhole] at hw
                  subst hno
                  refine ⟨⟨pl0.nil, pl0.blk, pl0.off + off, len * s, pl0.size, noFz⟩, ?_, rfl, rfl, pin_sound hH hB hob hpl0 (whole := isWhole c) hpk (fun h => by rw [hw] at h; cases h), fun b' hb' => (by cases hb'; exact ⟨_, pl0, hob, hpl0, rfl, rfl, hoo, fun h => (by cases h)⟩), ⟨fun h => (by cases h), fun k ob h => by cases h⟩, ?_⟩
                  · cases hn : pl0.nil with
                    | true =>
                      have h1 := (hnil hn).2
                      have hl0 : len = 0 := by omega
                      have : l = [] := List.eq_nil_of_length_eq_zero (by rw [hll]; simp [hl0])
                      subst this
                      exact .inl ⟨rfl, by simp [hl0], by simp [RelO]⟩
                    | false =>
                      obtain ⟨cs, el, fz, g1, g2, g3, g4, g5⟩ := hcells hn
                      refine .inr ⟨rfl, cs, el, fz, g1, g2, by simp only; omega, ?_, fun ho => (by cases ho)⟩
                      simp only
                      rw [← g4]
                      exact hus
                  · simp only [RelV, RelX]
                    refine ⟨⟨pl0.nil, pl0.blk, pl0.off + off, len * s, pl0.size, noFz⟩, A, cap, by rw [t.heap.len]; simp, by rw [hv], by simp, hcap, fun hn => ⟨fun hf => (by simp at hf), (hnil hn).2⟩, fun hn => ⟨(hnn hn).1, fun hq => ?_⟩, fun hf => (by simp at hf), fun hf => (by simp at hf), fun _ => ⟨trivial, rfl⟩, hhas⟩
                    rcases hq with hq | hq
                    · simpa using (hnn hn).2 (.inl hq)
                    · simp at hq
              · cases hq
            · cases hq
          · cases hq
        · cases hq
      · cases hq
    · rename_i k' s' l' hxs
      cases hxs
      split at hq
      · rename_i hcond
        obtain ⟨rfl, rfl, rfl, rfl⟩ := hcond
        cases hq
        simp only [RelV, RelX] at hx
        obtain ⟨v', e, A, len, cap, rfl, h1, h2, h3, h4, h5⟩ := hx
        simp only [List.cons.injEq, and_true] at e
        subst e
        rw [div_len h2 hs]
        rcases h5 with h5 | ⟨blk, off, cs, el, fz, rfl, h6, h7, h8⟩
        · have hl0 : len = 0 := by omega
          subst h5
          subst hl0
          have : l = [] := List.eq_nil_of_length_eq_zero (by rw [h2]; simp)
          subst this
          refine ⟨⟨true, 0, 0, 0, 0, noFz⟩, .inl ⟨rfl, rfl, by simp [RelO]⟩, rfl, rfl, fun k h => (by cases h), fun b hb => (by cases hb), ⟨fun _ => ⟨fun _ => rfl, fun h => by cases h⟩, fun k ob h => by cases h⟩, ?_⟩
          simp only [RelV, RelX]
          exact ⟨⟨true, 0, 0, 0, 0, noFz⟩, A, 0, by rw [t.heap.len]; simp, rfl, by simp, h1, fun _ => ⟨fun hf => (by cases hf), rfl⟩, fun h => (by cases h), fun hf => (by cases hf), fun hf => (by cases hf), fun _ => ⟨trivial, by simp⟩, h3⟩
        · refine ⟨⟨false, blk, off, len * s', cs.size, noFz⟩, .inr ⟨rfl, cs, el, fz, (hH.fz _ _ h6).1, rfl, h7, ⟨h8, h4⟩, fun h => (by cases h)⟩, rfl, rfl, fun k h => (by cases h), fun b hb => (by cases hb), ⟨fun _ => ⟨fun h => (by cases h), fun _ => ⟨rfl, _, h6⟩⟩, fun k ob h => by cases h⟩, ?_⟩
          simp only [RelV, RelX]
          exact ⟨⟨false, blk, off, len * s', cs.size, noFz⟩, _, cap, by rw [t.heap.len]; simp, rfl, by simp, h1, fun h => (by cases h), fun _ => ⟨by simp, fun _ => by simp⟩, fun hf => (by cases hf), fun hf => (by cases hf), fun _ => ⟨trivial, rfl⟩, h3⟩
      · cases hq
    · cases hq
  have put : ∀ (pl : Place), ObjOk M1 ⟨.row k l, own, pin⟩ pl B w → ac.own = own → ac.row = true → (∀ k, pin = some k → B.pin k pl) →
      (∀ b, ac.id = some b → ∃ o' p, st.heap[b]? = some (some o') ∧ M[b]? = some p ∧ pl.nil = p.nil ∧ pl.blk = p.blk ∧ (ac.own = true → o'.own = true) ∧ (ac.whole = true → pl = p)) →
      NoneOk M ac pl → RelT (M1 ++ [pl]) (setSrc st1.tmps src st1.heap.length l.length sz own) a →
      ∃ pl, Told M st B w a (acts ++ [ac]) (M1 ++ [pl]) ⟨setSrc st1.tmps src st1.heap.length l.length sz own, st1.heap ++ [some ⟨.row k l, own, pin⟩]⟩ := by
    intro pl h1 h2 h3 hpin h4 h5 h6
    refine ⟨pl, t.add hH h1 h2.symm (fun b hb => ⟨?_, h4 b hb⟩) hpin h5 (fun _ => rfl) h6⟩
    unfold actFresh at hf
    rw [hb] at hf
    rw [h2]
    exact hf
  have keepT : ∀ (pl : Place) (t' : Nat) (x : AV), RelV (M1 ++ [pl]) x (a.getD t' undef) → RelT (M1 ++ [pl]) (st1.tmps.set t' x) a := by
    intro pl t' x hx
    have h1 := (t.tmps.mono (hE pl)).put hx t'
    have h2 := congrArg Act.tmps (put_self (a := ⟨a, []⟩) (d := t'))
    simp only [Go.Act.put] at h2
    rw [h2] at h1
    exact h1
  have deep : ∀ (src' : Src), (∀ (x : AV), setSrc st1.tmps src' st1.heap.length l.length sz own = st1.tmps) → (rowSrc st chk k sz src' own pin = rowVal st chk k sz own pin (valAt st src')) → rowSrc st chk k sz src' own pin = some (ac, l) →
      ∃ pl, Told M st B w a (acts ++ [ac]) (M1 ++ [pl]) ⟨setSrc st1.tmps src' st1.heap.length l.length sz own, st1.heap ++ [some ⟨.row k l, own, pin⟩]⟩ := by
    intro src' hset hrow hq
    rw [hrow] at hq
    cases hx : valAt st src' with
    | none => rw [hx] at hq; cases hq
    | some x =>
      rw [hx] at hq
      obtain ⟨vs, hvs⟩ := valAt_rel ht hH hx
      have : ∃ v, vs = [v] := by
        have hl := RelX_length hvs
        have : width x = 1 := by
          cases x <;> first | rfl | (cases hq)
        rw [this] at hl
        exact List.length_eq_one_iff.1 hl
      obtain ⟨v, rfl⟩ := this
      obtain ⟨pl, h1, h2, h3, hpn, h4, h5, h6⟩ := slice _ _ hvs hq
      rw [hset (.undef)]
      have hh := fun (h7 : RelT (M1 ++ [pl]) st1.tmps a) => (⟨pl, t.add hH h1 h2.symm (fun b hb => ⟨by
        unfold actFresh at hf
        rw [hb] at hf
        rw [h2]
        exact hf, h4 b hb⟩) hpn h5 (fun _ => rfl) h7⟩ : ∃ pl, Told M st B w a (acts ++ [ac]) (M1 ++ [pl]) ⟨st1.tmps, st1.heap ++ [some ⟨.row k l, own, pin⟩]⟩)
      exact hh (t.tmps.mono (hE pl))
  cases src with
  | same b =>
    simp only [rowSrc] at h
    split at h
    · rename_i k' l' o op hob
      split at h
      · rename_i hc
        obtain ⟨rfl, ho, hpk⟩ := hc
        cases h
        obtain ⟨pl, hpl, hok⟩ := hH.obj b _ hob
        refine put pl ?_ rfl rfl (pin_sound hH hB hob hpl hpk (fun _ => rfl)) (fun b' hb' => (by cases hb'; exact ⟨_, pl, hob, hpl, rfl, rfl, ho, fun _ => rfl⟩)) ⟨fun h => (by cases h), fun k ob h => ⟨b, pl, hpl, h⟩⟩ (t.tmps.mono (hE pl))
        rcases hok with ⟨n1, n2, n3⟩ | ⟨n1, cs, el, fz, g1, g2, g3, g4, g5⟩
        · exact .inl ⟨n1, n2, n3⟩
        · exact .inr ⟨n1, cs, el, fz, g1, g2, g3, g4, fun h => g5 (ho h)⟩
      · cases h
    · cases h
  | slot t' =>
    simp only [rowSrc, valAt] at h
    obtain ⟨pl, h1, h2, h3, hp, h4, h5, h6⟩ := slice _ _ (ht.2 t') h
    exact put pl h1 h2 h3 hp h4 h5 (keepT pl t' _ h6)
  | cell p j => exact deep _ (fun _ => rfl) rfl h
  | cap p j => exact deep _ (fun _ => rfl) rfl h
  | part p j => exact deep _ (fun _ => rfl) rfl h
theorem drowSrc_sound {M : List Place} {st : St} {B : Base} {w : World} {a : Array Value} (ht : RelT M st.tmps a) (hH : RelH M st.heap B w) {chk : Bool} (hB : chk = false → ∀ k pl, B.pin k pl) {acts : List Act} {M1 : List Place} {st1 : St} (t : Told M st B w a acts M1 st1) {e : EK} {src : Src} {own : Bool} {pin : Option Nat} {ac : Act} {l : List e.den}
    (h : drowSrc st chk e src own pin = some (ac, l)) (hf : actFresh acts own ac = true) :
    ∃ pl, Told M st B w a (acts ++ [ac]) (M1 ++ [pl]) ⟨setSrc st1.tmps src st1.heap.length (mul1 l.length e.w) e.w own, st1.heap ++ [some ⟨.drow ⟨e, l⟩, own, pin⟩]⟩ := by
  have hE : ∀ pl, Ext M1 (M1 ++ [pl]) := fun pl => Ext.snoc M1 _
  have hw := e.w_pos
  have mono : ∀ {vs : List Value}, RelO M (.drow ⟨e, l⟩) vs → RelO M1 (.drow ⟨e, l⟩) vs := fun r => ⟨r.1, fun i x hx => EK.rel_mono t.fz e x _ (r.2 i x hx)⟩
  have monoK : ∀ {o : Bool} {op : Option Nat} {pl : Place}, ObjOk M ⟨.drow ⟨e, l⟩, o, op⟩ pl B w → (own = true → o = true) → ObjOk M1 ⟨.drow ⟨e, l⟩, own, pin⟩ pl B w := by
    rintro o op pl (⟨n1, n2, n3⟩ | ⟨n1, cs, el, fz, g1, g2, g3, g4, g5⟩) ho
    · exact .inl ⟨n1, n2, mono n3⟩
    · exact .inr ⟨n1, cs, el, fz, g1, g2, g3, mono g4, fun h => g5 (ho h)⟩
  have add : ∀ (pl : Place) (ts : List AV), ObjOk M1 ⟨.drow ⟨e, l⟩, own, pin⟩ pl B w → ac.own = own → (∀ k, pin = some k → B.pin k pl) →
      (∀ b, ac.id = some b → ∃ o' p, st.heap[b]? = some (some o') ∧ M[b]? = some p ∧ pl.nil = p.nil ∧ pl.blk = p.blk ∧ (ac.own = true → o'.own = true) ∧ (ac.whole = true → pl = p)) →
      NoneOk M ac pl → RelT (M1 ++ [pl]) ts a → Told M st B w a (acts ++ [ac]) (M1 ++ [pl]) ⟨ts, st1.heap ++ [some ⟨.drow ⟨e, l⟩, own, pin⟩]⟩ := by
    intro pl ts h1 h2 hpin h4 h5 h6
    refine t.add hH h1 h2.symm (fun b hb => ⟨?_, h4 b hb⟩) hpin h5 (fun _ => rfl) h6
    unfold actFresh at hf
    rw [hb] at hf
    rw [h2]
    exact hf
  have same : ∀ (b : Nat) (d : EKs) (o : Bool) (op : Option Nat), st.heap[b]? = some (some ⟨.drow d, o, op⟩) → (own = true → o = true) → pinOk chk pin op true = true → castE e d = some l → ac = ⟨some b, true, own, true⟩ →
      ∃ pl, M[b]? = some pl ∧ ∀ ts, RelT (M1 ++ [pl]) ts a → Told M st B w a (acts ++ [ac]) (M1 ++ [pl]) ⟨ts, st1.heap ++ [some ⟨.drow ⟨e, l⟩, own, pin⟩]⟩ := by
    rintro b d o op hob ho hpk hce rfl
    have := castE_spec hce
    subst this
    obtain ⟨pl, hpl, hok⟩ := hH.obj b _ hob
    exact ⟨pl, hpl, fun ts h => add pl ts (monoK hok ho) rfl (pin_sound hH hB hob hpl hpk (fun _ => rfl)) (fun b' hb' => (by cases hb'; exact ⟨_, pl, hob, hpl, rfl, rfl, ho, fun _ => rfl⟩)) ⟨fun h => (by cases h), fun k ob h => ⟨b, pl, hpl, h⟩⟩ h⟩
  have val : ∀ (x : AV) (v : Value), RelV M x v → (match (some x : Option AV) with
      | some .nils => if pinOk chk pin none true = true then some ((⟨none, true, own, true⟩ : Act), ([] : List e.den)) else none
      | some (.sl b _ _ s c) => if s = e.w ∧ (own = true → c = .own) ∧ isWhole c = true then
          match st.heap[b]? with
          | some (some ⟨.drow d, o, op⟩) => if (own = true → o = true) ∧ pinOk chk pin op true = true then (match castE e d with | some l => some (⟨some b, true, own, true⟩, l) | none => none) else none
          | _ => none
        else none
      | _ => none) = some (ac, l) →
      ∃ pl, RelV (M1 ++ [pl]) (.sl st1.heap.length 0 (div1 (mul1 l.length e.w) e.w) e.w (if own then .own else .whole)) v ∧ ∀ ts, RelT (M1 ++ [pl]) ts a → Told M st B w a (acts ++ [ac]) (M1 ++ [pl]) ⟨ts, st1.heap ++ [some ⟨.drow ⟨e, l⟩, own, pin⟩]⟩ := by
    intro x v hx hq
    split at hq
    · rename_i hxn
      cases hxn
      split at hq
      case isFalse => cases hq
      rename_i hpk
      cases hq
      have hv : v = .slice none 0 0 := by simpa [RelV, RelX] using hx
      subst hv
      refine ⟨⟨true, 0, 0, 0, 0, noFz⟩, ?_, fun ts h => add _ ts (.inl ⟨rfl, rfl, by simp [RelO]⟩) rfl ?_ (fun b hb => (by cases hb)) ⟨fun _ => ⟨fun _ => rfl, fun h => by cases h⟩, fun k ob h => by cases h⟩ h⟩
      · rw [div_len (n := mul1 ([] : List e.den).length e.w) (len := 0) (by simp [mul1_eq]) hw]
        simp only [RelV, RelX]
        exact ⟨⟨true, 0, 0, 0, 0, noFz⟩, none, 0, by rw [t.heap.len]; simp, rfl, by simp, Nat.le_refl _, fun _ => ⟨fun _ => rfl, rfl⟩, fun h => (by cases h), fun hf => (by cases own <;> simp at hf), fun _ => ⟨trivial, rfl, by simp, by simp⟩, fun _ => ⟨trivial, by simp⟩, by rw [has_iff]; simp [loB, hiB]⟩
      · rintro k' rfl
        simp only [pinOk, Bool.and_eq_true, Bool.or_eq_true, Bool.not_eq_true', decide_eq_true_eq] at hpk
        rcases hpk with ⟨_, h2 | h2⟩
        · exact hB h2 _ _
        · cases h2
    · rename_i b off len s c hxs
      cases hxs
      split at hq
      case isFalse => cases hq
      rename_i hcond
      obtain ⟨rfl, hco, hwh⟩ := hcond
      split at hq
      · rename_i d o op hob
        split at hq
        case isFalse => cases hq
        rename_i hoo
        split at hq
        · rename_i l' hce
          cases hq
          obtain ⟨pl, hpl, hadd⟩ := same b d o op hob hoo.1 hoo.2 hce rfl
          refine ⟨pl, ?_, hadd⟩
          have := castE_spec hce
          subst this
          simp only [RelV, RelX] at hx
          obtain ⟨pl', A, cap, hpl', hv, hb, hcap, hnil, hnn, hfull, hown, hwhole, hhas⟩ := hx
          rw [hpl] at hpl'
          cases hpl'
          have h0 : off = 0 ∧ len * e.w = pl.n := by
            cases c <;> simp [isWhole] at hwh
            · exact ⟨(hown rfl).1, (hown rfl).2.2.1⟩
            · exact hwhole rfl
          have hlen : l.length = len := by
            have h1 := row_len hH hob rfl hpl
            unfold rowLen at h1
            rw [hob] at h1
            simp only [mul1_eq] at h1
            rw [← h0.2] at h1
            exact Nat.eq_of_mul_eq_mul_right hw h1
          rw [div_len (n := mul1 l.length e.w) (len := len) (by rw [mul1_eq, hlen]) hw]
          obtain ⟨rfl, h0⟩ := h0
          simp only [RelV, RelX]
          refine ⟨pl, A, cap, by rw [t.heap.len]; simp, hv, hb, hcap, fun hn => ⟨fun hf => (hnil hn).1 (hco (by cases own with | true => rfl | false => simp at hf)), (hnil hn).2⟩, fun hn => ⟨(hnn hn).1, fun hq => ?_⟩, fun hf => (by cases own <;> simp at hf), fun hf => ?_, fun _ => ⟨trivial, h0⟩, hhas⟩
          · rcases hq with hq | hq
            · exact (hnn hn).2 (.inl hq)
            · have : own = true := by cases own with | true => rfl | false => simp at hq
              exact (hnn hn).2 (.inr (hco this))
          · have : own = true := by cases own with | true => rfl | false => simp at hf
            exact ⟨trivial, (hown (hco this)).2⟩
        · cases hq
      · cases hq
    · cases hq
  have deep : ∀ (src' : Src), setSrc st1.tmps src' st1.heap.length (mul1 l.length e.w) e.w own = st1.tmps → (∀ v, drowSrc st chk e src' own pin = (match valAt st src' with
      | some .nils => if pinOk chk pin none true = true then some ((⟨none, true, own, true⟩ : Act), ([] : List e.den)) else none
      | some (.sl b _ _ s c) => if s = e.w ∧ (own = true → c = .own) ∧ isWhole c = true then
          match st.heap[b]? with
          | some (some ⟨.drow d, o, op⟩) => if (own = true → o = true) ∧ pinOk chk pin op true = true then (match castE e d with | some l => some (⟨some b, true, own, true⟩, l) | none => none) else none
          | _ => none
        else none
      | _ => none) ∨ v = ()) → drowSrc st chk e src' own pin = some (ac, l) →
      ∃ pl, Told M st B w a (acts ++ [ac]) (M1 ++ [pl]) ⟨setSrc st1.tmps src' st1.heap.length (mul1 l.length e.w) e.w own, st1.heap ++ [some ⟨.drow ⟨e, l⟩, own, pin⟩]⟩ := by
    intro src' hset _ hq
    have hq' : (match valAt st src' with
      | some .nils => if pinOk chk pin none true = true then some ((⟨none, true, own, true⟩ : Act), ([] : List e.den)) else none
      | some (.sl b _ _ s c) => if s = e.w ∧ (own = true → c = .own) ∧ isWhole c = true then
          match st.heap[b]? with
          | some (some ⟨.drow d, o, op⟩) => if (own = true → o = true) ∧ pinOk chk pin op true = true then (match castE e d with | some l => some (⟨some b, true, own, true⟩, l) | none => none) else none
          | _ => none
        else none
      | _ => none) = some (ac, l) ∨ ∃ b, src' = .same b := by
      cases src' with
      | same b => exact .inr ⟨b, rfl⟩
      | _ => exact .inl hq
    rcases hq' with hq' | ⟨b, rfl⟩
    · cases hx : valAt st src' with
      | none => rw [hx] at hq'; cases hq'
      | some x =>
        rw [hx] at hq'
        obtain ⟨vs, hvs⟩ := valAt_rel ht hH hx
        have : ∃ v, vs = [v] := by
          have hl := RelX_length hvs
          have : width x = 1 := by
            cases x <;> first | rfl | (cases hq')
          rw [this] at hl
          exact List.length_eq_one_iff.1 hl
        obtain ⟨v, rfl⟩ := this
        obtain ⟨pl, _, h2⟩ := val _ _ hvs hq'
        rw [hset]
        exact ⟨pl, h2 _ (t.tmps.mono (hE pl))⟩
    · simp only [drowSrc] at hq
      split at hq
      · rename_i d o op hob
        split at hq
        case isFalse => cases hq
        rename_i hoo
        split at hq
        · rename_i l' hce
          cases hq
          obtain ⟨pl, _, hadd⟩ := same b d o op hob hoo.1 hoo.2 hce rfl
          exact ⟨pl, hadd _ (t.tmps.mono (hE pl))⟩
        · cases hq
      · cases hq
  cases src with
  | same b => exact deep _ rfl (fun _ => .inr rfl) h
  | slot t' =>
    obtain ⟨pl, h1, h2⟩ := val _ _ (ht.2 t') h
    refine ⟨pl, h2 _ ?_⟩
    have g1 := (t.tmps.mono (hE pl)).put h1 t'
    have g2 := congrArg Act.tmps (put_self (a := ⟨a, []⟩) (d := t'))
    simp only [Go.Act.put] at g2
    rw [g2] at g1
    exact g1
  | cell p j => exact deep _ rfl (fun _ => .inr rfl) h
  | cap p j => exact deep _ rfl (fun _ => .inr rfl) h
  | part p j => exact deep _ rfl (fun _ => .inr rfl) h
theorem extI_sound {M : List Place} {st : St} {B : Base} {w : World} {a : Array Value} (ht : RelT M st.tmps a) (hH : RelH M st.heap B w) {chk : Bool} (hB : chk = false → ∀ k pl, B.pin k pl) : ∀ {its : List Item} {acc : List Ty} {rest : D acc} {acts : List Act} {d : D (tysI its acc)} {M1 : List Place} {st1 : St},
    Told M st B w a acts M1 st1 → extI st chk its acc rest acts = some d → (∃ M2, Told M st B w a (acts ++ actsI st chk its) M2 (bldI its acc d st1).1) ∧ (bldI its acc d st1).2 = rest
  | [], acc, rest, acts, d, M1, st1, t, h => by
    simp only [extI, Option.some.injEq] at h
    subst h
    exact ⟨⟨M1, by simpa [actsI, bldI] using t⟩, rfl⟩
  | it :: its, acc, rest, acts, d, M1, st1, t, h => by
    have keepT : ∀ (t' : Nat) (x : AV), RelV M1 x (a.getD t' undef) → Told M st B w a acts M1 ⟨st1.tmps.set t' x, st1.heap⟩ := by
      intro t' x hx
      have h1 := t.tmps.put hx t'
      have h2 := congrArg Go.Act.tmps (put_self (a := ⟨a, []⟩) (d := t'))
      simp only [Go.Act.put] at h2
      rw [h2] at h1
      exact ⟨h1, t.heap, t.len, t.act, t.fz, t.zf⟩
    cases it with
    | row k sz src own pin =>
      simp only [extI] at h
      split at h
      · rename_i ac l hr
        split at h
        · rename_i hc
          obtain ⟨hs, hf⟩ := hc
          split at h
          · rename_i d' hd
            cases h
            obtain ⟨pl, t2⟩ := rowSrc_sound ht hH hB t hr hs hf
            have r := extI_sound (its := its) ht hH hB t2 hd
            simp only [bldI, actsI, hr]
            rw [List.append_assoc] at r
            exact r
          · cases h
        · cases h
      · cases h
    | drow e src own pin =>
      simp only [extI] at h
      split at h
      · rename_i ac l hr
        split at h
        · rename_i hf
          split at h
          · rename_i d' hd
            cases h
            obtain ⟨pl, t2⟩ := drowSrc_sound ht hH hB t hr hf
            have r := extI_sound (its := its) ht hH hB t2 hd
            simp only [bldI, actsI, hr]
            rw [List.append_assoc] at r
            exact r
          · cases h
        · cases h
      · cases h
    | segs cs src own pin =>
      simp only [extI] at h
      split at h
      · rename_i b hb
        split at h
        · rename_i xs o op hob
          split at h
          · rename_i hc
            obtain ⟨ho, hf, hpk⟩ := hc
            split at h
            · rename_i d' hd
              obtain ⟨pl, hpl, hok⟩ := hH.obj b _ hob
              have hE : Ext M1 (M1 ++ [pl]) := Ext.snoc M1 _
              have hvs : ∃ vs, RelC M xs vs ∧ (∀ xs', RelC M1 xs' vs → ObjOk M1 ⟨.segs xs', own, pin⟩ pl B w) := by
                rcases hok with ⟨n1, n2, n3⟩ | ⟨n1, cs', el, fz, g1, g2, g3, g4, g5⟩
                · exact ⟨_, n3, fun xs' hx' => .inl ⟨n1, n2, hx'⟩⟩
                · exact ⟨_, g4, fun xs' hx' => .inr ⟨n1, cs', el, fz, g1, g2, g3, hx', fun h => g5 (ho h)⟩⟩
              obtain ⟨vs, hv1, hv2⟩ := hvs
              obtain ⟨c1, c2⟩ := extC_sound t h hv1
              have t2 := t.add hH (ac := ⟨some b, true, own, false⟩) (hv2 _ c1) rfl (fun b' hb' => (by cases hb'; exact ⟨hf, _, pl, hob, hpl, rfl, rfl, ho, fun _ => rfl⟩)) (pin_sound hH hB hob hpl hpk (fun _ => rfl)) ⟨fun h => (by cases h), fun k ob h => ⟨b, pl, hpl, h⟩⟩ (fun h => (by cases h)) (t.tmps.mono hE)
              have r := extI_sound (its := its) ht hH hB t2 hd
              simp only [bldI, actsI, hb]
              rw [c2]
              rw [List.append_assoc] at r
              exact r
            · cases h
          · cases h
        · cases h
      · cases h
    | drop =>
      simp only [extI] at h
      have hE : Ext M1 (M1 ++ [⟨true, 0, 0, 0, 0, noFz⟩]) := Ext.snoc M1 _
      have t2 : Told M st B w a (acts ++ [⟨none, false, false, false⟩]) (M1 ++ [⟨true, 0, 0, 0, 0, noFz⟩]) ⟨st1.tmps, st1.heap ++ [none]⟩ := by
        have hlen := t.len
        have hlen1 := t.heap.len
        refine ⟨t.tmps.mono hE, t.heap.addNone _ (fun k ob h => by cases h), by simp [hlen], fun i ac' hac => ?_, fun k ob h => (t.fz k ob h).left _, fun k ob h => t.zf k ob (FzAt.snoc rfl h)⟩
        rw [List.getElem?_append] at hac
        split at hac
        · obtain ⟨p1, hp1, h1, h2, h3, h4⟩ := t.act i ac' hac
          refine ⟨p1, by rw [List.getElem?_append_left (by omega)]; exact hp1, h1, h2, fun oi hoi => ?_, fun hr => ?_⟩
          · rw [List.getElem?_append_left (by omega)] at hoi
            exact h3 oi hoi
          · obtain ⟨c', o', pn', ho', hc'⟩ := h4 hr
            exact ⟨c', o', pn', by rw [List.getElem?_append_left (by omega)]; exact ho', hc'⟩
        · have h0 : i - acts.length = 0 := by
            rcases Nat.eq_zero_or_pos (i - acts.length) with h | h
            · exact h
            · rw [List.getElem?_eq_none (by simp; omega)] at hac; cases hac
          rw [h0] at hac
          simp at hac
          subst hac
          have hi : i = M1.length := by omega
          subst hi
          refine ⟨_, by simp, fun b hb => (by cases hb), ⟨fun _ => ⟨fun _ => rfl, fun h => by cases h⟩, fun k ob h => by cases h⟩, fun oi hoi => ?_, fun hr => (by cases hr)⟩
          rw [← hlen1] at hoi
          simp at hoi
      have r := extI_sound (its := its) ht hH hB t2 h
      simp only [bldI, actsI]
      rw [List.append_assoc] at r
      exact r
    | slot t' ty =>
      simp only [extI] at h
      split at h
      · rename_i v d' hv hd
        cases h
        have r := extI_sound (its := its) ht hH hB (keepT t' _ (getT_rel (fun _ => t.fz) hv (ht.2 t'))) hd
        simp only [bldI, actsI]
        exact r
      · cases h
    | const t' x =>
      simp only [extI] at h
      split at h
      · rename_i hs
        have r := extI_sound (its := its) ht hH hB (keepT t' _ (sameA_rel hs (ht.2 t'))) h
        simp only [bldI, actsI]
        exact r
      · cases h
    | sl t' b sz c =>
      simp only [extI, Bool.and_eq_true, decide_eq_true_eq] at h
      split at h
      · rename_i hs
        have r := extI_sound (its := its) ht hH hB (keepT t' _ (slOk_sound t hs.1 hs.2 (ht.2 t'))) h
        simp only [bldI, actsI]
        exact r
      · cases h
    | ptr t' b wd =>
      simp only [extI] at h
      split at h
      · rename_i hs
        have r := extI_sound (its := its) ht hH hB (keepT t' _ (ptrOk_sound t hs (ht.2 t'))) h
        simp only [bldI, actsI]
        exact r
      · cases h
    | ifc t' T k =>
      simp only [extI] at h
      split at h
      · rename_i T' k' l x hget
        split at h
        · rename_i hk
          obtain ⟨rfl, rfl⟩ := hk
          split at h
          · rename_i d' hd
            cases h
            have hv := ht.2 t'
            rw [hget] at hv
            have hv' : RelV M1 (.iface T' (.int k' none x)) (a.getD t' undef) := by
              simp only [RelV, RelX] at hv ⊢
              obtain ⟨y, e, h1, h2, _⟩ := hv
              exact ⟨y, e, h1, h2, fun m hm => by cases hm⟩
            have r := extI_sound (its := its) ht hH hB (keepT t' _ hv') hd
            simp only [bldI, actsI]
            exact r
          · cases h
        · cases h
      · cases h
    | cells t' cs =>
      simp only [extI] at h
      split at h
      · rename_i xs hf
        split at h
        · rename_i d' hd
          have hx := ht.2 t'
          rw [hf] at hx
          obtain ⟨us, hv, hc⟩ := RelX_agg.1 hx
          obtain ⟨c1, c2⟩ := extC_sound t h hc
          have hx2 : RelV M1 (.agg (bldC st1.heap cs (tysI its acc) d).1) (a.getD t' undef) := RelX_agg.2 ⟨us, hv, c1⟩
          have r := extI_sound (its := its) ht hH hB (keepT t' _ hx2) hd
          simp only [bldI, actsI]
          rw [c2]
          exact r
        · cases h
      · cases h
    | fn t' f cs =>
      simp only [extI] at h
      split at h
      · rename_i f' caps hf
        split at h
        · rename_i hff
          subst hff
          split at h
          · rename_i d' hd
            have hx := ht.2 t'
            rw [hf] at hx
            simp only [RelV, RelX] at hx
            obtain ⟨x, y, hv, h1, h2⟩ := hx
            obtain ⟨c1, c2⟩ := extL_sound t h h2
            have hx2 : RelV M1 (.fn f' [] (bldC st1.heap cs (tysI its acc) d).1) (a.getD t' undef) := by
              simp only [RelV, RelX]
              exact ⟨x, y, hv, by rw [RelL_nil] at h1 ⊢; exact h1, c1⟩
            have r := extI_sound (its := its) ht hH hB (keepT t' _ hx2) hd
            simp only [bldI, actsI]
            rw [c2]
            exact r
          · cases h
        · cases h
      · cases h
end Go.AE
set_option linter.unusedVariables false
set_option linter.unusedSimpArgs false
namespace Go.AE
open Go Go.RowKit
variable {ρ : Type}
def st0 (n : Nat) : St := ⟨List.replicate n .undef, [none]⟩
def drop0 : Act := ⟨none, false, false, false⟩
noncomputable def fzOf (M : List Place) (k : Nat) : Option Obj := by
  classical exact if h : ∃ ob, FzAt M k ob then some h.choose else none
noncomputable def fzPlace (M : List Place) : Place := ⟨true, 0, 0, 0, 0, fzOf M⟩
theorem fzOf_at {M : List Place} {k : Nat} {ob : Obj} (h : fzOf M k = some ob) : FzAt M k ob := by
  unfold fzOf at h
  split at h
  · rename_i hx
    cases h
    exact hx.choose_spec
  · cases h
theorem fzPlace_sub {M : List Place} : FzSub [fzPlace M] M := fun k ob ⟨i, pl, h1, h2⟩ => by
  have : pl = fzPlace M := by simpa using List.mem_of_getElem? h1
  subst this
  exact fzOf_at h2
theorem fzPlace_sup {M : List Place} {H : Heap} {B : Base} {w : World} (r : RelH M H B w) : FzSub M [fzPlace M] := fun k ob h => by
  refine ⟨0, fzPlace M, rfl, ?_⟩
  show fzOf M k = some ob
  have hx : ∃ ob, FzAt M k ob := ⟨ob, h⟩
  have e : fzOf M k = some hx.choose := by
    unfold fzOf
    rw [dif_pos hx]
  have h1 := (r.fz k ob h).1
  have h2 := (r.fz k _ hx.choose_spec).1
  rw [h1] at h2
  rw [e, Option.some.inj h2]
theorem told0 {M : List Place} {st : St} {B : Base} {w : World} {a : Array Value} (hH : RelH M st.heap B w) (n : Nat) (hn : n = a.size) : Told M st B w a [drop0] [fzPlace M] (st0 n) := by
  refine ⟨⟨by simp [st0, hn], fun t => ?_⟩, ⟨rfl, hH.base, fun i o h => ?_, fun i j oi oj pi pj h => ?_, fun i o pl k h => ?_, fun i o pl h => ?_, fun k ob h => hH.fz k ob (fzPlace_sub k ob h), fun i o pl h => ?_, hH.bf⟩, rfl, fun i ac h => ?_, fzPlace_sup hH, fzPlace_sub⟩
  · have : (List.replicate n AV.undef).getD t .undef = .undef := by
      rw [List.getD_eq_getElem?_getD, List.getElem?_replicate]
      split <;> rfl
    show RelV _ ((List.replicate n AV.undef).getD t .undef) _
    rw [this]
    exact relV_undef _ _
  all_goals try (cases i <;> simp [st0] at h)
  subst h
  refine ⟨fzPlace M, rfl, fun b h => (by cases h), ⟨fun _ => ⟨fun h => (by cases h), fun h => (by cases h)⟩, fun k ob h => fzOf_at h⟩, fun oi h => (by simp [st0] at h), fun h => (by cases h)⟩
theorem ext_rel {M : List Place} {st : St} {B : Base} {w0 : World} {a : Go.Act} {w : World} (r : Rel M st B w0 a w) {its : List Item} {d : D (tysI its [])} (h : extI st true its [] () [drop0] = some d) {n : Nat} (hn : st.tmps.length = n) : ∃ M', Rel M' (bldI its [] d (st0 n)).1 B w0 a w := by
  obtain ⟨⟨M2, t⟩, _⟩ := extI_sound r.tmps r.heap (fun h => by cases h) (told0 (a := a.tmps) r.heap n (by rw [← hn]; exact r.tmps.1)) h
  exact ⟨M2, t.tmps, r.defers, t.heap, r.below⟩
def aresL (P : Program) (st : St) : List ResultVar → Option (List AV)
  | [] => some []
  | .tmp t :: r => match aresL P st r with
    | some l => some (st.tmps.getD t .undef :: l)
    | none => none
  | .cell t ty :: r => match aload P st.heap ty (st.tmps.getD t .undef), aresL P st r with
    | some x, some l => some (x :: l)
    | _, _ => none
def retV (rs : Array Value) : Value := if h : rs.size = 1 then rs[0] else .tuple rs
def retA : List AV → AV
  | [x] => x
  | l => .tup l
def resOne (a : Array Value) (x : ResultVar) : Sem Value :=
  match x with
  | .tmp t => pure (a.getD t undef)
  | .cell c t => (do loadVar t (← asAddr (a.getD c undef)) : Sem Value)
theorem aresL_sound {P : Program} {M : List Place} {st : St} {B : Base} {w : World} {a : Array Value} (ht : RelT M st.tmps a) (hH : RelH M st.heap B w) : ∀ {rs : List ResultVar} {l : List AV}, aresL P st rs = some l →
    ∃ vs : List Value, RelL M l vs ∧ (rs.mapM (resOne a)).run P w = .ok vs w
  | [], l, h => by
    simp only [aresL, Option.some.injEq] at h
    subst h
    exact ⟨[], RelL_nil.2 rfl, by simp⟩
  | .tmp t :: r, l, h => by
    simp only [aresL] at h
    split at h
    · rename_i l' hl
      cases h
      obtain ⟨vs, h1, h2⟩ := aresL_sound ht hH hl
      have h3 : (resOne a (.tmp t)).run P w = .ok (a.getD t undef) w := rfl
      exact ⟨a.getD t undef :: vs, RelL_cons.2 ⟨_, _, rfl, ht.2 t, h1⟩, by rw [List.mapM_cons]; simp only [Sem.run_bind, Sem.run_pure, Result.andThen_ok, h2, h3]⟩
    · cases h
  | .cell c t :: r, l, h => by
    simp only [aresL] at h
    split at h
    · rename_i x l' hx hl
      cases h
      obtain ⟨vs, h1, h2⟩ := aresL_sound ht hH hl
      obtain ⟨A, u, e, hu, hrun⟩ := aload_sound hH (ht.2 c) hx
      have h3 : (resOne a (.cell c t)).run P w = .ok u w := by
        show ((do loadVar t (← asAddr (a.getD c undef)) : Sem Value)).run P w = _
        rw [Sem.run_bind, e]
        simp only [asAddr, Sem.run_pure, Result.andThen_ok]
        exact hrun w (Below.refl _ _)
      exact ⟨u :: vs, RelL_cons.2 ⟨_, _, rfl, hu, h1⟩, by rw [List.mapM_cons]; simp only [Sem.run_bind, Sem.run_pure, Result.andThen_ok, h2, h3]⟩
    · cases h
theorem results_run {P : Program} {M : List Place} {st : St} {B : Base} {w : World} {a : Array Value} (ht : RelT M st.tmps a) (hH : RelH M st.heap B w) {fn : Func} {l : List AV} (h : aresL P st fn.results.toList = some l) :
    ∃ vs : Array Value, RelL M l vs.toList ∧ (results fn a).run P w = .ok (retV vs) w := by
  obtain ⟨vs, h1, h2⟩ := aresL_sound ht hH h
  refine ⟨vs.toArray, by simpa using h1, ?_⟩
  have h3 : (fn.results.mapM (resOne a)).run P w = .ok vs.toArray w := by
    rw [Array.mapM_eq_mapM_toList]
    show ((List.toArray <$> fn.results.toList.mapM (resOne a) : Sem (Array Value))).run P w = _
    rw [map_eq_pure_bind, Sem.run_bind, h2]
    rfl
  have h4 : results fn a = (do
      let vs ← fn.results.mapM (resOne a)
      pure (if h : vs.size = 1 then vs[0] else .tuple vs)) := by
    unfold results
    have : (fun (x : ResultVar) => (match x with | .tmp t => pure (a.getD t undef) | .cell c t => (do loadVar t (← asAddr (a.getD c undef)) : Sem Value) : Sem Value)) = resOne a := by
      funext x
      cases x <;> rfl
    rw [← this]
    rfl
  rw [h4, Sem.run_bind, h3]
  rfl
theorem retA_rel {M : List Place} {l : List AV} {vs : Array Value} (h : RelL M l vs.toList) : RelV M (retA l) (retV vs) := by
  have hlen : ∀ {l : List AV} {vs : List Value}, RelL M l vs → l.length = vs.length := by
    intro l
    induction l with
    | nil => intro vs h; rw [RelL_nil] at h; subst h; rfl
    | cons x l ih => intro vs h; obtain ⟨v, r, rfl, _, hr⟩ := RelL_cons.1 h; simp [ih hr]
  have hl := hlen h
  simp at hl
  unfold retA retV
  split
  · rename_i x
    simp at hl
    rw [dif_pos hl.symm]
    obtain ⟨v, r, e, hx, hr⟩ := RelL_cons.1 h
    rw [RelL_nil] at hr
    subst hr
    have : vs[0]'(by omega) = v := by
      have := congrArg (fun l : List Value => l[0]?) e
      simpa [hl.symm] using this
    rw [this]
    exact hx
  · rename_i hne
    rw [dif_neg]
    · simp only [RelV, RelX]
      exact ⟨vs, rfl, h⟩
    · intro h1
      rw [h1] at hl
      obtain ⟨x, rfl⟩ := List.length_eq_one_iff.1 hl
      exact hne x rfl
def evBody (P : Program) (cal : Cal ρ) (qcal : QCal ρ) (ann : Nat → Option (Ann ρ)) (f : FuncId) (args : List AV) (H : Heap) (K : List AV → Heap → Option ρ) : Option ρ :=
  match P.funcs[f]? with
  | some fn => match fn.body with
    | some c => evCode P cal qcal ann c ⟨args ++ List.replicate (fn.ntmps - args.length) .undef, H⟩ fun e st => match e with
      | .normal | .ret => match aresL P st fn.results.toList with
        | some l => K l st.heap
        | none => none
      | _ => none
    | none => none
  | none => none
theorem relL_size {M : List Place} : ∀ {l : List AV} {vs : List Value}, RelL M l vs → l.length = vs.length
  | [], vs, h => by rw [RelL_nil] at h; subst h; rfl
  | x :: l, vs, h => by obtain ⟨v, r, rfl, _, hr⟩ := RelL_cons.1 h; simp [relL_size hr]
theorem relT_args {M : List Place} {args : List AV} {vs : Array Value} (h : RelL M args vs.toList) (n : Nat) : RelT M (args ++ List.replicate n .undef) (vs ++ Array.replicate n undef) := by
  have hs := relL_size h
  simp at hs
  refine ⟨by simp [hs], fun t => ?_⟩
  by_cases ht : t < args.length
  · have e1 : (args ++ List.replicate n AV.undef).getD t .undef = args[t] := by simp [List.getD_eq_getElem?_getD, List.getElem?_append_left ht, ht]
    rw [e1]
    obtain ⟨v, hv, hr⟩ := relL_get h (List.getElem?_eq_getElem ht)
    have e2 : (vs ++ Array.replicate n undef).getD t undef = v := by
      have hv' : vs[t]? = some v := by simpa using hv
      simp [Array.getElem?_append_left (show t < vs.size by omega), hv']
    rw [e2]
    exact hr
  · have e1 : (args ++ List.replicate n AV.undef).getD t .undef = .undef := by
      rw [List.getD_eq_getElem?_getD, List.getElem?_append_right (by omega), List.getElem?_replicate]
      split <;> rfl
    rw [e1]
    exact relV_undef _ _
def Base.clean (B : Base) : Base := ⟨B.w, B.vis, B.pin, B.f, []⟩
theorem RelH.clean {M : List Place} {H : Heap} {B : Base} {w : World} (r : RelH M H B w) : RelH M H B.clean w := r.rebase (fun _ h => h) (fun _ h => h) (fun _ _ h => h) (fun _ _ _ h => h) (fun _ h => h)
theorem RelH.unclean {M : List Place} {H : Heap} {B : Base} {w : World} (r : RelH M H B.clean w) : RelH M H B w := r.rebase (fun _ h => h) (fun _ h => h) (fun _ _ h => h) (fun _ _ _ h => h) (fun _ h => h)
theorem Beneath.unclean {B : Base} {w w' : World} (h : Beneath B.clean w w') : Beneath B w w' := ⟨h.os, h.tape, h.output, h.size, h.block⟩
theorem evBody_sound {P : Program} (hP : Callable P) {cal : Cal ρ} (hcal : ∀ f, CalAt P f (cal f)) {qcal : QCal ρ} (hq : ∀ f, QCalAt P f (qcal f)) {ann : Nat → Option (Ann ρ)} {x : Bool} {f : FuncId} {args : List AV} {H : Heap} {K : List AV → Heap → Option ρ} {r : ρ}
    (h : evBody P cal qcal ann f args H K = some r) {M : List Place} {B : Base} {w : World} {vs : Array Value}
    (hann : ∀ fn c, P.funcs[f]? = some fn → fn.body = some c → ∀ id an c', ann id = some an → (id, c') ∈ blocks c → AnnAt P x B.clean w (.block id c') an)
    (hl : RelL M args vs.toList) (hH : RelH M H B w) :
    Calls P f vs w fun e w' => ∃ rs l H' M', e = .returned (retV rs) ∧ K l H' = some r ∧ ExtO x M M' ∧ RelL M' l rs.toList ∧ RelH M' H' B w' ∧ Beneath B w w' := by
  unfold evBody at h
  split at h
  · rename_i fn hf
    split at h
    · rename_i c hb
      have hs := relL_size hl
      simp at hs
      refine calls_of_wp hf hb ?_
      have hr0 : Rel M ⟨args ++ List.replicate (fn.ntmps - args.length) .undef, H⟩ B.clean w { tmps := vs ++ Array.replicate (fn.ntmps - vs.size) undef, defers := [] } w :=
        ⟨by rw [hs]; exact relT_args hl _, rfl, hH.clean, Beneath.refl _ _⟩
      refine evCode_sound hP hcal hq c (hann fn c hf hb) _ _ h M _ w _ hr0 fun e M' st' a' w' hE hk hr => ?_
      have fin : (match aresL P st' fn.results.toList with | some l => K l st'.heap | none => none) = some r →
          a'.defers = [] ∧ ∃ v, (results fn a'.tmps).run P w' = .ok v w' ∧ ∃ rs l H' M', Ending.returned v = .returned (retV rs) ∧ K l H' = some r ∧ ExtO x M M' ∧ RelL M' l rs.toList ∧ RelH M' H' B w' ∧ Beneath B w w' := by
        intro hk
        split at hk
        · rename_i l hres
          obtain ⟨rs, h1, h2⟩ := results_run hr.tmps hr.heap hres
          exact ⟨hr.defers, _, h2, rs, l, _, M', rfl, hk, hE, h1, hr.heap.unclean, hr.below.unclean⟩
        · cases hk
      cases e <;> simp only [reduceCtorEq] at hk
      case normal => exact fin hk
      case ret => exact fin hk
    · cases h
  · cases h
structure Env (ρ : Type) where
  sum : FuncId → Option (List AV → Heap → (AV → Heap → Option ρ) → Option ρ)
  qsum : FuncId → Option (List AV → Heap → (AV → Option ρ) → Option ρ)
structure EnvOk (P : Program) (E : Env ρ) : Prop where
  sum : ∀ f s, E.sum f = some s → CalAt P f s
  qsum : ∀ f s, E.qsum f = some s → QCalAt P f s
def qof (E : Env ρ) : QCal ρ := fun f args H K => match E.qsum f with
  | some s => s args H K
  | none => none
def evFn (P : Program) (E : Env ρ) : Nat → Cal ρ
  | 0 => fun _ _ _ _ => none
  | n + 1 => fun f args H K => match E.sum f with
    | some s => s args H K
    | none => evBody P (evFn P E n) (qof E) (fun _ => none) f args H fun l H' => K (retA l) H'
theorem qof_ok {P : Program} {E : Env ρ} (hE : EnvOk P E) (f : FuncId) : QCalAt P f (qof E f) := by
  intro args H K r h M B w vs hl hH
  unfold qof at h
  split at h
  · rename_i s hs
    exact hE.qsum f s hs args H K r h M B w vs hl hH
  · cases h
theorem evFn_ok {P : Program} (hP : Callable P) {E : Env ρ} (hE : EnvOk P E) : ∀ (n : Nat) (f : FuncId), CalAt P f (evFn P E n f)
  | 0, f => fun args H K r h => by cases h
  | n + 1, f => by
    intro args H K r h M B w vs hl hH
    unfold evFn at h
    split at h
    · rename_i s hs
      exact hE.sum f s hs args H K r h M B w vs hl hH
    · refine (evBody_sound hP (evFn_ok hP hE n) (qof_ok hE) (x := true) h (fun _ _ _ _ id an c' h1 => (by cases h1)) hl hH).mono ?_
      rintro e w' ⟨rs, l, H', M', h1, h2, h3, h4, h5, h6⟩
      exact ⟨retV rs, retA l, H', M', h1, h2, h3 rfl, h5, h6, retA_rel h4⟩
inductive CO where
  | hole (t : Ty)
  | const (a : AV)
  | row (k : IntKind) (sz : Nat) (own : Bool)
inductive Out where
  | ty (t : Ty)
  | row (k : IntKind) (sz : Nat) (own : Bool := true)
  | agg (cs : List CO)
  | prow (pin : Nat) (k : IntKind)
  | psegs (pin : Nat) (cs : List CO)
@[reducible] def tysCO : List CO → List Ty → List Ty
  | [], acc => acc
  | .hole t :: r, acc => t :: tysCO r acc
  | .const _ :: r, acc => tysCO r acc
  | .row k _ _ :: r, acc => .row k :: tysCO r acc
@[reducible] def tysO : List Out → List Ty
  | [] => []
  | .ty t :: r => t :: tysO r
  | .row k _ _ :: r => .row k :: tysO r
  | .agg cs :: r => tysCO cs (tysO r)
  | .prow _ k :: r => .row k :: tysO r
  | .psegs _ cs :: r => tysCO cs (tysO r)
def cntCO : List CO → Nat
  | [] => 0
  | .row _ _ _ :: r => cntCO r + 1
  | _ :: r => cntCO r
def slO (b sz : Nat) (l : List Int) (own : Bool) : AV := .sl b 0 (div1 l.length sz) sz (if own then .own else .whole)
def cellsCO : (cs : List CO) → (acc : List Ty) → D (tysCO cs acc) → Nat → List AV
  | [], _, _, _ => []
  | .hole t :: r, acc, d, b => mkC t d.1 :: cellsCO r acc d.2 b
  | .const a :: r, acc, d, b => a :: cellsCO r acc d b
  | .row _ sz own :: r, acc, d, b => slO b sz d.1 own :: cellsCO r acc d.2 (b + 1)
def newsCO : (cs : List CO) → (acc : List Ty) → D (tysCO cs acc) → Heap
  | [], _, _ => []
  | .hole _ :: r, acc, d => newsCO r acc d.2
  | .const _ :: r, acc, d => newsCO r acc d
  | .row k _ own :: r, acc, d => some ⟨.row k d.1, own, none⟩ :: newsCO r acc d.2
def restCO : (cs : List CO) → (acc : List Ty) → D (tysCO cs acc) → D acc
  | [], _, d => d
  | .hole _ :: r, acc, d => restCO r acc d.2
  | .const _ :: r, acc, d => restCO r acc d
  | .row _ _ _ :: r, acc, d => restCO r acc d.2
def avsO : (os : List Out) → D (tysO os) → Nat → List AV
  | [], _, _ => []
  | .ty t :: r, d, b => mkT t d.1 :: avsO r d.2 b
  | .row _ sz own :: r, d, b => slO b sz d.1 own :: avsO r d.2 (b + 1)
  | .agg cs :: r, d, b => .agg (cellsCO cs (tysO r) d b) :: avsO r (restCO cs (tysO r) d) (b + cntCO cs)
  | .prow _ _ :: r, d, b => avsO r d.2 b
  | .psegs _ cs :: r, d, b => avsO r (restCO cs (tysO r) d) (b + cntCO cs)
def newsO : (os : List Out) → D (tysO os) → Heap
  | [], _ => []
  | .ty _ :: r, d => newsO r d.2
  | .row k _ own :: r, d => some ⟨.row k d.1, own, none⟩ :: newsO r d.2
  | .agg cs :: r, d => newsCO cs (tysO r) d ++ newsO r (restCO cs (tysO r) d)
  | .prow _ _ :: r, d => newsO r d.2
  | .psegs _ cs :: r, d => newsCO cs (tysO r) d ++ newsO r (restCO cs (tysO r) d)
def upsO : (os : List Out) → D (tysO os) → Nat → List (Nat × Cont)
  | [], _, _ => []
  | .ty _ :: r, d, b => upsO r d.2 b
  | .row _ _ _ :: r, d, b => upsO r d.2 (b + 1)
  | .agg cs :: r, d, b => upsO r (restCO cs (tysO r) d) (b + cntCO cs)
  | .prow pin k :: r, d, b => (pin, .row k d.1) :: upsO r d.2 b
  | .psegs pin cs :: r, d, b => (pin, .segs (cellsCO cs (tysO r) d b)) :: upsO r (restCO cs (tysO r) d) (b + cntCO cs)
theorem newsCO_len : ∀ {cs : List CO} {acc : List Ty} {d : D (tysCO cs acc)}, (newsCO cs acc d).length = cntCO cs
  | [], _, _ => rfl
  | .hole _ :: r, acc, d => newsCO_len (cs := r) (d := d.2)
  | .const _ :: r, acc, d => newsCO_len (cs := r) (d := d)
  | .row _ _ _ :: r, acc, d => by simp [newsCO, cntCO, newsCO_len (cs := r) (d := d.2)]
theorem newsCO_some : ∀ {cs : List CO} {acc : List Ty} {d : D (tysCO cs acc)}, ∀ x ∈ newsCO cs acc d, x ≠ none
  | [], _, _ => by simp [newsCO]
  | .hole _ :: r, acc, d => newsCO_some (cs := r) (d := d.2)
  | .const _ :: r, acc, d => newsCO_some (cs := r) (d := d)
  | .row _ _ _ :: r, acc, d => by
    intro x hx
    simp only [newsCO, List.mem_cons] at hx
    rcases hx with rfl | hx
    · simp
    · exact newsCO_some (cs := r) (d := d.2) x hx
theorem newsO_mem : ∀ {os : List Out} {d : D (tysO os)}, ∀ x ∈ newsO os d, x ≠ none
  | [], _ => by simp [newsO]
  | .ty _ :: r, d => newsO_mem (os := r) (d := d.2)
  | .row _ _ _ :: r, d => by
    intro x hx
    simp only [newsO, List.mem_cons] at hx
    rcases hx with rfl | hx
    · simp
    · exact newsO_mem (os := r) (d := d.2) x hx
  | .agg cs :: r, d => by
    intro x hx
    simp only [newsO, List.mem_append] at hx
    rcases hx with hx | hx
    · exact newsCO_some x hx
    · exact newsO_mem x hx
  | .prow _ _ :: r, d => newsO_mem (os := r) (d := d.2)
  | .psegs _ cs :: r, d => by
    intro x hx
    simp only [newsO, List.mem_append] at hx
    rcases hx with hx | hx
    · exact newsCO_some x hx
    · exact newsO_mem x hx
theorem newsO_some {os : List Out} {d : D (tysO os)} (i : Nat) (hi : i < (newsO os d).length) : (newsO os d)[i] ≠ none := newsO_mem _ (List.getElem_mem hi)
def pinAt : Heap → Nat → Nat → Option Nat
  | [], _, _ => none
  | o :: r, k, i => match o with
    | some ob => if ob.pin = some k then some i else pinAt r k (i + 1)
    | none => pinAt r k (i + 1)
theorem pinAt_spec : ∀ {H : Heap} {k i b : Nat}, pinAt H k i = some b → i ≤ b ∧ ∃ o, H[b - i]? = some (some o) ∧ o.pin = some k
  | [], k, i, b, h => by cases h
  | o :: r, k, i, b, h => by
    have next : pinAt r k (i + 1) = some b → i ≤ b ∧ ∃ o', (o :: r)[b - i]? = some (some o') ∧ o'.pin = some k := by
      intro h
      obtain ⟨h1, o', h2, h3⟩ := pinAt_spec h
      refine ⟨by omega, o', ?_, h3⟩
      rw [show b - i = (b - (i + 1)) + 1 by omega]
      simpa using h2
    unfold pinAt at h
    split at h
    · rename_i ob
      split at h
      · rename_i hk
        cases h
        exact ⟨Nat.le_refl _, ob, by simp, hk⟩
      · exact next h
    · exact next h
def exRow (H : Heap) (k : IntKind) (sz : Nat) (own : Bool) (x : AV) (used : List Nat) : Option (List Int × List Nat) :=
  match x with
  | .nils => if 1 ≤ sz then some ([], used) else none
  | .sl b off len s c => if s = sz ∧ 1 ≤ sz ∧ used.contains b = false ∧ (own = true → c = .own) then
      match H[b]? with
      | some (some ⟨_, o, _⟩) => if own = true → o = true then
          match wholeC H (.sl b off len s c) with
          | some (.row k' l) => if k' = k then some (l, b :: used) else none
          | _ => none
        else none
      | _ => none
    else none
  | _ => none
def exCO (H : Heap) : (cs : List CO) → (acc : List Ty) → (List Nat → Option (D acc)) → List AV → List Nat → Option (D (tysCO cs acc))
  | [], _, rest, [], used => rest used
  | .hole t :: r, acc, rest, xs, used => match popC t xs with
    | some (v, ys) => match exCO H r acc rest ys used with
      | some d => some (v, d)
      | none => none
    | none => none
  | .const a :: r, acc, rest, x :: xs, used => if sameA a x then exCO H r acc rest xs used else none
  | .row k sz own :: r, acc, rest, x :: xs, used => match exRow H k sz own x used with
    | some (l, used') => match exCO H r acc rest xs used' with
      | some d => some (l, d)
      | none => none
    | none => none
  | _, _, _, _, _ => none
def exO (H : Heap) (kept : List Nat) : (os : List Out) → List AV → List Nat → Option (D (tysO os))
  | [], [], _ => some ()
  | .ty t :: r, x :: xs, used => match getT t x, exO H kept r xs used with
    | some v, some d => some (v, d)
    | _, _ => none
  | .row k sz own :: r, x :: xs, used => match exRow H k sz own x used with
    | some (l, used') => match exO H kept r xs used' with
      | some d => some (l, d)
      | none => none
    | none => none
  | .agg cs :: r, x :: xs, used => match x with
    | .agg ys => exCO H cs (tysO r) (exO H kept r xs) ys used
    | _ => none
  | .prow pin k :: r, xs, used => match pinAt H pin 0 with
    | some b => match H[b]? with
      | some (some ⟨.row k' l, true, _⟩) => if k' = k ∧ kept.contains b = true then (match exO H kept r xs used with | some d => some (l, d) | none => none) else none
      | _ => none
    | none => none
  | .psegs pin cs :: r, xs, used => match pinAt H pin 0 with
    | some b => match H[b]? with
      | some (some ⟨.segs ys, true, _⟩) => if kept.contains b = true then exCO H cs (tysO r) (exO H kept r xs) ys used else none
      | _ => none
    | none => none
  | _, _, _ => none
def keptIx (H : Heap) : List Out → List Nat
  | [] => []
  | .prow pin _ :: r => (match pinAt H pin 0 with | some b => [b] | none => []) ++ keptIx H r
  | .psegs pin _ :: r => (match pinAt H pin 0 with | some b => [b] | none => []) ++ keptIx H r
  | _ :: r => keptIx H r
structure News (B : Base) (w : World) (N : List Place) (H : Heap) : Prop where
  len : N.length = H.length
  obj : ∀ (i : Nat) (o : AObj), H[i]? = some (some o) → o.pin = none ∧ (∃ k l, o.c = .row k l) ∧ ∃ pl, N[i]? = some pl ∧ ObjOk [] o pl B w ∧ (pl.nil = false → B.vis pl.blk)
  sep : ∀ (i j : Nat) (oi oj : AObj) (pi pj : Place), H[i]? = some (some oi) → H[j]? = some (some oj) → N[i]? = some pi → N[j]? = some pj → i ≠ j → oi.own = true → pi.nil = false → pj.nil = false → pi.blk ≠ pj.blk
def deepCO : List CO → Bool
  | [] => false
  | .hole t :: r => t.deep || deepCO r
  | _ :: r => deepCO r
def deepO : List Out → Bool
  | [] => false
  | .ty t :: r => t.deep || deepO r
  | .agg cs :: r => deepCO cs || deepO r
  | .psegs _ cs :: r => deepCO cs || deepO r
  | _ :: r => deepO r
def fzH (os : List Out) : Heap := if deepO os then [none] else []
def RelOut (B : Base) (w : World) (os : List Out) (d : D (tysO os)) (vs : List Value) : Prop :=
  ∃ N F : List Place, News B w N (newsO os d) ∧ F.length = (fzH os).length ∧ (∀ k ob, ¬ FzAt N k ob) ∧
    (∀ k ob, FzAt F k ob → w.heap[k]? = some ob ∧ B.vis k ∧ (B.w k ∨ B.f k)) ∧
    (∀ (i : Nat) (pi : Place) (oi : AObj), N[i]? = some pi → (newsO os d)[i]? = some (some oi) → oi.own = true → pi.nil = false → ¬ B.f pi.blk ∧ ∀ ob, ¬ FzAt F pi.blk ob) ∧
    (∀ M : List Place, RelL (M ++ (N ++ F)) (avsO os d M.length) vs) ∧
    ∀ (M : List Place) (pin : Nat) (c : Cont), (pin, c) ∈ upsO os d M.length → ∃ pl, B.pin pin pl ∧ ObjOk (M ++ (N ++ F)) ⟨c, true, none⟩ pl B w ∧
      (∀ (i : Nat) (pi : Place), N[i]? = some pi → pi.nil = false → pl.nil = false → pi.blk ≠ pl.blk) ∧ (pl.nil = false → ∀ ob, ¬ FzAt F pl.blk ob)
theorem News.nil (B : Base) (w : World) : News B w [] [] := ⟨rfl, fun i o h => (by simp at h), fun i j oi oj pi pj h => (by simp at h)⟩
def IntoB (M : List Place) (H : Heap) (used : List Nat) (N : List Place) (Hn : Heap) : Prop :=
  ∀ (i : Nat) (pi : Place) (oi : AObj), N[i]? = some pi → Hn[i]? = some (some oi) → pi.nil = false → ∃ b o p, b ∈ used ∧ H[b]? = some (some o) ∧ M[b]? = some p ∧ p.nil = false ∧ pi.blk = p.blk ∧ (oi.own = true → o.own = true)
def FromB (M : List Place) (H : Heap) (used : List Nat) (N : List Place) (Hn : Heap) : Prop :=
  ∀ (i : Nat) (pi : Place) (oi : AObj), N[i]? = some pi → Hn[i]? = some (some oi) → pi.nil = false → ∃ b o p, b ∉ used ∧ H[b]? = some (some o) ∧ M[b]? = some p ∧ p.nil = false ∧ pi.blk = p.blk ∧ (oi.own = true → o.own = true)
theorem News.append {B : Base} {w : World} {M : List Place} {H : Heap} (hH : RelH M H B w) {N1 N2 : List Place} {H1 H2 : Heap} {used used2 : List Nat} (h1 : News B w N1 H1) (h2 : News B w N2 H2) (f1 : FromB M H used N1 H1) (f2 : FromB M H used2 N2 H2)
    (hu : IntoB M H used2 N1 H1) : News B w (N1 ++ N2) (H1 ++ H2) := by
  have hl := h1.len
  have part : ∀ (i : Nat) (o : AObj) , (H1 ++ H2)[i]? = some (some o) → (i < N1.length ∧ H1[i]? = some (some o) ∧ (N1 ++ N2)[i]? = N1[i]?) ∨ (N1.length ≤ i ∧ H2[i - N1.length]? = some (some o) ∧ (N1 ++ N2)[i]? = N2[i - N1.length]?) := by
    intro i o h
    by_cases hi : i < N1.length
    · rw [List.getElem?_append_left (by omega)] at h
      exact .inl ⟨hi, h, List.getElem?_append_left hi⟩
    · rw [List.getElem?_append_right (by omega)] at h
      rw [← hl] at h
      exact .inr ⟨by omega, h, List.getElem?_append_right (by omega)⟩
  have cross : ∀ (i j : Nat) (oi oj : AObj) (pi pj : Place), N1[i]? = some pi → H1[i]? = some (some oi) → N2[j]? = some pj → H2[j]? = some (some oj) → (oi.own = true ∨ oj.own = true) → pi.nil = false → pj.nil = false → pi.blk ≠ pj.blk := by
    intro i j oi oj pi pj a1 a2 b1 b2 ho n1 n2
    obtain ⟨b, o, p, c1, c2, c3, c4, c5, c6⟩ := hu i pi oi a1 a2 n1
    obtain ⟨b', o', p', e1, e2, e3, e4, e5, e6⟩ := f2 j pj oj b1 b2 n2
    have hne : b ≠ b' := fun e => e1 (e ▸ c1)
    rw [c5, e5]
    rcases ho with ho | ho
    · exact hH.sep b b' o o' p p' c2 e2 c3 e3 hne (c6 ho) c4 e4
    · exact fun e => hH.sep b' b o' o p' p e2 c2 e3 c3 (fun e => hne e.symm) (e6 ho) e4 c4 e.symm
  refine ⟨by simp [hl, h2.len], fun i o h => ?_, fun i j oi oj pi pj hi hj hpi hpj hne how hni hnj => ?_⟩
  · rcases part i o h with ⟨_, g1, g2⟩ | ⟨_, g1, g2⟩
    · obtain ⟨a1, a2, pl, a3, a4⟩ := h1.obj i o g1
      exact ⟨a1, a2, pl, by rw [g2]; exact a3, a4⟩
    · obtain ⟨a1, a2, pl, a3, a4⟩ := h2.obj _ o g1
      exact ⟨a1, a2, pl, by rw [g2]; exact a3, a4⟩
  · rcases part i oi hi with ⟨l1, g1, g2⟩ | ⟨l1, g1, g2⟩ <;> rcases part j oj hj with ⟨l2, k1, k2⟩ | ⟨l2, k1, k2⟩
    · exact h1.sep i j oi oj pi pj g1 k1 (by rw [← g2]; exact hpi) (by rw [← k2]; exact hpj) hne how hni hnj
    · exact cross i _ oi oj pi pj (by rw [← g2]; exact hpi) g1 (by rw [← k2]; exact hpj) k1 (.inl how) hni hnj
    · exact fun e => cross j _ oj oi pj pi (by rw [← k2]; exact hpj) k1 (by rw [← g2]; exact hpi) g1 (.inr how) hnj hni e.symm
    · exact h2.sep _ _ oi oj pi pj g1 k1 (by rw [← g2]; exact hpi) (by rw [← k2]; exact hpj) (by omega) how hni hnj
theorem exRow_sound {M : List Place} {H : Heap} {B : Base} {w : World} (hH : RelH M H B w) {k : IntKind} {sz : Nat} {own : Bool} {x : AV} {used used' : List Nat} {l : List Int} (h : exRow H k sz own x used = some (l, used')) {v : Value} (hx : RelV M x v) :
    ∃ pl, pl.fz = noFz ∧ News B w [pl] [some ⟨.row k l, own, none⟩] ∧ FromB M H used [pl] [some ⟨.row k l, own, none⟩] ∧ (∀ b ∈ used, b ∈ used') ∧
      IntoB M H used' [pl] [some ⟨.row k l, own, none⟩] ∧
      ∀ M' : List Place, ∀ b, M'[b]? = some pl → RelV M' (slO b sz l own) v := by
  have one : ∀ (pl : Place), ObjOk [] ⟨.row k l, own, none⟩ pl B w → (pl.nil = false → B.vis pl.blk) → News B w [pl] [some ⟨.row k l, own, none⟩] := by
    intro pl h1 h2
    refine ⟨rfl, fun i o ho => ?_, fun i j oi oj pi pj hi hj _ _ hne => ?_⟩
    · cases i with
      | zero => simp at ho; subst ho; exact ⟨rfl, ⟨k, l, rfl⟩, pl, rfl, h1, h2⟩
      | succ i => simp at ho
    · have h1 := (List.getElem?_eq_some_iff.1 hi).1
      have h2 := (List.getElem?_eq_some_iff.1 hj).1
      simp at h1 h2
      omega
  have at0 : ∀ (pl pi : Place) (oi : AObj) (i : Nat), [pl][i]? = some pi → [some (⟨.row k l, own, none⟩ : AObj)][i]? = some (some oi) → pi = pl ∧ oi = ⟨.row k l, own, none⟩ := by
    intro pl pi oi i h1 h2
    cases i with
    | zero => simp at h1 h2; exact ⟨h1.symm, h2.symm⟩
    | succ i => simp at h1
  unfold exRow at h
  split at h
  · split at h
    · rename_i hs
      cases h
      have hv : v = .slice none 0 0 := by simpa [RelV, RelX] using hx
      subst hv
      refine ⟨⟨true, 0, 0, 0, 0, noFz⟩, rfl, one _ (.inl ⟨rfl, rfl, by simp [RelO]⟩) (fun h => (by cases h)), fun i pi oi h1 h2 hn => ?_, fun b hb => hb, fun i pi oi h1 h2 hn => ?_, fun M' b hb => ?_⟩
      · rw [(at0 _ _ _ _ h1 h2).1] at hn; cases hn
      · rw [(at0 _ _ _ _ h1 h2).1] at hn; cases hn
      · unfold slO
        rw [div_len (n := ([] : List Int).length) (len := 0) (by simp) hs]
        simp only [RelV, RelX]
        exact ⟨⟨true, 0, 0, 0, 0, noFz⟩, none, 0, hb, rfl, by simp, Nat.le_refl _, fun _ => ⟨fun _ => rfl, rfl⟩, fun h => (by cases h), fun hf => (by cases own <;> simp at hf), fun _ => ⟨trivial, rfl, by simp, by simp⟩, fun _ => ⟨trivial, by simp⟩, by rw [has_iff]; simp [loB, hiB]⟩
    · cases h
  · rename_i b off len s c
    split at h
    · rename_i hcond
      obtain ⟨rfl, hs, hnu, hco⟩ := hcond
      split at h
      · rename_i oc o op hob
        split at h
        · rename_i hoo
          split at h
          · rename_i k' l' hwc
            split at h
            · rename_i hk
              subst hk
              cases h
              obtain ⟨us, hus, lus⟩ := wholeC_rel hH hx hwc (fun _ _ _ _ _ e => by cases e; rfl)
              obtain ⟨pl0, hpl0, hok0⟩ := hH.obj b _ hob
              have hx0 := hx
              simp only [RelV, RelX] at hx0
              obtain ⟨pl, A, cap, hpl, hv, hb, hcap, hnil, hnn, hfull, hown, hwhole, hhas⟩ := hx0
              rw [hpl0] at hpl
              cases hpl
              have hv : v = .slice A len cap := by simpa using hv
              have hlus := lus.1
              simp only [slLen] at hlus
              have hll : l.length = len * s := by have := congrArg List.length hus.1; simp at this; omega
              have hdiv := div_len hll hs
              have hnb : b ∉ used := fun hm => by
                have : used.contains b = true := by simpa using hm
                rw [this] at hnu; cases hnu
              have off0 : own = true → off = 0 ∧ pl0.off = 0 ∧ len * s = pl0.n ∧ cap * s ≤ pl0.size := fun ho => hown (hco ho)
              refine ⟨⟨pl0.nil, pl0.blk, pl0.off + off, len * s, pl0.size, noFz⟩, rfl, one _ ?_ (fun hn => hH.vis b _ pl0 hob hpl0 hn), fun i pi oi h1 h2 hn => ?_, fun b' hb' => by simp [hb'], fun i pi oi h1 h2 hn => ?_, fun M' b' hb' => ?_⟩
              · cases hn : pl0.nil with
                | true =>
                  have h1 := (hnil hn).2
                  have hl0 : len = 0 := by omega
                  have : l = [] := List.eq_nil_of_length_eq_zero (by rw [hll]; simp [hl0])
                  subst this
                  exact .inl ⟨rfl, by simp [hl0], by simp [RelO]⟩
                | false =>
                  rcases hok0 with ⟨n1, _⟩ | ⟨_, cs, el, fz, g1, g2, g3, g4, g5⟩
                  · rw [hn] at n1; cases n1
                  · refine .inr ⟨rfl, cs, el, fz, g1, g2, by simp only; omega, ?_, fun ho => ?_⟩
                    · simp only
                      have hu : us = (cs.toList.drop (pl0.off + off)).take (len * s) := by
                        obtain ⟨_, A2, cap2, hv2, _, hm⟩ := lus
                        simp only [slLen] at hv2 hm
                        by_cases hz : len * s = 0
                        · rw [hz] at hlus ⊢
                          have : us = [] := List.eq_nil_of_length_eq_zero hlus
                          rw [this]; simp
                        · rcases hm with hm | ⟨blk, o2, cs2, el2, fz2, e, hg2, hle2, hus2⟩
                          · exact absurd hm hz
                          · have hl0 : 0 < len := by
                              rcases Nat.eq_zero_or_pos len with h0 | h0
                              · rw [h0] at hz; simp at hz
                              · exact h0
                            have hA := (hnn hn).2 (.inl hl0)
                            rw [hv] at hv2
                            injection hv2 with e1
                            rw [← e1, hA] at e
                            injection e with e
                            injection e with e2 e3
                            rw [← e2, g1] at hg2
                            cases hg2
                            rw [hus2, ← e3]
                      rw [← hu]
                      exact hus
                    · simp only at ho
                      obtain ⟨z1, z2, z3⟩ := g5 (hoo ho)
                      obtain ⟨y1, y2, y3, y4⟩ := off0 ho
                      exact ⟨z1, by simp [y1, y2], z3⟩
              · obtain ⟨e1, e2⟩ := at0 _ _ _ _ h1 h2
                subst e1; subst e2
                exact ⟨b, _, pl0, hnb, hob, hpl0, hn, rfl, hoo⟩
              · obtain ⟨e1, e2⟩ := at0 _ _ _ _ h1 h2
                subst e1; subst e2
                exact ⟨b, _, pl0, by simp, hob, hpl0, hn, rfl, hoo⟩
              · unfold slO
                rw [hdiv]
                simp only [RelV, RelX]
                refine ⟨⟨pl0.nil, pl0.blk, pl0.off + off, len * s, pl0.size, noFz⟩, A, cap, hb', by rw [hv], by simp, hcap, fun hn => ⟨fun hf => ?_, (hnil hn).2⟩, fun hn => ⟨(hnn hn).1, fun hq => ?_⟩, fun hf => (by cases own <;> simp at hf), fun hf => ?_, fun _ => ⟨trivial, rfl⟩, hhas⟩
                · exact (hnil hn).1 (hco (by cases own with | true => rfl | false => simp at hf))
                · have h1 : 0 < len ∨ c = .own := by
                    rcases hq with hq | hq
                    · exact .inl hq
                    · exact .inr (hco (by cases own with | true => rfl | false => simp at hq))
                  simpa using (hnn hn).2 h1
                · have ho : own = true := by cases own with | true => rfl | false => simp at hf
                  obtain ⟨y1, y2, y3, y4⟩ := off0 ho
                  exact ⟨trivial, by simp [y1, y2], rfl, y4⟩
            · cases h
          · cases h
        · cases h
      · cases h
    · cases h
  · cases h
theorem FromB.append {M : List Place} {H : Heap} {used used2 : List Nat} {N1 N2 : List Place} {H1 H2 : Heap} (hl : N1.length = H1.length) (f1 : FromB M H used N1 H1) (f2 : FromB M H used2 N2 H2) (hu : ∀ b ∈ used, b ∈ used2) : FromB M H used (N1 ++ N2) (H1 ++ H2) := by
  intro i pi oi h1 h2 hn
  by_cases hi : i < N1.length
  · rw [List.getElem?_append_left hi] at h1
    rw [List.getElem?_append_left (by omega)] at h2
    exact f1 i pi oi h1 h2 hn
  · rw [List.getElem?_append_right (by omega)] at h1
    rw [List.getElem?_append_right (by omega), ← hl] at h2
    obtain ⟨b, o, p, a1, a2⟩ := f2 _ pi oi h1 h2 hn
    exact ⟨b, o, p, fun h => a1 (hu b h), a2⟩
theorem IntoB.append {M : List Place} {H : Heap} {used used2 : List Nat} {N1 N2 : List Place} {H1 H2 : Heap} (hl : N1.length = H1.length) (f1 : IntoB M H used N1 H1) (f2 : IntoB M H used2 N2 H2) (hu : ∀ b ∈ used, b ∈ used2) : IntoB M H used2 (N1 ++ N2) (H1 ++ H2) := by
  intro i pi oi h1 h2 hn
  by_cases hi : i < N1.length
  · rw [List.getElem?_append_left hi] at h1
    rw [List.getElem?_append_left (by omega)] at h2
    obtain ⟨b, o, p, a1, a2⟩ := f1 i pi oi h1 h2 hn
    exact ⟨b, o, p, hu b a1, a2⟩
  · rw [List.getElem?_append_right (by omega)] at h1
    rw [List.getElem?_append_right (by omega), ← hl] at h2
    exact f2 _ pi oi h1 h2 hn
theorem FromB.nil (M : List Place) (H : Heap) (used : List Nat) : FromB M H used [] [] := fun i pi oi h => by simp at h
theorem IntoB.nil (M : List Place) (H : Heap) (used : List Nat) : IntoB M H used [] [] := fun i pi oi h => by simp at h
theorem exCO_sound {M : List Place} {H : Heap} {B : Base} {w : World} (hH : RelH M H B w) : ∀ {cs : List CO} {acc : List Ty} {rest : List Nat → Option (D acc)} {xs : List AV} {vs : List Value} {used : List Nat} {d : D (tysCO cs acc)}, exCO H cs acc rest xs used = some d → RelC M xs vs →
    ∃ N used', (∀ k ob, ¬ FzAt N k ob) ∧ News B w N (newsCO cs acc d) ∧ FromB M H used N (newsCO cs acc d) ∧ (∀ b ∈ used, b ∈ used') ∧ IntoB M H used' N (newsCO cs acc d) ∧
      (∀ M' Nr : List Place, (deepCO cs = true → FzSub M Nr) → RelC (M' ++ N ++ Nr) (cellsCO cs acc d M'.length) vs) ∧ rest used' = some (restCO cs acc d)
  | [], acc, rest, xs, vs, used, d, h, hr => by
    cases xs with
    | nil =>
      simp only [exCO] at h
      rw [RelC_nil] at hr
      exact ⟨[], used, fun k ob h => FzAt.nil h, News.nil B w, FromB.nil _ _ _, fun b hb => hb, IntoB.nil _ _ _, fun M' Nr _ => by simp only [cellsCO]; rw [RelC_nil]; exact hr, h⟩
    | cons _ _ => simp [exCO] at h
  | .hole ty :: cs, acc, rest, xs, vs, used, d, h, hr => by
    simp only [exCO] at h
    split at h
    · rename_i v ys hp
      split at h
      · rename_i d' hd
        cases h
        obtain ⟨a, r, rfl, h1, h2⟩ := popC_rel (M' := M) (fun _ => FzSub.refl M) hp hr
        obtain ⟨N, used', a0, a1, a2, a3, a4, a5, a6⟩ := exCO_sound hH hd h2
        exact ⟨N, used', a0, a1, a2, a3, a4, fun M' Nr hz => RelC_cons.2 ⟨a, r, rfl, mkC_mono (fun hd k ob h => FzAt.right _ (hz (by simp [deepCO, hd]) k ob h)) h1, a5 M' Nr fun hd => hz (by simp [deepCO, hd])⟩, a6⟩
      · cases h
    · cases h
  | .const _ :: cs, acc, rest, [], vs, used, d, h, hr => by simp [exCO] at h
  | .row _ _ _ :: cs, acc, rest, [], vs, used, d, h, hr => by simp [exCO] at h
  | c :: cs, acc, rest, x :: xs, vs, used, d, h, hr => by
    obtain ⟨u, r, rfl, hx, hr'⟩ := RelC_cons.1 hr
    cases c with
    | hole ty =>
      simp only [exCO] at h
      split at h
      · rename_i v ys hp
        split at h
        · rename_i d' hd
          cases h
          obtain ⟨a, r', e, h1, h2⟩ := popC_rel (M' := M) (fun _ => FzSub.refl M) hp hr
          obtain ⟨N, used', a0, a1, a2, a3, a4, a5, a6⟩ := exCO_sound hH hd h2
          exact ⟨N, used', a0, a1, a2, a3, a4, fun M' Nr hz => RelC_cons.2 ⟨a, r', e, mkC_mono (fun hd k ob h => FzAt.right _ (hz (by simp [deepCO, hd]) k ob h)) h1, a5 M' Nr fun hd => hz (by simp [deepCO, hd])⟩, a6⟩
        · cases h
      · cases h
    | const k =>
      simp only [exCO] at h
      split at h
      · rename_i hs
        obtain ⟨N, used', a0, a1, a2, a3, a4, a5, a6⟩ := exCO_sound hH h hr'
        have : ∃ v, u = [v] := by
          have hl := RelX_length hx
          have : width x = 1 := by
            cases x <;> first | rfl | (exfalso; cases k <;> simp [sameA] at hs)
          rw [this] at hl
          exact List.length_eq_one_iff.1 hl
        obtain ⟨v, rfl⟩ := this
        exact ⟨N, used', a0, a1, a2, a3, a4, fun M' Nr hz => RelC_cons.2 ⟨[v], r, rfl, sameA_rel hs hx, a5 M' Nr hz⟩, a6⟩
      · cases h
    | row k sz own =>
      simp only [exCO] at h
      split at h
      · rename_i l used1 hrow
        split at h
        · rename_i d' hd
          cases h
          have : ∃ v, u = [v] := by
            have hl := RelX_length hx
            have : width x = 1 := by
              unfold exRow at hrow
              split at hrow <;> first | rfl | (cases hrow)
            rw [this] at hl
            exact List.length_eq_one_iff.1 hl
          obtain ⟨v, rfl⟩ := this
          obtain ⟨pl, b0, b1, b2, b3, b4, b5⟩ := exRow_sound hH hrow hx
          obtain ⟨N, used', a0, a1, a2, a3, a4, a5, a6⟩ := exCO_sound hH hd hr'
          refine ⟨[pl] ++ N, used', fun k ob h => (h.append).elim (fun h => FzAt.nil (FzAt.snoc (M := []) b0 h)) (a0 k ob), ?_, ?_, fun b hb => a3 b (b3 b hb), ?_, fun M' Nr hz => ?_, a6⟩
          · exact News.append hH (H1 := [some ⟨.row k l, own, none⟩]) b1 a1 b2 a2 b4
          · exact FromB.append (H1 := [some ⟨.row k l, own, none⟩]) rfl b2 a2 b3
          · exact IntoB.append (H1 := [some ⟨.row k l, own, none⟩]) rfl b4 a4 a3
          · have := a5 (M' ++ [pl]) Nr hz
            rw [List.length_append] at this
            refine RelC_cons.2 ⟨[v], r, rfl, b5 _ _ (by simp), ?_⟩
            simpa using this
        · cases h
      · cases h
theorem exO_sound {M : List Place} {H : Heap} {B : Base} {w : World} (hH : RelH M H B w) {kept : List Nat} : ∀ {os : List Out} {xs : List AV} {used : List Nat} {d : D (tysO os)} {vs : List Value}, exO H kept os xs used = some d → RelL M xs vs → (∀ b ∈ kept, b ∈ used) →
    ∃ N, (∀ k ob, ¬ FzAt N k ob) ∧ News B w N (newsO os d) ∧ FromB M H used N (newsO os d) ∧ (∀ M' Nr : List Place, (deepO os = true → FzSub M Nr) → RelL (M' ++ N ++ Nr) (avsO os d M'.length) vs) ∧
      ∀ (M' Nr : List Place), (deepO os = true → FzSub M Nr) → ∀ (pin : Nat) (c : Cont), (pin, c) ∈ upsO os d M'.length → ∃ pl b o, B.pin pin pl ∧ ObjOk (M' ++ N ++ Nr) ⟨c, true, none⟩ pl B w ∧ b ∈ kept ∧ H[b]? = some (some o) ∧ o.own = true ∧ M[b]? = some pl
  | [], xs, used, d, vs, h, hl, hk => by
    cases xs with
    | nil =>
      rw [RelL_nil] at hl
      exact ⟨[], fun k ob h => FzAt.nil h, News.nil B w, FromB.nil _ _ _, fun M' Nr _ => by simp only [avsO]; rw [RelL_nil]; exact hl, fun M' Nr _ pin c hm => by simp [upsO] at hm⟩
    | cons _ _ => simp [exO] at h
  | .ty t :: r, [], used, d, vs, h, hl, hk => by simp [exO] at h
  | .row k sz own :: r, [], used, d, vs, h, hl, hk => by simp [exO] at h
  | .agg cs :: r, [], used, d, vs, h, hl, hk => by simp [exO] at h
  | .ty t :: r, x :: xs, used, d, vs, h, hl, hk => by
    simp only [exO] at h
    split at h
    · rename_i v d' hv hd
      cases h
      obtain ⟨u, vs', rfl, hx, hr⟩ := RelL_cons.1 hl
      obtain ⟨N, a0, a1, a2, a3, a4⟩ := exO_sound hH hd hr hk
      exact ⟨N, a0, a1, a2, fun M' Nr hz => RelL_cons.2 ⟨u, vs', rfl, getT_rel (fun hd k ob h => FzAt.right _ (hz (by simp [deepO, hd]) k ob h)) hv hx, a3 M' Nr fun hd => hz (by simp [deepO, hd])⟩, fun M' Nr hz => a4 M' Nr fun hd => hz (by simp [deepO, hd])⟩
    · cases h
  | .row k sz own :: r, x :: xs, used, d, vs, h, hl, hk => by
    simp only [exO] at h
    split at h
    · rename_i l used1 hrow
      split at h
      · rename_i d' hd
        cases h
        obtain ⟨u, vs', rfl, hx, hr⟩ := RelL_cons.1 hl
        obtain ⟨pl, b0, b1, b2, b3, b4, b5⟩ := exRow_sound hH hrow hx
        obtain ⟨N, a0, a1, a2, a3, a4⟩ := exO_sound hH hd hr (fun b hb => b3 b (hk b hb))
        refine ⟨[pl] ++ N, fun k ob h => (h.append).elim (fun h => FzAt.nil (FzAt.snoc (M := []) b0 h)) (a0 k ob), ?_, ?_, fun M' Nr hz => ?_, fun M' Nr hz pin c hm => ?_⟩
        · exact News.append hH (H1 := [some ⟨.row k l, own, none⟩]) b1 a1 b2 a2 b4
        · exact FromB.append (H1 := [some ⟨.row k l, own, none⟩]) rfl b2 a2 b3
        · have := a3 (M' ++ [pl]) Nr hz
          rw [List.length_append] at this
          refine RelL_cons.2 ⟨u, vs', rfl, b5 _ _ (by simp), ?_⟩
          simpa using this
        · have := a4 (M' ++ [pl]) Nr hz pin c (by rw [List.length_append]; simpa [upsO] using hm)
          simpa using this
      · cases h
    · cases h
  | .agg cs :: r, x :: xs, used, d, vs, h, hl, hk => by
    simp only [exO] at h
    split at h
    · rename_i ys
      obtain ⟨u, vs', rfl, hx, hr⟩ := RelL_cons.1 hl
      obtain ⟨us, hu, hc⟩ := RelX_agg.1 hx
      obtain ⟨N1, used1, b0, b1, b2, b3, b4, b5, b6⟩ := exCO_sound hH h hc
      obtain ⟨N, a0, a1, a2, a3, a4⟩ := exO_sound hH b6 hr (fun b hb => b3 b (hk b hb))
      have hln : N1.length = cntCO cs := by rw [b1.len, newsCO_len]
      refine ⟨N1 ++ N, fun k ob h => (h.append).elim (b0 k ob) (a0 k ob), News.append hH b1 a1 b2 a2 b4, FromB.append b1.len b2 a2 b3, fun M' Nr hz => ?_, fun M' Nr hz pin c hm => ?_⟩
      · refine RelL_cons.2 ⟨u, vs', rfl, RelX_agg.2 ⟨us, hu, ?_⟩, ?_⟩
        · have := b5 M' (N ++ Nr) (fun hd k ob h => FzAt.right _ (hz (by simp [deepO, hd]) k ob h))
          simpa using this
        · have := a3 (M' ++ N1) Nr (fun hd => hz (by simp [deepO, hd]))
          rw [List.length_append, hln] at this
          simpa using this
      · have := a4 (M' ++ N1) Nr (fun hd => hz (by simp [deepO, hd])) pin c (by rw [List.length_append, hln]; simpa [upsO] using hm)
        simpa using this
    · cases h
  | .prow pin k :: r, xs, used, d, vs, h, hl, hk => by
    simp only [exO] at h
    split at h
    · rename_i b hb
      split at h
      · rename_i k' l pn hob
        split at h
        · rename_i hc
          obtain ⟨rfl, hkb⟩ := hc
          split at h
          · rename_i d' hd
            cases h
            obtain ⟨N, a0, a1, a2, a3, a4⟩ := exO_sound hH hd hl hk
            refine ⟨N, a0, a1, a2, a3, fun M' Nr hz pin' c hm => ?_⟩
            simp only [upsO, List.mem_cons, Prod.mk.injEq] at hm
            rcases hm with ⟨rfl, rfl⟩ | hm
            · obtain ⟨_, o, ho, hpo⟩ := pinAt_spec hb
              rw [Nat.sub_zero, hob] at ho
              cases ho
              obtain ⟨pl, hpl, hok⟩ := hH.obj b _ hob
              refine ⟨pl, b, _, hH.pin b _ pl _ hob hpl hpo, ?_, by simpa using hkb, hob, rfl, hpl⟩
              rcases hok with ⟨n1, n2, n3⟩ | ⟨n1, cs', el, fz, g1, g2, g3, g4, g5⟩
              · exact .inl ⟨n1, n2, n3⟩
              · exact .inr ⟨n1, cs', el, fz, g1, g2, g3, g4, g5⟩
            · exact a4 M' Nr hz pin' c hm
          · cases h
        · cases h
      · cases h
    · cases h
  | .psegs pin cs :: r, xs, used, d, vs, h, hl, hk => by
    simp only [exO] at h
    split at h
    · rename_i b hb
      split at h
      · rename_i ys pn hob
        split at h
        · rename_i hkb
          obtain ⟨_, o, ho, hpo⟩ := pinAt_spec hb
          rw [Nat.sub_zero, hob] at ho
          cases ho
          obtain ⟨pl, hpl, hok⟩ := hH.obj b _ hob
          have hvs : ∃ us, RelC M ys us ∧ (∀ M2 ys', RelC M2 ys' us → ObjOk M2 ⟨.segs ys', true, none⟩ pl B w) := by
            rcases hok with ⟨n1, n2, n3⟩ | ⟨n1, cs', el, fz, g1, g2, g3, g4, g5⟩
            · exact ⟨_, n3, fun M2 ys' hy => .inl ⟨n1, n2, hy⟩⟩
            · exact ⟨_, g4, fun M2 ys' hy => .inr ⟨n1, cs', el, fz, g1, g2, g3, hy, g5⟩⟩
          obtain ⟨us, hus, hus2⟩ := hvs
          obtain ⟨N1, used1, b0, b1, b2, b3, b4, b5, b6⟩ := exCO_sound hH h hus
          obtain ⟨N, a0, a1, a2, a3, a4⟩ := exO_sound hH b6 hl (fun b hb => b3 b (hk b hb))
          have hln : N1.length = cntCO cs := by rw [b1.len, newsCO_len]
          refine ⟨N1 ++ N, fun k ob h => (h.append).elim (b0 k ob) (a0 k ob), News.append hH b1 a1 b2 a2 b4, FromB.append b1.len b2 a2 b3, fun M' Nr hz => ?_, fun M' Nr hz pin' c hm => ?_⟩
          · have := a3 (M' ++ N1) Nr (fun hd => hz (by simp [deepO, hd]))
            rw [List.length_append, hln] at this
            simpa [avsO] using this
          · simp only [upsO, List.mem_cons, Prod.mk.injEq] at hm
            rcases hm with ⟨rfl, rfl⟩ | hm
            · refine ⟨pl, b, _, hH.pin b _ pl _ hob hpl hpo, ?_, by simpa using hkb, hob, rfl, hpl⟩
              have := hus2 _ _ (b5 M' (N ++ Nr) (fun hd k ob h => FzAt.right _ (hz (by simp [deepO, hd]) k ob h)))
              simpa using this
            · have := a4 (M' ++ N1) Nr (fun hd => hz (by simp [deepO, hd])) pin' c (by rw [List.length_append, hln]; exact hm)
              simpa using this
        · cases h
      · cases h
    · cases h
theorem relOut_of {M : List Place} {H : Heap} {B : Base} {w : World} (hH : RelH M H B w) {os : List Out} {xs : List AV} {d : D (tysO os)} {vs : List Value} (h : exO H (keptIx H os) os xs (keptIx H os) = some d) (hl : RelL M xs vs) : RelOut B w os d vs := by
  obtain ⟨N, a0, a1, a2, a3, a4⟩ := exO_sound hH h hl (fun b hb => hb)
  obtain ⟨F, hF, hF1, hF2⟩ : ∃ F : List Place, F.length = (fzH os).length ∧ (deepO os = true → FzSub M F) ∧ FzSub F M := by
    unfold fzH
    split
    · exact ⟨[fzPlace M], rfl, fun _ => fzPlace_sup hH, fzPlace_sub⟩
    · rename_i hd
      exact ⟨[], rfl, fun h => absurd h hd, fun k ob h => absurd h FzAt.nil⟩
  have own : ∀ (i : Nat) (pi : Place) (oi : AObj), N[i]? = some pi → (newsO os d)[i]? = some (some oi) → oi.own = true → pi.nil = false → ¬ B.f pi.blk ∧ ∀ ob, ¬ FzAt F pi.blk ob := by
    intro i pi oi hpi ho how hn
    obtain ⟨b', o', p', e1, e2, e3, e4, e5, e6⟩ := a2 i pi oi hpi ho hn
    obtain ⟨f1, f2⟩ := hH.fo b' o' p' e2 e3 (e6 how) e4
    rw [e5]
    exact ⟨f1, fun ob h => f2 ob (hF2 _ _ h)⟩
  refine ⟨N, F, a1, hF, a0, fun k ob h => hH.fz k ob (hF2 k ob h), own, fun M' => by simpa using a3 M' F hF1, fun M' pin c hm => ?_⟩
  obtain ⟨pl, b, o, c1, c2, c3, c4, c5, c6⟩ := a4 M' F hF1 pin c hm
  refine ⟨pl, c1, by simpa using c2, fun i pi hpi hn hn2 => ?_, fun hn ob h => (hH.fo b o pl c4 c6 c5 hn).2 ob (hF2 _ _ h)⟩
  have hi : i < (newsO os d).length := by rw [← a1.len]; exact (List.getElem?_eq_some_iff.1 hpi).1
  cases ho : (newsO os d)[i] with
  | none => exact absurd ho (newsO_some i hi)
  | some oi =>
    have ho' : (newsO os d)[i]? = some (some oi) := by rw [List.getElem?_eq_getElem hi, ho]
    obtain ⟨b', o', p', e1, e2, e3, e4, e5, e6⟩ := a2 i pi oi hpi ho' hn
    rw [e5]
    exact fun e => hH.sep b b' o o' pl p' c4 e2 c6 e3 (fun e => e1 (e ▸ c3)) c5 hn2 e4 e.symm
end Go.AE
set_option linter.unusedVariables false
set_option linter.unusedSimpArgs false
namespace Go.AE
open Go Go.RowKit
def emptyEnv (ρ : Type) : Env ρ := ⟨fun _ => none, fun _ => none⟩
theorem emptyEnv_ok (P : Program) (ρ : Type) : EnvOk P (emptyEnv ρ) := ⟨fun _ _ h => (by cases h), fun _ _ h => (by cases h)⟩
theorem relH_nil (w : World) : RelH [] [] (Base.at w.heap.size) w := ⟨rfl, fun k hk => ⟨hk, trivial⟩, fun i o h => (by simp at h), fun i j oi oj pi pj h => (by simp at h), fun i o pl k h => (by simp at h), fun i o pl h => (by simp at h), fun k ob h => absurd h FzAt.nil, fun i o pl h => (by simp at h), fun k hk h => absurd hk (Nat.not_le_of_lt h)⟩
abbrev M0 : List Place := [⟨true, 0, 0, 0, 0, noFz⟩]
abbrev H0 : Heap := [none]
theorem relH_0 (w : World) : RelH M0 H0 (Base.at w.heap.size) w := (relH_nil w).addNone _ (fun k ob h => by cases h)
theorem noOwn_0 : ∀ (i : Nat) (o : AObj), H0[i]? = some (some o) → o.own = false := fun i o h => by cases i <;> simp [H0] at h
def callableB (P : Program) : Bool := P.funcs.toList.all fun fn => !(fn.body.isSome && decide (fn.name = "runtime.NumGoroutine"))
theorem callable_of {P : Program} (h : callableB P = true) : Callable P := by
  intro g fn hg hb e
  have h1 := List.all_eq_true.1 h fn (by
    have := Array.mem_of_getElem? hg
    simpa using this)
  simp [hb, e] at h1
theorem has_wf {k : IntKind} {x : Int} (h : (Lit.int k x).wf = true) : k.has x := by
  have : k.min ≤ x ∧ x ≤ k.max := by simpa [Lit.wf] using h
  exact this
end Go.AE
set_option linter.unusedVariables false
set_option linter.unusedSimpArgs false
namespace Go.AE
open Go Go.RowKit
variable {ρ : Type}
def bldS (nt : Nat) (its : List Item) (d : D (tysI its [])) : St := (bldI its [] d (st0 nt)).1
def extS (nt : Nat) (its : List Item) (st : St) : Option (D (tysI its [])) := if st.tmps.length = nt then extI st true its [] () [drop0] else none
theorem extS_rel {M : List Place} {st : St} {B : Base} {w0 : World} {a : Go.Act} {w : World} (r : Rel M st B w0 a w) {its : List Item} {nt : Nat} {d : D (tysI its [])} (h : extS nt its st = some d) : ∃ M', Rel M' (bldS nt its d) B w0 a w := by
  unfold extS at h
  split at h
  · rename_i hn
    exact ext_rel r h hn
  · cases h
def annS (nt : Nat) (ins outs : List Item) (L : D (tysI ins []) → Option (D (tysI outs []))) : Ann ρ := fun st K =>
  (extS nt ins st).bind fun d => (L d).bind fun r => K .normal (bldS nt outs r)
def annX (nt : Nat) (ins outX outs : List Item) (e2 : Exit) (L : D (tysI ins []) → Option (D (tysI outX []) ⊕ D (tysI outs []))) : Ann ρ := fun st K =>
  (extS nt ins st).bind fun d => (L d).bind fun r => match r with
    | .inl r => K e2 (bldS nt outX r)
    | .inr r => K .normal (bldS nt outs r)
def kS (nt : Nat) (ins outs : List Item) (id : Nat) (L : D (tysI ins []) → Option (D (tysI outs []))) : Exit → St → Option (D (tysI outs [])) := fun e st => match e with
  | .normal => (extS nt ins st).bind L
  | .exit j => if j = id then extS nt outs st else none
  | _ => none
def kX (nt : Nat) (ins outX outs : List Item) (id : Nat) (e2 : Exit) (L : D (tysI ins []) → Option (D (tysI outX []) ⊕ D (tysI outs []))) : Exit → St → Option (D (tysI outX []) ⊕ D (tysI outs [])) := fun e st => match e with
  | .normal => (extS nt ins st).bind L
  | .exit j => if j = id then (extS nt outs st).bind fun r => some (.inr r) else (match e2 with
    | .exit i => if j = i then (extS nt outX st).bind fun r => some (.inl r) else none
    | _ => none)
  | .ret => (match e2 with
    | .ret => (extS nt outX st).bind fun r => some (.inl r)
    | _ => none)
  | _ => none
abbrev Cals := ∀ (σ : Type), Cal σ
abbrev QCals := ∀ (σ : Type), QCal σ
theorem annX_ok {P : Program} (hP : Callable P) {cal : Cals} (hcal : ∀ σ f, CalAt P f (cal σ f)) {qcal : QCals} (hq : ∀ σ f, QCalAt P f (qcal σ f)) {nt : Nat} {ins outX outs : List Item} {e2 : Exit} {id : Nat} {body : Code}
    {L : Nat → D (tysI ins []) → Option (D (tysI outX []) ⊕ D (tysI outs []))} {ann : Nat → Option (Ann (D (tysI outX []) ⊕ D (tysI outs [])))} {B : Base} {w0 : World}
    (hann : ∀ id an c', ann id = some an → (id, c') ∈ blocks body → AnnAt P false B w0 (.block id c') an) (h0 : ∀ d, L 0 d = none)
    (hs : ∀ k d, evCode P (cal _) (qcal _) ann body (bldS nt ins d) (kX nt ins outX outs id e2 (L k)) = L (k + 1) d) (he : e2 = .ret ∨ ∃ j, e2 = .exit j ∧ j ≠ id) (F : Nat) :
    AnnAt (ρ := ρ) P false B w0 (.block id (.loop body)) (annX nt ins outX outs e2 (L F)) := by
  intro st K r h M a w Q hr hn
  unfold annX at h
  simp only [Option.bind_eq_some_iff] at h
  obtain ⟨d, hd, x, hx, hk⟩ := h
  refine wp_block ?_
  obtain ⟨M1, hr1⟩ := extS_rel hr hd
  refine wp_loop_ind (fun n a' w' => ∃ d' M', L n d' = some x ∧ Rel M' (bldS nt ins d') B w0 a' w') (n := F) ⟨d, M1, hx, hr1⟩ ?_
  rintro n a1 w1 ⟨d1, M1, h1, hr1⟩
  cases n with
  | zero => rw [h0] at h1; cases h1
  | succ n =>
    rw [← hs] at h1
    refine evCode_sound hP (hcal _) (hq _) body hann _ _ h1 M1 a1 w1 _ hr1 fun e M' st' a' w' hE hk' hr' => ?_
    have out1 : ∀ {r'}, extS nt outs st' = some r' → x = .inr r' → Q .normal a' w' := by
      intro r' hr2 hx2
      subst hx2
      obtain ⟨M2, hr3⟩ := extS_rel hr' hr2
      exact hn .normal M2 _ a' w' (fun h => by cases h) hk hr3
    have out2 : ∀ {r'}, extS nt outX st' = some r' → x = .inl r' → Q e2 a' w' := by
      intro r' hr2 hx2
      subst hx2
      obtain ⟨M2, hr3⟩ := extS_rel hr' hr2
      exact hn e2 M2 _ a' w' (fun h => by cases h) hk hr3
    cases e with
    | normal =>
      simp only [kX, Option.bind_eq_some_iff] at hk'
      obtain ⟨d2, hd2, hL⟩ := hk'
      obtain ⟨M2, hr2⟩ := extS_rel hr' hd2
      exact ⟨n, by omega, d2, M2, hL, hr2⟩
    | exit j =>
      simp only [kX] at hk'
      unfold Exit.inBlock
      show if j = id then Q .normal a' w' else Q (.exit j) a' w'
      split at hk'
      · rename_i hj
        rw [if_pos hj]
        simp only [Option.bind_eq_some_iff, Option.some.injEq] at hk'
        obtain ⟨r', h2, h3⟩ := hk'
        exact out1 h2 h3.symm
      · rename_i hj
        rw [if_neg hj]
        split at hk'
        · split at hk'
          · rename_i i hi
            simp only [Option.bind_eq_some_iff, Option.some.injEq] at hk'
            obtain ⟨r', h2, h3⟩ := hk'
            subst hi
            exact out2 h2 h3.symm
          · cases hk'
        · cases hk'
    | ret =>
      simp only [kX] at hk'
      split at hk'
      · simp only [Option.bind_eq_some_iff, Option.some.injEq] at hk'
        obtain ⟨r', h2, h3⟩ := hk'
        exact out2 h2 h3.symm
      · cases hk'
    | goto l => simp only [kX] at hk'; cases hk'
    | panic ch => simp only [kX] at hk'; cases hk'
    | outgrown => simp only [kX] at hk'; cases hk'
theorem annS_ok {P : Program} (hP : Callable P) {cal : Cals} (hcal : ∀ σ f, CalAt P f (cal σ f)) {qcal : QCals} (hq : ∀ σ f, QCalAt P f (qcal σ f)) {nt : Nat} {ins outs : List Item} {id : Nat} {body : Code}
    {L : Nat → D (tysI ins []) → Option (D (tysI outs []))} {ann : Nat → Option (Ann (D (tysI outs [])))} {B : Base} {w0 : World}
    (hann : ∀ id an c', ann id = some an → (id, c') ∈ blocks body → AnnAt P false B w0 (.block id c') an) (h0 : ∀ d, L 0 d = none)
    (hs : ∀ k d, evCode P (cal _) (qcal _) ann body (bldS nt ins d) (kS nt ins outs id (L k)) = L (k + 1) d) (F : Nat) :
    AnnAt (ρ := ρ) P false B w0 (.block id (.loop body)) (annS nt ins outs (L F)) := by
  intro st K r h M a w Q hr hn
  unfold annS at h
  simp only [Option.bind_eq_some_iff] at h
  obtain ⟨d, hd, x, hx, hk⟩ := h
  refine wp_block ?_
  obtain ⟨M1, hr1⟩ := extS_rel hr hd
  refine wp_loop_ind (fun n a' w' => ∃ d' M', L n d' = some x ∧ Rel M' (bldS nt ins d') B w0 a' w') (n := F) ⟨d, M1, hx, hr1⟩ ?_
  rintro n a1 w1 ⟨d1, M1, h1, hr1⟩
  cases n with
  | zero => rw [h0] at h1; cases h1
  | succ n =>
    rw [← hs] at h1
    refine evCode_sound hP (hcal _) (hq _) body hann _ _ h1 M1 a1 w1 _ hr1 fun e M' st' a' w' hE hk' hr' => ?_
    cases e with
    | normal =>
      simp only [kS, Option.bind_eq_some_iff] at hk'
      obtain ⟨d2, hd2, hL⟩ := hk'
      obtain ⟨M2, hr2⟩ := extS_rel hr' hd2
      exact ⟨n, by omega, d2, M2, hL, hr2⟩
    | exit j =>
      simp only [kS] at hk'
      show if j = id then Q .normal a' w' else Q (.exit j) a' w'
      split at hk'
      · rename_i hj
        rw [if_pos hj]
        obtain ⟨M2, hr3⟩ := extS_rel hr' hk'
        exact hn .normal M2 _ a' w' (fun h => by cases h) hk hr3
      · cases hk'
    | ret => simp only [kS] at hk'; cases hk'
    | goto l => simp only [kS] at hk'; cases hk'
    | panic ch => simp only [kS] at hk'; cases hk'
    | outgrown => simp only [kS] at hk'; cases hk'
def noOwn : List Item → Bool
  | [] => true
  | .row _ _ _ own _ :: r => !own && noOwn r
  | .drow _ _ own _ :: r => !own && noOwn r
  | .segs _ _ own _ :: r => !own && noOwn r
  | _ :: r => noOwn r
def FnSpec (P : Program) (f : FuncId) (n : Nat) (ins : List Item) (os : List Out) (F : D (tysI ins []) → Option (D (tysO os))) : Prop :=
  ∀ (d : D (tysI ins [])) (r : D (tysO os)), F d = some r → ∀ (M : List Place) (B : Base) (w : World) (vs : Array Value), RelL M (bldS n ins d).tmps vs.toList → RelH M (bldS n ins d).heap B w →
    Calls P f vs w fun e w' => ∃ rs : Array Value, e = .returned (retV rs) ∧ Beneath B w w' ∧ RelOut B w' os r rs.toList
def frzV (H : Heap) : AV → AV × Heap
  | .sl b off len sz .own => (match H[b]? with
    | some (some ⟨.drow d, true, _⟩) => (match frzDrow d.e H (.sl b off len sz .own) with
      | some (l, H') => (.dsl ⟨d.e, l⟩, H')
      | none => (.sl b off len sz .own, H))
    | _ => (.sl b off len sz .own, H))
  | x => (x, H)
def frzCs : Heap → List AV → List AV × Heap
  | H, [] => ([], H)
  | H, x :: r => ((frzV H x).1 :: (frzCs (frzV H x).2 r).1, (frzCs (frzV H x).2 r).2)
def frzA (H : Heap) : AV → AV × Heap
  | .agg cs => (.agg (frzCs H cs).1, (frzCs H cs).2)
  | x => frzV H x
def frzAs : Heap → List AV → List AV × Heap
  | H, [] => ([], H)
  | H, x :: r => ((frzA H x).1 :: (frzAs (frzA H x).2 r).1, (frzAs (frzA H x).2 r).2)
theorem frzV_sound {M : List Place} {H : Heap} {B : Base} {w : World} (r : RelH M H B w) {x : AV} {a : List Value} (hx : RelX M x a) :
    ∃ M', Ext M M' ∧ RelH M' (frzV H x).2 B w ∧ RelX M' (frzV H x).1 a := by
  have same : ∃ M', Ext M M' ∧ RelH M' H B w ∧ RelX M' x a := ⟨M, Ext.refl M, r, hx⟩
  cases x <;> try exact same
  case sl b off len sz c =>
    cases c <;> try exact same
    simp only [frzV]
    split
    · rename_i d pn ho
      split
      · rename_i l H' h
        have h1 : ∃ v, a = [v] := by
          have := RelX_length hx
          simp only [width] at this
          exact List.length_eq_one_iff.1 this
        obtain ⟨v, rfl⟩ := h1
        obtain ⟨M', hE, hr, hs⟩ := frzDrow_sound r hx h
        refine ⟨M', hE, hr, ?_⟩
        simp only [RelX]
        exact ⟨v, rfl, hs⟩
      · exact same
    · exact same
theorem frzCs_sound {B : Base} {w : World} : ∀ {cs : List AV} {M : List Place} {H : Heap} {a : List Value}, RelH M H B w → RelC M cs a → ∃ M', Ext M M' ∧ RelH M' (frzCs H cs).2 B w ∧ RelC M' (frzCs H cs).1 a
  | [], M, H, a, r, hc => ⟨M, Ext.refl M, r, hc⟩
  | x :: cs, M, H, a, r, hc => by
    obtain ⟨u, t, rfl, h1, h2⟩ := RelC_cons.1 hc
    obtain ⟨M1, e1, r1, x1⟩ := frzV_sound r h1
    obtain ⟨M2, e2, r2, x2⟩ := frzCs_sound r1 (RelC.mono e1 _ _ h2)
    exact ⟨M2, e1.trans e2, r2, RelC_cons.2 ⟨u, t, rfl, RelX.mono e2 _ _ x1, x2⟩⟩
theorem frzA_sound {M : List Place} {H : Heap} {B : Base} {w : World} (r : RelH M H B w) {x : AV} {a : List Value} (hx : RelX M x a) :
    ∃ M', Ext M M' ∧ RelH M' (frzA H x).2 B w ∧ RelX M' (frzA H x).1 a := by
  cases x <;> try exact frzV_sound r hx
  case agg cs =>
    simp only [RelX] at hx
    obtain ⟨vs, rfl, hc⟩ := hx
    obtain ⟨M', e, r', c'⟩ := frzCs_sound r hc
    refine ⟨M', e, r', ?_⟩
    simp only [frzA, RelX]
    exact ⟨vs, rfl, c'⟩
theorem frzAs_sound {B : Base} {w : World} : ∀ {xs : List AV} {M : List Place} {H : Heap} {vs : List Value}, RelH M H B w → RelL M xs vs → ∃ M', Ext M M' ∧ RelH M' (frzAs H xs).2 B w ∧ RelL M' (frzAs H xs).1 vs
  | [], M, H, vs, r, hl => ⟨M, Ext.refl M, r, hl⟩
  | x :: xs, M, H, vs, r, hl => by
    obtain ⟨v, t, rfl, h1, h2⟩ := RelL_cons.1 hl
    obtain ⟨M1, e1, r1, x1⟩ := frzA_sound r h1
    obtain ⟨M2, e2, r2, x2⟩ := frzAs_sound r1 (RelL.mono e1 _ _ h2)
    exact ⟨M2, e1.trans e2, r2, RelL_cons.2 ⟨v, t, rfl, RelX.mono e2 _ _ x1, x2⟩⟩
def endO (os : List Out) : List AV → Heap → Option (D (tysO os)) := fun l H => exO (frzAs H l).2 (keptIx (frzAs H l).2 os) os (frzAs H l).1 (keptIx (frzAs H l).2 os)
theorem endO_sound {M : List Place} {H : Heap} {B : Base} {w : World} (hH : RelH M H B w) {os : List Out} {xs : List AV} {d : D (tysO os)} {vs : List Value} (h : endO os xs H = some d) (hl : RelL M xs vs) : RelOut B w os d vs := by
  obtain ⟨M', _, r', l'⟩ := frzAs_sound hH hl
  exact relOut_of r' h l'
theorem fnSpec_of {P : Program} (hP : Callable P) {cal : Cals} (hcal : ∀ σ f, CalAt P f (cal σ f)) {qcal : QCals} (hq : ∀ σ f, QCalAt P f (qcal σ f)) {f : FuncId} {n : Nat} {ins : List Item} {os : List Out} {F : D (tysI ins []) → Option (D (tysO os))} {ann : Nat → Option (Ann (D (tysO os)))}
    (hann : ∀ fn c, P.funcs[f]? = some fn → fn.body = some c → ∀ id an c', ann id = some an → (id, c') ∈ blocks c → ∀ B w, AnnAt P false B w (.block id c') an)
    (h : ∀ d, evBody P (cal _) (qcal _) ann f (bldS n ins d).tmps (bldS n ins d).heap (endO os) = F d) : FnSpec P f n ins os F := by
  intro d r hd M B w vs hl hH
  rw [← h] at hd
  refine (evBody_sound hP (hcal _) (hq _) (x := false) hd (fun fn c h1 h2 id an c' h3 h4 => hann fn c h1 h2 id an c' h3 h4 _ _) hl hH).mono ?_
  rintro e w' ⟨rs, l, H', M', rfl, hk, _, hl', hH', hb⟩
  exact ⟨rs, rfl, hb, endO_sound hH' hk hl'⟩
theorem relL_of_relT {M : List Place} {ts : List AV} {a : Array Value} (h : RelT M ts a) : RelL M ts a.toList := by
  have key : ∀ (ts : List AV) (vs : List Value), ts.length = vs.length → (∀ t, RelV M (ts.getD t .undef) (vs.getD t undef)) → RelL M ts vs := by
    intro ts
    induction ts with
    | nil => intro vs h _; rw [RelL_nil]; exact List.length_eq_zero_iff.1 h.symm
    | cons x ts ih =>
      intro vs h h2
      cases vs with
      | nil => simp at h
      | cons v vs => exact RelL_cons.2 ⟨v, vs, rfl, by simpa using h2 0, ih vs (by simpa using h) fun t => by simpa using h2 (t + 1)⟩
  refine key ts a.toList (by simpa using h.1) fun t => ?_
  have := h.2 t
  rw [show a.getD t undef = a.toList.getD t undef from by simp [List.getD_eq_getElem?_getD, Array.getElem?_toList]] at this
  exact this
def extA (n : Nat) (ins : List Item) (args : List AV) (H : Heap) : Option (D (tysI ins [])) := if args.length = n then extI ⟨args, H⟩ false ins [] () [drop0] else none
def Base.anyPin (B : Base) : Base := ⟨B.w, B.vis, fun _ _ => True, B.f, B.ds⟩
theorem RelH.anyPin {M : List Place} {H : Heap} {B : Base} {w : World} (r : RelH M H B w) : RelH M H B.anyPin w := ⟨r.len, r.base, r.obj, r.sep, fun _ _ _ _ _ _ _ => trivial, r.vis, r.fz, r.fo, r.bf⟩
theorem extA_told {M : List Place} {args : List AV} {H : Heap} {B : Base} {w : World} {vs : Array Value} {n : Nat} {ins : List Item} {d : D (tysI ins [])} (hl : RelL M args vs.toList) (hH : RelH M H B w) (h : extA n ins args H = some d) :
    ∃ M', Told M ⟨args, H⟩ B.anyPin w vs (drop0 :: actsI ⟨args, H⟩ false ins) M' (bldS n ins d) := by
  unfold extA at h
  split at h
  · rename_i hlen
    have ht : RelT M args vs := by
      have := relT_args hl 0
      simpa using this
    have hs : n = vs.size := by rw [← hlen]; exact ht.1
    obtain ⟨⟨M2, t⟩, _⟩ := extI_sound (st := ⟨args, H⟩) (B := B.anyPin) ht hH.anyPin (fun _ _ _ => trivial) (told0 (B := B.anyPin) (st := ⟨args, H⟩) (a := vs) hH.anyPin n hs) h
    exact ⟨M2, by simpa [bldS] using t⟩
  · cases h
def nodupPins : Heap → Bool
  | [] => true
  | o :: r => (match o with
    | some ob => match ob.pin with
      | some k => (pinAt r k 0).isNone
      | none => true
    | none => true) && nodupPins r
theorem pinAt_none : ∀ {H : Heap} {k i : Nat}, pinAt H k i = none → ∀ (j : Nat) (o : AObj), H[j]? = some (some o) → o.pin ≠ some k
  | [], _, _, _, j, o, h => by simp at h
  | x :: r, k, i, hn, j, o, h => by
    unfold pinAt at hn
    cases j with
    | zero =>
      simp at h
      subst h
      simp only at hn
      split at hn
      · cases hn
      · assumption
    | succ j =>
      have h' : r[j]? = some (some o) := by simpa using h
      cases x with
      | none => exact pinAt_none hn j o h'
      | some ob =>
        simp only at hn
        split at hn
        · cases hn
        · exact pinAt_none hn j o h'
theorem nodupPins_eq : ∀ {H : Heap}, nodupPins H = true → ∀ (i j : Nat) (oi oj : AObj) (k : Nat), H[i]? = some (some oi) → H[j]? = some (some oj) → oi.pin = some k → oj.pin = some k → i = j
  | [], _, i, j, oi, oj, k, h, _, _, _ => by simp at h
  | x :: r, hn, i, j, oi, oj, k, hi, hj, h1, h2 => by
    simp only [nodupPins, Bool.and_eq_true] at hn
    obtain ⟨hx, hr⟩ := hn
    cases i with
    | zero =>
      cases j with
      | zero => rfl
      | succ j =>
        simp at hi
        subst hi
        simp only [h1, Option.isNone_iff_eq_none] at hx
        exact absurd h2 (pinAt_none hx j oj (by simpa using hj))
    | succ i =>
      cases j with
      | zero =>
        simp at hj
        subst hj
        simp only [h2, Option.isNone_iff_eq_none] at hx
        exact absurd h1 (pinAt_none hx i oi (by simpa using hi))
      | succ j =>
        have := nodupPins_eq hr i j oi oj k (by simpa using hi) (by simpa using hj) h1 h2
        omega
def findU : List (Nat × Cont) → Nat → Option Cont
  | [], _ => none
  | (j, c) :: r, k => if j = k then some c else findU r k
theorem findU_mem : ∀ {l : List (Nat × Cont)} {k : Nat} {c : Cont}, findU l k = some c → (k, c) ∈ l
  | [], _, _, h => by cases h
  | (j, c') :: r, k, c, h => by
    unfold findU at h
    split at h
    · rename_i hj
      cases h
      subst hj
      simp
    · simp [findU_mem h]
def updB (ups : List (Nat × Cont)) (shared : Bool) (whole : Bool) (o : AObj) (b : Nat) (H : Heap) : Heap :=
  match o.own with
  | true => match whole, o.pin with
    | true, some k => match findU ups k, H[b]? with
      | some c, some (some o') => H.set b (some ⟨c, true, o'.pin⟩)
      | _, _ => H.set b none
    | _, _ => H.set b none
  | false => match shared, H[b]? with
    | true, some (some o') => H.set b (some ⟨o'.c, false, o'.pin⟩)
    | _, _ => H
def postH (ups : List (Nat × Cont)) (shared : Bool) : List Act → Heap → Heap → Heap
  | ac :: r, some o :: H1, H => postH ups shared r H1 (match ac.id with | some b => updB ups shared ac.whole o b H | none => H)
  | _ :: r, none :: H1, H => postH ups shared r H1 H
  | _, _, H => H
theorem updB_len (ups : List (Nat × Cont)) (shared whole : Bool) (o : AObj) (b : Nat) (H : Heap) : (updB ups shared whole o b H).length = H.length := by
  unfold updB
  repeat' split
  all_goals simp
theorem postH_len (ups : List (Nat × Cont)) (shared : Bool) : ∀ (acts : List Act) (H1 H : Heap), (postH ups shared acts H1 H).length = H.length
  | [], _, _ => rfl
  | _ :: _, [], _ => rfl
  | ac :: r, some o :: H1, H => by
    rw [postH, postH_len ups shared r H1]
    split
    · exact updB_len _ _ _ _ _ _
    · rfl
  | _ :: r, none :: H1, H => by rw [postH, postH_len ups shared r H1]
def Left (ups : List (Nat × Cont)) (shared : Bool) (acts : List Act) (H1 : Heap) (j : Nat) (o o2 : AObj) : Prop :=
  o2.pin = o.pin ∧ ((o2.c = o.c ∧ (o2.own = true → o.own = true) ∧ ∀ (i : Nat) (ac : Act) (o1 : AObj), acts[i]? = some ac → H1[i]? = some (some o1) → ac.id = some j → o1.own = false ∧ (shared = true → o2.own = false)) ∨
    (∃ (i : Nat) (ac : Act) (o1 : AObj) (k : Nat), acts[i]? = some ac ∧ H1[i]? = some (some o1) ∧ ac.id = some j ∧ ac.whole = true ∧ o1.own = true ∧ o1.pin = some k ∧ (k, o2.c) ∈ ups))
theorem set_case {H : Heap} {b j : Nat} {x : Option AObj} {o : AObj} (h : (H.set b x)[j]? = some (some o)) : (b = j ∧ x = some o) ∨ (b ≠ j ∧ H[j]? = some (some o)) := by
  rw [List.getElem?_set] at h
  split at h
  · rename_i e
    split at h
    · exact .inl ⟨e, by simpa using h⟩
    · cases h
  · rename_i e
    exact .inr ⟨e, h⟩
theorem postH_spec {ups : List (Nat × Cont)} {shared : Bool} : ∀ {acts : List Act} {H1 H : Heap} {j : Nat} {o2 : AObj}, (postH ups shared acts H1 H)[j]? = some (some o2) → ∃ o, H[j]? = some (some o) ∧ Left ups shared acts H1 j o o2
  | [], H1, H, j, o2, h => ⟨o2, by simpa [postH] using h, rfl, .inl ⟨rfl, fun h => h, fun i ac o1 hi => by simp at hi⟩⟩
  | ac :: r, [], H, j, o2, h => ⟨o2, by simpa [postH] using h, rfl, .inl ⟨rfl, fun h => h, fun i ac o1 _ hi => by simp at hi⟩⟩
  | ac :: r, none :: H1, H, j, o2, h => by
    rw [postH] at h
    obtain ⟨o, h1, h2, h3⟩ := postH_spec h
    refine ⟨o, h1, h2, ?_⟩
    rcases h3 with ⟨a1, a2, a3⟩ | ⟨i, ac', o1, k, b1, b2, b3⟩
    · refine .inl ⟨a1, a2, fun i ac' o1 hi hi1 => ?_⟩
      cases i with
      | zero => simp at hi1
      | succ i => exact a3 i ac' o1 (by simpa using hi) (by simpa using hi1)
    · exact .inr ⟨i + 1, ac', o1, k, by simpa using b1, by simpa using b2, b3⟩
  | ac :: r, some o1 :: H1, H, j, o2, h => by
    rw [postH] at h
    obtain ⟨o', h1, h2, h3⟩ := postH_spec h
    have step : ∃ o, H[j]? = some (some o) ∧ o'.pin = o.pin ∧ ((o'.c = o.c ∧ (o'.own = true → o.own = true) ∧ (ac.id = some j → o1.own = false ∧ (shared = true → o'.own = false))) ∨
        (o'.own = true ∧ ∃ k, ac.id = some j ∧ ac.whole = true ∧ o1.own = true ∧ o1.pin = some k ∧ (k, o'.c) ∈ ups)) := by
      cases hid : ac.id with
      | none =>
        rw [hid] at h1
        exact ⟨o', h1, rfl, .inl ⟨rfl, fun h => h, fun h => by cases h⟩⟩
      | some b =>
        rw [hid] at h1
        simp only at h1
        have other : b ≠ j → H[j]? = some (some o') → ∃ o, H[j]? = some (some o) ∧ o'.pin = o.pin ∧ ((o'.c = o.c ∧ (o'.own = true → o.own = true) ∧ (some b = some j → o1.own = false ∧ (shared = true → o'.own = false))) ∨
            (o'.own = true ∧ ∃ k, some b = some j ∧ ac.whole = true ∧ o1.own = true ∧ o1.pin = some k ∧ (k, o'.c) ∈ ups)) :=
          fun hne hH => ⟨o', hH, rfl, .inl ⟨rfl, fun h => h, fun e => absurd (Option.some.inj e) hne⟩⟩
        unfold updB at h1
        split at h1
        · rename_i how
          split at h1
          · rename_i k hw hp
            split at h1
            · rename_i c ob hfu hHb
              rcases set_case h1 with ⟨rfl, e⟩ | ⟨e, h1⟩
              · cases e
                exact ⟨ob, hHb, rfl, .inr ⟨rfl, k, rfl, hw, how, hp, findU_mem hfu⟩⟩
              · exact other e h1
            · rcases set_case h1 with ⟨rfl, e⟩ | ⟨e, h1⟩
              · cases e
              · exact other e h1
          · rcases set_case h1 with ⟨rfl, e⟩ | ⟨e, h1⟩
            · cases e
            · exact other e h1
        · rename_i how
          split at h1
          · rename_i ob hHb
            rcases set_case h1 with ⟨rfl, e⟩ | ⟨e, h1⟩
            · cases e
              exact ⟨ob, hHb, rfl, .inl ⟨rfl, fun h => (by cases h), fun _ => ⟨how, fun _ => rfl⟩⟩⟩
            · exact other e h1
          · rename_i hno
            refine ⟨o', h1, rfl, .inl ⟨rfl, fun h => h, fun e => ⟨how, fun hs => ?_⟩⟩⟩
            cases e
            exact absurd h1 (hno o' hs)
    obtain ⟨o, s1, s2, s3⟩ := step
    refine ⟨o, s1, by rw [h2, s2], ?_⟩
    rcases h3 with ⟨a1, a2, a3⟩ | ⟨i, ac', o1', k, b1, b2, b3⟩
    · rcases s3 with ⟨c1, c2, c3⟩ | ⟨c1, k, c2, c3, c4, c5, c6⟩
      · refine .inl ⟨by rw [a1, c1], fun h => c2 (a2 h), fun i ac' o1' hi hi1 hid => ?_⟩
        cases i with
        | zero =>
          simp at hi hi1
          subst hi; subst hi1
          obtain ⟨d1, d2⟩ := c3 hid
          refine ⟨d1, fun hs => ?_⟩
          cases ho : o2.own with
          | false => rfl
          | true => rw [d2 hs] at a2; exact absurd (a2 ho) (by simp)
        | succ i => exact a3 i ac' o1' (by simpa using hi) (by simpa using hi1) hid
      · exact .inr ⟨0, ac, o1, k, by simp, by simp, c2, c3, c4, c5, by rw [a1]; exact c6⟩
    · exact .inr ⟨i + 1, ac', o1', k, by simpa using b1, by simpa using b2, b3⟩
def sharedCO : List CO → Bool
  | [] => false
  | .row _ _ own :: r => !own || sharedCO r
  | _ :: r => sharedCO r
def sharedO : List Out → Bool
  | [] => false
  | .row _ _ own :: r => !own || sharedO r
  | .agg cs :: r => sharedCO cs || sharedO r
  | .psegs _ cs :: r => sharedCO cs || sharedO r
  | _ :: r => sharedO r
theorem sharedCO_of : ∀ {cs : List CO} {acc : List Ty} {d : D (tysCO cs acc)} {o : AObj}, some o ∈ newsCO cs acc d → o.own = false → sharedCO cs = true
  | [], _, _, o, h, _ => by simp [newsCO] at h
  | .hole _ :: r, acc, d, o, h, ho => sharedCO_of (cs := r) (d := d.2) h ho
  | .const _ :: r, acc, d, o, h, ho => sharedCO_of (cs := r) (d := d) h ho
  | .row _ _ own :: r, acc, d, o, h, ho => by
    simp only [newsCO, List.mem_cons] at h
    rcases h with h | h
    · cases h
      simp only at ho
      simp [sharedCO, ho]
    · simp [sharedCO, sharedCO_of (cs := r) (d := d.2) h ho]
theorem sharedO_of : ∀ {os : List Out} {d : D (tysO os)} {o : AObj}, some o ∈ newsO os d → o.own = false → sharedO os = true
  | [], _, o, h, _ => by simp [newsO] at h
  | .ty _ :: r, d, o, h, ho => sharedO_of (os := r) (d := d.2) h ho
  | .row _ _ own :: r, d, o, h, ho => by
    simp only [newsO, List.mem_cons] at h
    rcases h with h | h
    · cases h
      simp only at ho
      simp [sharedO, ho]
    · simp [sharedO, sharedO_of (os := r) (d := d.2) h ho]
  | .agg cs :: r, d, o, h, ho => by
    simp only [newsO, List.mem_append] at h
    rcases h with h | h
    · simp [sharedO, sharedCO_of h ho]
    · simp [sharedO, sharedO_of h ho]
  | .prow _ _ :: r, d, o, h, ho => sharedO_of (os := r) (d := d.2) h ho
  | .psegs _ cs :: r, d, o, h, ho => by
    simp only [newsO, List.mem_append] at h
    rcases h with h | h
    · simp [sharedO, sharedCO_of h ho]
    · simp [sharedO, sharedO_of h ho]
def smRun (n : Nat) (ins : List Item) (os : List Out) (F : D (tysI ins []) → Option (D (tysO os))) : List AV → Heap → (AV → Heap → Option ρ) → Option ρ := fun args H K =>
  (extA n ins args H).bind fun d => if nodupPins (bldS n ins d).heap = true then
    (F d).bind fun r => K (retA (avsO os r H.length)) (postH (upsO os r H.length) (sharedO os) (drop0 :: actsI ⟨args, H⟩ false ins) (bldS n ins d).heap H ++ (newsO os r ++ fzH os))
  else none
theorem blk_lt {M : List Place} {o : AObj} {pl : Place} {B : Base} {w : World} (h : ObjOk M o pl B w) (hn : pl.nil = false) : pl.blk < w.heap.size := by
  rcases h with ⟨n1, _⟩ | ⟨_, cs, el, fz, g1, _⟩
  · rw [hn] at n1; cases n1
  · exact (Array.getElem?_eq_some_iff.1 g1).1
theorem smRun_ok {P : Program} {f : FuncId} {n : Nat} {ins : List Item} {os : List Out} {F : D (tysI ins []) → Option (D (tysO os))} (h : FnSpec P f n ins os F) : CalAt (ρ := ρ) P f (smRun n ins os F) := by
  intro args H K r hk M B w vs hl hH
  unfold smRun at hk
  simp only [Option.bind_eq_some_iff] at hk
  obtain ⟨d, hd, hk⟩ := hk
  split at hk
  case isFalse => cases hk
  rename_i hnd
  simp only [Option.bind_eq_some_iff] at hk
  obtain ⟨x, hx, hk⟩ := hk
  obtain ⟨M1, t⟩ := extA_told hl hH hd
  generalize hst : bldS n ins d = st1 at *
  generalize hac : drop0 :: actsI ⟨args, H⟩ false ins = acts at *
  have src : ∀ (i : Nat) (o1 : AObj) (pl : Place), st1.heap[i]? = some (some o1) → M1[i]? = some pl → pl.nil = false →
      (∃ ac b o p, acts[i]? = some ac ∧ ac.id = some b ∧ H[b]? = some (some o) ∧ M[b]? = some p ∧ p.nil = false ∧ pl.blk = p.blk ∧ (o1.own = true → o.own = true) ∧ (ac.whole = true → pl = p)) ∨
      (o1.own = false ∧ ∃ ob, FzAt M pl.blk ob) := by
    intro i o1 pl h1 h2 hn
    have hi : i < acts.length := by rw [t.len]; exact (List.getElem?_eq_some_iff.1 h2).1
    obtain ⟨p1, hp1, a1, a2, a3, _⟩ := t.act i acts[i] (List.getElem?_eq_getElem hi)
    rw [h2] at hp1
    cases hp1
    cases hid : (acts[i]).id with
    | none =>
      obtain ⟨q1, q2⟩ := (a2.1 hid).2 hn
      exact .inr ⟨by rw [a3 o1 h1, q1], q2⟩
    | some b =>
      obtain ⟨o, p, b1, b2, b3, b4, b5, b6⟩ := a1 b hid
      exact .inl ⟨acts[i], b, o, p, List.getElem?_eq_getElem hi, hid, b1, b2, by rw [← b3]; exact hn, b4, fun ho => b5 (by rw [← a3 o1 h1]; exact ho), b6⟩
  let B1 : Base := ⟨fun k => w.heap.size ≤ k ∨ ∃ (i : Nat) (o1 : AObj) (pl : Place), st1.heap[i]? = some (some o1) ∧ o1.own = true ∧ M1[i]? = some pl ∧ pl.nil = false ∧ pl.blk = k,
    fun k => w.heap.size ≤ k ∨ (∃ (i : Nat) (o1 : AObj) (pl : Place), st1.heap[i]? = some (some o1) ∧ M1[i]? = some pl ∧ pl.nil = false ∧ pl.blk = k) ∨ ∃ ob, FzAt M k ob,
    fun k pl => ∃ (i : Nat) (o1 : AObj), st1.heap[i]? = some (some o1) ∧ M1[i]? = some pl ∧ o1.pin = some k,
    fun k => B.f k ∨ ∃ ob, FzAt M k ob, []⟩
  have wB : ∀ k, B1.w k → B.w k := by
    rintro k (hk | ⟨i, o1, pl, h1, h2, h3, h4, rfl⟩)
    · exact (hH.base k hk).1
    · rcases src i o1 pl h1 h3 h4 with ⟨ac, b, o, p, _, _, c3, c4, c5, c6, c7, _⟩ | ⟨q, _⟩
      · obtain ⟨p', hp', hok⟩ := hH.obj b o c3
        rw [c4] at hp'
        cases hp'
        rcases hok with ⟨n1, _⟩ | ⟨_, _, _, _, _, _, _, _, g5⟩
        · rw [c5] at n1; cases n1
        · rw [c6]; exact (g5 (c7 h2)).2.2
      · rw [q] at h2; cases h2
  have visB : ∀ k, B1.vis k → B.vis k := by
    rintro k (hk | ⟨i, o1, pl, h1, h3, h4, rfl⟩ | ⟨ob, hk⟩)
    · exact (hH.base k hk).2
    · rcases src i o1 pl h1 h3 h4 with ⟨ac, b, o, p, _, _, c3, c4, c5, c6, _⟩ | ⟨_, ob, q⟩
      · rw [c6]; exact hH.vis b o p c3 c4 c5
      · exact (hH.fz _ _ q).2.1
    · exact (hH.fz _ _ hk).2.1
  have notF : ∀ (i : Nat) (o1 : AObj) (pl : Place), st1.heap[i]? = some (some o1) → M1[i]? = some pl → o1.own = true → pl.nil = false → ¬ B1.f pl.blk := by
    intro i o1 pl h1 h3 h2 h4
    rcases src i o1 pl h1 h3 h4 with ⟨ac, b, o, p, _, _, c3, c4, c5, c6, c7, _⟩ | ⟨q, _⟩
    · obtain ⟨f1, f2⟩ := hH.fo b o p c3 c4 (c7 h2) c5
      rw [c6]
      rintro (h | ⟨ob, h⟩)
      · exact f1 h
      · exact f2 ob h
    · rw [q] at h2; cases h2
  have hH1 : RelH M1 st1.heap B1 w := by
    refine ⟨t.heap.len, fun k hk => ⟨.inl hk, .inl hk⟩, fun i o1 ho1 => ?_, t.heap.sep, fun i o1 pl k h1 h2 h3 => ⟨i, o1, h1, h2, h3⟩, fun i o1 pl h1 h2 h3 => .inr (.inl ⟨i, o1, pl, h1, h2, h3, rfl⟩),
      fun k ob h => ⟨(t.heap.fz k ob h).1, .inr (.inr ⟨ob, t.zf k ob h⟩), .inr (.inr ⟨ob, t.zf k ob h⟩)⟩, fun i o1 pl h1 h2 h3 h4 => ⟨notF i o1 pl h1 h2 h3 h4, (t.heap.fo i o1 pl h1 h2 h3 h4).2⟩, fun k hk h => h.elim (hH.bf k hk) fun ⟨ob, h⟩ => absurd (hH.fz_lt h) (by omega)⟩
    obtain ⟨pl, hpl, hok⟩ := t.heap.obj i o1 ho1
    refine ⟨pl, hpl, ?_⟩
    rcases hok with hok | ⟨n1, cs, el, fz, g1, g2, g3, g4, g5⟩
    · exact .inl hok
    · exact .inr ⟨n1, cs, el, fz, g1, g2, g3, g4, fun ho => ⟨(g5 ho).1, (g5 ho).2.1, .inr ⟨i, o1, pl, ho1, ho, hpl, n1, rfl⟩⟩⟩
  refine (h d x hx M1 B1 w vs (by rw [hst]; exact relL_of_relT t.tmps) (by rw [hst]; exact hH1)).mono ?_
  rintro e w' ⟨rs, rfl, hb, N, Fz, hN, hFl, hN0, hF1, hF2, hav, hups⟩
  have hlen := hH.len
  have hEx : Ext M (M ++ (N ++ Fz)) := Ext.snoc M _
  have hE0 : Ext [] (M ++ (N ++ Fz)) := fun b pl e => (by simp at e)
  have hbB : Beneath B w w' := ⟨hb.os, hb.tape, hb.output, hb.size, fun k hk hw => hb.block k hk fun h1 => hw (wB k h1)⟩
  refine ⟨_, _, _, M ++ (N ++ Fz), rfl, hk, hEx, ?_, hbB, retA_rel (by rw [hlen]; exact hav M)⟩
  have hlpost := postH_len (upsO os x H.length) (sharedO os) acts st1.heap H
  generalize hH2 : postH (upsO os x H.length) (sharedO os) acts st1.heap H = H2 at *
  have part : ∀ (i : Nat) (o : AObj) (pl : Place), (H2 ++ (newsO os x ++ fzH os))[i]? = some (some o) → (M ++ (N ++ Fz))[i]? = some pl →
      (i < M.length ∧ M[i]? = some pl ∧ ∃ o0, H[i]? = some (some o0) ∧ Left (upsO os x H.length) (sharedO os) acts st1.heap i o0 o) ∨ (∃ j, i = M.length + j ∧ (newsO os x)[j]? = some (some o) ∧ N[j]? = some pl) := by
    intro i o pl h1 h2
    by_cases hi : i < M.length
    · rw [List.getElem?_append_left (by omega)] at h1
      rw [List.getElem?_append_left hi] at h2
      rw [← hH2] at h1
      exact .inl ⟨hi, h2, postH_spec h1⟩
    · rw [List.getElem?_append_right (by omega)] at h1 h2
      rw [hlpost, hlen] at h1
      by_cases hi2 : i - M.length < N.length
      · rw [List.getElem?_append_left (by rw [← hN.len]; exact hi2)] at h1
        rw [List.getElem?_append_left hi2] at h2
        exact .inr ⟨i - M.length, by omega, h1, h2⟩
      · rw [List.getElem?_append_right (by rw [← hN.len]; omega)] at h1
        exfalso
        have := List.mem_of_getElem? h1
        unfold fzH at this
        split at this <;> simp at this
  have upd : ∀ (j : Nat) (o0 o : AObj) (pl : Place), H[j]? = some (some o0) → M[j]? = some pl →
      (∃ (i : Nat) (ac : Act) (o1 : AObj) (k : Nat), acts[i]? = some ac ∧ st1.heap[i]? = some (some o1) ∧ ac.id = some j ∧ ac.whole = true ∧ o1.own = true ∧ o1.pin = some k ∧ (k, o.c) ∈ upsO os x H.length) →
      o0.own = true ∧ ObjOk (M ++ (N ++ Fz)) ⟨o.c, true, none⟩ pl B1 w' ∧ (∀ (i : Nat) (pi : Place), N[i]? = some pi → pi.nil = false → pl.nil = false → pi.blk ≠ pl.blk) ∧ (pl.nil = false → ∀ ob, ¬ FzAt Fz pl.blk ob) := by
    rintro j o0 o pl h1 h2 ⟨i, ac, o1, k, a1, a2, a3, a4, a5, a6, a7⟩
    obtain ⟨p1, hp1, c1, _, c3, _⟩ := t.act i ac a1
    obtain ⟨o', p, d1, d2, _, _, d5, d6⟩ := c1 j a3
    have d1' : H[j]? = some (some o') := d1
    rw [h1] at d1'
    cases d1'
    rw [h2] at d2
    cases d2
    have hpp := d6 a4
    subst hpp
    rw [hlen] at a7
    obtain ⟨pl', ⟨i', o1', e1, e2, e3⟩, f2, f3, f4⟩ := hups M k o.c a7
    have := nodupPins_eq hnd i i' o1 o1' k a2 e1 a6 e3
    subst this
    rw [hp1] at e2
    cases e2
    exact ⟨d5 (by rw [← c3 o1 a2]; exact a5), f2, f3, f4⟩
  have newB : ∀ (j : Nat) (o : AObj) (pl : Place), (newsO os x)[j]? = some (some o) → N[j]? = some pl → pl.nil = false → B1.vis pl.blk ∧ (o.own = true → B1.w pl.blk) := by
    intro j o pl h1 h2 hn
    obtain ⟨_, _, p, hp, hok, hv⟩ := hN.obj j o h1
    rw [h2] at hp
    cases hp
    refine ⟨hv hn, fun ho => ?_⟩
    rcases hok with ⟨n1, _⟩ | ⟨_, _, _, _, _, _, _, _, g5⟩
    · rw [hn] at n1; cases n1
    · exact (g5 ho).2.2
  have cross : ∀ (i j : Nat) (oi oj o0 : AObj) (pi pj : Place), M[i]? = some pi → H[i]? = some (some o0) → Left (upsO os x H.length) (sharedO os) acts st1.heap i o0 oi → (newsO os x)[j]? = some (some oj) → N[j]? = some pj →
      (oi.own = true ∨ oj.own = true) → pi.nil = false → pj.nil = false → pi.blk ≠ pj.blk := by
    intro i j oi oj o0 pi pj h1 h2 h3 h4 h5 ho hni hnj
    obtain ⟨v1, v2⟩ := newB j oj pj h4 h5 hnj
    obtain ⟨p', hp', hok⟩ := hH.obj i o0 h2
    rw [h1] at hp'
    cases hp'
    have hlt := blk_lt hok hni
    rcases h3 with ⟨_, ⟨c1, c2, c3⟩ | hu⟩
    · cases hoj : oj.own with
      | true =>
        rcases v2 hoj with hk | ⟨i1, o1, pl, e1, e2, e3, e4, e5⟩
        · omega
        · obtain ⟨ac, b, ob, p, a1, a2, a3, a4, a5, a6, a7, _⟩ := (src i1 o1 pl e1 e3 e4).resolve_right (fun q => by rw [q.1] at e2; cases e2)
          have hbi : b ≠ i := by
            rintro rfl
            have := (c3 i1 ac o1 a1 e1 a2).1
            rw [e2] at this
            cases this
          rw [← e5, a6]
          exact fun e => hH.sep b i ob o0 p pi a3 h2 a4 h1 hbi (a7 e2) a5 hni e.symm
      | false =>
        have hoi : oi.own = true := by
          rcases ho with ho | ho
          · exact ho
          · rw [hoj] at ho; cases ho
        have hsh : sharedO os = true := sharedO_of (List.mem_of_getElem? h4) hoj
        have still : ∀ ob, FzAt M pj.blk ob → pi.blk ≠ pj.blk := fun ob hz e => (hH.fo i o0 pi h2 h1 (c2 hoi) hni).2 ob (by rw [e]; exact hz)
        rcases v1 with hk | ⟨i1, o1, pl, e1, e3, e4, e5⟩ | ⟨ob, hz⟩
        · omega
        · rcases src i1 o1 pl e1 e3 e4 with ⟨ac, b, ob, p, a1, a2, a3, a4, a5, a6, _⟩ | ⟨_, ob, hz⟩
          · have hbi : i ≠ b := by
              rintro rfl
              have := (c3 i1 ac o1 a1 e1 a2).2 hsh
              rw [hoi] at this
              cases this
            rw [← e5, a6]
            exact hH.sep i b o0 ob pi p h2 a3 h1 a4 hbi (c2 hoi) hni a5
          · exact still ob (by rw [← e5]; exact hz)
        · exact still ob hz
    · obtain ⟨_, _, u3, _⟩ := upd i o0 oi pi h2 h1 hu
      exact fun e => u3 j pj h5 hnj hni e.symm
  have frozen : ∀ k ob, FzAt (M ++ (N ++ Fz)) k ob → FzAt M k ob ∨ FzAt Fz k ob := fun k ob h => (h.append).imp id fun h => (h.append).resolve_left (hN0 k ob)
  have b1f : ∀ k, B1.w k ∨ B1.f k → B.w k ∨ B.f k := by
    rintro k (h | h | ⟨ob, h⟩)
    · exact .inl (wB k h)
    · exact .inr h
    · exact (hH.fz k ob h).2.2
  refine ⟨by simp [hlpost, hN.len, hlen, hFl], fun k hk => hH.base k (Nat.le_trans hb.size hk), fun i o ho => ?_, fun i j oi oj pi pj hi hj hpi hpj hne how hni hnj => ?_, fun i o pl k ho hp hk' => ?_, fun i o pl ho hp hn => ?_, fun k ob hk => ?_, fun i o pl ho hp how hn => ?_, fun k hk => hH.bf k (Nat.le_trans hb.size hk)⟩
  · have hi : i < (M ++ (N ++ Fz)).length := by
      have := (List.getElem?_eq_some_iff.1 ho).1
      rw [List.length_append, List.length_append, hlpost, hlen, ← hN.len, ← hFl] at this
      rw [List.length_append, List.length_append]
      exact this
    refine ⟨(M ++ (N ++ Fz))[i], List.getElem?_eq_getElem hi, ?_⟩
    generalize hpl : (M ++ (N ++ Fz))[i] = pl
    have hp : (M ++ (N ++ Fz))[i]? = some pl := by rw [List.getElem?_eq_getElem hi, hpl]
    rcases part i o pl ho hp with ⟨_, h2, o0, h3, h4⟩ | ⟨j, rfl, h2, h3⟩
    · obtain ⟨p', hp', hok⟩ := hH.obj i o0 h3
      rw [h2] at hp'
      cases hp'
      rcases h4 with ⟨_, ⟨c1, c2, c3⟩ | hu⟩
      · rcases hok with ⟨n1, n2, n3⟩ | ⟨n1, cs, el, fz, g1, g2, g3, g4, g5⟩
        · exact .inl ⟨n1, n2, by rw [c1]; exact n3.mono hEx⟩
        · refine .inr ⟨n1, cs, el, fz, ?_, g2, g3, by rw [c1]; exact g4.mono hEx, fun h => g5 (c2 h)⟩
          rw [hb.block _ ((Array.getElem?_eq_some_iff.1 g1).1)]
          · exact g1
          · rintro (hk | ⟨i1, o1, pl1, e1, e2, e3, e4, e5⟩)
            · have := (Array.getElem?_eq_some_iff.1 g1).1
              omega
            · obtain ⟨ac, b, ob, p, a1, a2, a3, a4, a5, a6, a7, _⟩ := (src i1 o1 pl1 e1 e3 e4).resolve_right (fun q => by rw [q.1] at e2; cases e2)
              have hbi : b ≠ i := by
                rintro rfl
                have := (c3 i1 ac o1 a1 e1 a2).1
                rw [e2] at this
                cases this
              exact hH.sep b i ob o0 p pl a3 h3 a4 h2 hbi (a7 e2) a5 n1 (by rw [← a6]; exact e5)
      · obtain ⟨u1, u2, _⟩ := upd i o0 o pl h3 h2 hu
        rcases hok with ⟨n1, n2, n3⟩ | ⟨n1, cs, el, fz, g1, g2, g3, g4, g5⟩
        · rcases u2 with ⟨m1, m2, m3⟩ | ⟨m1, _⟩
          · exact .inl ⟨m1, m2, m3⟩
          · rw [n1] at m1; cases m1
        · rcases u2 with ⟨m1, _⟩ | ⟨m1, cs', el', fz', f1, f2, f3, f4, f5⟩
          · rw [n1] at m1; cases m1
          · exact .inr ⟨m1, cs', el', fz', f1, f2, f3, f4, fun _ => ⟨(f5 rfl).1, (f5 rfl).2.1, (g5 u1).2.2⟩⟩
    · obtain ⟨_, _, p, hp', hok, hv⟩ := hN.obj j o h2
      rw [h3] at hp'
      cases hp'
      rcases hok with ⟨n1, n2, n3⟩ | ⟨n1, cs, el, fz, g1, g2, g3, g4, g5⟩
      · exact .inl ⟨n1, n2, n3.mono hE0⟩
      · exact .inr ⟨n1, cs, el, fz, g1, g2, g3, g4.mono hE0, fun h => ⟨(g5 h).1, (g5 h).2.1, wB _ (g5 h).2.2⟩⟩
  · rcases part i oi pi hi hpi with ⟨_, h2, o0, h3, h4⟩ | ⟨j1, rfl, h2, h3⟩ <;> rcases part j oj pj hj hpj with ⟨_, k2, o0', k3, k4⟩ | ⟨j2, rfl, k2, k3⟩
    · have ho : o0.own = true := by
        rcases h4 with ⟨_, ⟨c1, c2, c3⟩ | hu⟩
        · exact c2 how
        · exact (upd i o0 oi pi h3 h2 hu).1
      exact hH.sep i j o0 o0' pi pj h3 k3 h2 k2 hne ho hni hnj
    · exact cross i j2 oi oj o0 pi pj h2 h3 h4 k2 k3 (.inl how) hni hnj
    · exact fun e => cross j j1 oj oi o0' pj pi k2 k3 k4 h2 h3 (.inr how) hnj hni e.symm
    · exact hN.sep j1 j2 oi oj pi pj h2 k2 h3 k3 (fun e => hne (by rw [e])) how hni hnj
  · rcases part i o pl ho hp with ⟨_, h2, o0, h3, h4⟩ | ⟨j, rfl, h2, h3⟩
    · exact hH.pin i o0 pl k h3 h2 (by rw [← h4.1]; exact hk')
    · rw [(hN.obj j o h2).1] at hk'; cases hk'
  · rcases part i o pl ho hp with ⟨_, h2, o0, h3, h4⟩ | ⟨j, rfl, h2, h3⟩
    · exact hH.vis i o0 pl h3 h2 hn
    · exact visB _ (newB j o pl h2 h3 hn).1
  · rcases frozen k ob hk with h | h
    · obtain ⟨z1, z2, z3⟩ := hH.fz k ob h
      refine ⟨?_, z2, z3⟩
      rw [hb.block k (hH.fz_lt h)]
      · exact z1
      · rintro (hk | ⟨i1, o1, pl1, e1, e2, e3, e4, e5⟩)
        · have := hH.fz_lt h
          omega
        · exact notF i1 o1 pl1 e1 e3 e2 e4 (.inr ⟨ob, by rw [e5]; exact h⟩)
    · obtain ⟨z1, z2, z3⟩ := hF1 k ob h
      exact ⟨z1, visB k z2, b1f k z3⟩
  · rcases part i o pl ho hp with ⟨_, h2, o0, h3, h4⟩ | ⟨j, rfl, h2, h3⟩
    · have how0 : o0.own = true := by
        rcases h4 with ⟨_, ⟨c1, c2, c3⟩ | hu⟩
        · exact c2 how
        · exact (upd i o0 o pl h3 h2 hu).1
      obtain ⟨f1, f2⟩ := hH.fo i o0 pl h3 h2 how0 hn
      refine ⟨f1, fun ob h => ?_⟩
      rcases frozen _ ob h with h | h
      · exact f2 ob h
      · rcases h4 with ⟨_, ⟨c1, c2, c3⟩ | hu⟩
        · obtain ⟨p', hp', hok⟩ := hH.obj i o0 h3
          rw [h2] at hp'
          cases hp'
          have hlt := blk_lt hok hn
          rcases (hF1 _ ob h).2.2 with (hk | ⟨i1, o1, pl1, e1, e2, e3, e4, e5⟩) | (hk | ⟨ob', hk⟩)
          · omega
          · obtain ⟨ac, b, ob2, p, a1, a2, a3, a4, a5, a6, a7, _⟩ := (src i1 o1 pl1 e1 e3 e4).resolve_right (fun q => by rw [q.1] at e2; cases e2)
            have hbi : b ≠ i := by
              rintro rfl
              have := (c3 i1 ac o1 a1 e1 a2).1
              rw [e2] at this
              cases this
            exact hH.sep b i ob2 o0 p pl a3 h3 a4 h2 hbi (a7 e2) a5 hn (by rw [← a6]; exact e5)
          · exact f1 hk
          · exact f2 ob' hk
        · exact (upd i o0 o pl h3 h2 hu).2.2.2 hn ob h
    · obtain ⟨g1, g2⟩ := hF2 j pl o h3 h2 how hn
      refine ⟨fun h => g1 (.inl h), fun ob h => ?_⟩
      rcases frozen _ ob h with h | h
      · exact g1 (.inr ⟨ob, h⟩)
      · exact g2 ob h
def allTy : List Out → Bool
  | [] => true
  | .ty (.row _) :: _ => false
  | .ty t :: r => !t.deep && allTy r
  | _ => false
def valCs : (cs : List CTy) → DC cs → List Value
  | [], _ => []
  | .int k :: r, d => .int k d.1 :: valCs r d.2
  | .bool :: r, d => .bool d.1 :: valCs r d.2
  | .is k _ :: r, d => List.map (Value.int k) d.1 ++ valCs r d.2
  | .str :: r, d => .string (mkS d.1) :: valCs r d.2
  | .fsl _ _ :: r, d => valCs r d.2
  | .dsl _ :: r, d => valCs r d.2
theorem valCs_eq {M : List Place} : ∀ {cs : List CTy} {d : DC cs} {a : List Value}, deepC cs = false → RelC M (mkCs cs d) a → a = valCs cs d
  | [], d, a, _, h => RelC_nil.1 h
  | .int k :: r, d, a, hd, h => by
    obtain ⟨b, t, rfl, hx, hr⟩ := RelC_cons.1 h
    have h2 : deepC r = false := hd
    rw [valCs_eq (cs := r) h2 hr, (RelX_int.1 hx).1]
    rfl
  | .bool :: r, d, a, hd, h => by
    obtain ⟨b, t, rfl, hx, hr⟩ := RelC_cons.1 h
    have h2 : deepC r = false := hd
    simp only [mk1, RelX] at hx
    rw [valCs_eq (cs := r) h2 hr, hx.1]
    rfl
  | .is k n :: r, d, a, hd, h => by
    obtain ⟨b, t, rfl, hx, hr⟩ := RelC_cons.1 h
    have h2 : deepC r = false := hd
    rw [valCs_eq (cs := r) h2 hr, (RelX_is.1 hx).2.1]
    rfl
  | .str :: r, d, a, hd, h => by
    obtain ⟨b, t, rfl, hx, hr⟩ := RelC_cons.1 h
    have h2 : deepC r = false := hd
    simp only [mk1, RelX] at hx
    rw [valCs_eq (cs := r) h2 hr, hx.1]
    rfl
  | .fsl _ _ :: r, d, a, hd, h => by simp [deepC] at hd
  | .dsl _ :: r, d, a, hd, h => by simp [deepC] at hd
def valT : (t : Ty) → t.den → Value
  | .int k, x => .int k x
  | .bool, x => .bool x
  | .is k _, l => .agg (List.map (Value.int k) l).toArray
  | .row _, _ => undef
  | .agg cs, d => .agg (valCs cs d).toArray
  | .str, l => .string (mkS l)
  | .fsl _ _, _ => undef
  | .dsl _, _ => undef
  | .drow _, _ => undef
  | .mapc _, _ => undef
def valO : (os : List Out) → D (tysO os) → List Value
  | [], _ => []
  | .ty t :: r, d => valT t d.1 :: valO r d.2
  | .row _ _ _ :: r, d => valO r d.2
  | .agg cs :: r, d => valO r (restCO cs (tysO r) d)
  | .prow _ _ :: r, d => valO r d.2
  | .psegs _ cs :: r, d => valO r (restCO cs (tysO r) d)
theorem valT_eq {M : List Place} {t : Ty} {x : t.den} {v : Value} (ht : ∀ k, t ≠ .row k) (hd : t.deep = false) (h : RelV M (mkT t x) v) : v = valT t x := by
  cases t with
  | int k => exact (relV_int h).1
  | bool => exact (relV_bool h).1
  | is k n =>
    obtain ⟨vs, e, hc⟩ := RelX_agg.1 h
    have e : v = .agg vs := by simpa using e
    subst e
    have := (RelX_is.1 (RelC_single.1 hc)).2.1
    simp only [valT]
    congr 1
    apply Array.toList_inj.1
    simpa using this
  | row k => exact absurd rfl (ht k)
  | agg cs =>
    obtain ⟨vs, e, hc⟩ := RelX_agg.1 h
    have e : v = .agg vs := by simpa using e
    subst e
    have := valCs_eq hd hc
    simp only [valT]
    congr 1
    apply Array.toList_inj.1
    simpa using this
  | str =>
    simp only [mkT, RelV, RelX] at h
    simpa [valT] using h.1
  | fsl k sz => cases hd
  | dsl e => cases hd
  | drow e => cases hd
  | mapc i => cases hd
theorem mkCs_any {M M' : List Place} {cs : List CTy} {d : DC cs} {a : List Value} (hd : deepC cs = false) (h : RelC M (mkCs cs d) a) : RelC M' (mkCs cs d) a := by
  induction cs generalizing a with
  | nil => exact RelC_nil.2 (RelC_nil.1 h)
  | cons t r ih =>
    obtain ⟨b, t', rfl, hx, hr⟩ := RelC_cons.1 h
    have h2 : deepC r = false := by cases t <;> first | exact hd | cases hd
    refine RelC_cons.2 ⟨b, t', rfl, ?_, ih h2 hr⟩
    cases t with
    | fsl k sz => cases hd
    | dsl e => cases hd
    | _ => simpa only [mk1, RelX] using hx
theorem mkT_any {M M' : List Place} {t : Ty} {x : t.den} {v : Value} (hd : t.deep = false) (h : RelV M (mkT t x) v) : RelV M' (mkT t x) v := by
  cases t with
  | int k => exact RelX_int.2 (RelX_int.1 h)
  | bool => simpa only [mkT, RelV, RelX] using h
  | is k n =>
    obtain ⟨vs, e, hc⟩ := RelX_agg.1 h
    exact RelX_agg.2 ⟨vs, e, RelC_single.2 (RelX_is.2 (RelX_is.1 (RelC_single.1 hc)))⟩
  | row k => exact relV_undef _ _
  | agg cs =>
    obtain ⟨vs, e, hc⟩ := RelX_agg.1 h
    exact RelX_agg.2 ⟨vs, e, mkCs_any hd hc⟩
  | str => simpa only [mkT, RelV, RelX] using h
  | fsl k sz => cases hd
  | dsl e => cases hd
  | drow e => exact relV_undef _ _
  | mapc i => cases hd
theorem valO_eq : ∀ {os : List Out} {d : D (tysO os)} {M : List Place} {b : Nat} {vs : List Value}, allTy os = true → RelL M (avsO os d b) vs → vs = valO os d ∧ RelL [] (avsO os d 0) vs
  | [], d, M, b, vs, _, h => by
    simp only [avsO, RelL_nil] at h
    subst h
    exact ⟨rfl, RelL_nil.2 rfl⟩
  | .ty t :: r, d, M, b, vs, ha, h => by
    obtain ⟨v, vs', rfl, hv, hr⟩ := RelL_cons.1 h
    have ha' : allTy r = true ∧ (∀ k, t ≠ .row k) ∧ t.deep = false := by
      cases t <;> simp only [allTy, Bool.and_eq_true, Bool.not_eq_true', reduceCtorEq] at ha <;> exact ⟨ha.2, fun k h => (by cases h), ha.1⟩
    obtain ⟨e, hl⟩ := valO_eq ha'.1 hr
    have hv2 := valT_eq ha'.2.1 ha'.2.2 hv
    refine ⟨by rw [e, hv2]; rfl, RelL_cons.2 ⟨v, vs', rfl, ?_, hl⟩⟩
    exact mkT_any ha'.2.2 hv
  | .row k sz _ :: r, d, M, b, vs, ha, h => by simp [allTy] at ha
  | .agg cs :: r, d, M, b, vs, ha, h => by simp [allTy] at ha
  | .prow _ _ :: r, d, M, b, vs, ha, h => by simp [allTy] at ha
  | .psegs _ _ :: r, d, M, b, vs, ha, h => by simp [allTy] at ha
def smQRun (n : Nat) (ins : List Item) (os : List Out) (F : D (tysI ins []) → Option (D (tysO os))) : List AV → Heap → (AV → Option ρ) → Option ρ := fun args H K =>
  (extA n ins args H).bind fun d => (F d).bind fun r => K (retA (avsO os r 0))
theorem noOwn_heap : ∀ {its : List Item} {acc : List Ty} {d : D (tysI its acc)} {st : St}, noOwn its = true → (∀ (i : Nat) o, st.heap[i]? = some (some o) → o.own = false) → ∀ (i : Nat) o, (bldI its acc d st).1.heap[i]? = some (some o) → o.own = false := by
  intro its
  induction its with
  | nil => intro acc d st _ h; exact h
  | cons it its ih =>
    intro acc d st hn h
    have snoc : ∀ (x : Option AObj), (∀ o, x = some o → o.own = false) → ∀ (i : Nat) o, (st.heap ++ [x])[i]? = some (some o) → o.own = false := by
      intro x hx i o hi
      rw [List.getElem?_append] at hi
      split at hi
      · exact h i o hi
      · rcases Nat.eq_zero_or_pos (i - st.heap.length) with h0 | h0
        · rw [h0] at hi
          simp at hi
          exact hx o hi
        · rw [List.getElem?_eq_none (by simp; omega)] at hi; cases hi
    cases it with
    | row k sz src own pin =>
      simp only [noOwn, Bool.and_eq_true, Bool.not_eq_true'] at hn
      exact ih hn.2 (snoc _ (by rintro o ⟨⟩; exact hn.1))
    | segs cs src own pin =>
      simp only [noOwn, Bool.and_eq_true, Bool.not_eq_true'] at hn
      exact ih hn.2 (snoc _ (by rintro o ⟨⟩; exact hn.1))
    | drow e src own pin =>
      simp only [noOwn, Bool.and_eq_true, Bool.not_eq_true'] at hn
      exact ih hn.2 (snoc _ (by rintro o ⟨⟩; exact hn.1))
    | drop => exact ih hn (snoc _ (by rintro o ⟨⟩))
    | slot t ty => exact ih hn h
    | const t a => exact ih hn h
    | sl t b sz c => exact ih hn h
    | ptr t b w => exact ih hn h
    | fn t f cs => exact ih hn h
    | cells t cs => exact ih hn h
    | ifc t T k => exact ih hn h
def Base.fresh (n : Nat) : Base := ⟨fun k => n ≤ k, fun _ => True, fun _ _ => True, fun k => k < n, []⟩
theorem Beneath.below' {w w' : World} (h : Beneath (Base.fresh w.heap.size) w w') : Below w.heap.size w w' := ⟨h.os, h.tape, h.output, h.size, fun k hk => h.block k hk (fun h2 => Nat.lt_irrefl _ (Nat.lt_of_lt_of_le hk h2))⟩
theorem smQRun_ok {P : Program} {f : FuncId} {n : Nat} {ins : List Item} {os : List Out} {F : D (tysI ins []) → Option (D (tysO os))} (h : FnSpec P f n ins os F) (hn : noOwn ins = true) (ha : allTy os = true) : QCalAt (ρ := ρ) P f (smQRun n ins os F) := by
  intro args H K r hk M B w vs hl hH
  unfold smQRun at hk
  simp only [Option.bind_eq_some_iff] at hk
  obtain ⟨d, hd, x, hx, hk⟩ := hk
  have hrun : ∀ w', Below w.heap.size w w' → Calls P f vs w' fun e w'' => ∃ rs : Array Value, e = .returned (retV rs) ∧ rs = (valO os x).toArray ∧ RelL [] (avsO os x 0) (valO os x) ∧ Below w'.heap.size w' w'' := by
    intro w' hb
    obtain ⟨M1, t⟩ := extA_told hl (hH.below hb) hd
    have hno := noOwn_heap (acc := []) (d := d) (st := st0 n) hn (fun i o hi => by cases i <;> simp [st0] at hi)
    have hH1 : RelH M1 (bldS n ins d).heap (Base.fresh w'.heap.size) w' := by
      refine ⟨t.heap.len, fun k hk => ⟨hk, trivial⟩, fun i o ho => ?_, t.heap.sep, fun _ _ _ _ _ _ _ => trivial, fun _ _ _ _ _ _ => trivial, fun k ob h => ⟨(t.heap.fz k ob h).1, trivial, .inr (t.heap.fz_lt h)⟩, fun i o pl ho hp how hn => (by rw [hno i o ho] at how; cases how), fun k hk h => absurd hk (Nat.not_le_of_lt h)⟩
      obtain ⟨pl, hp, hok⟩ := t.heap.obj i o ho
      refine ⟨pl, hp, ?_⟩
      rcases hok with hok | ⟨hn, cs, el, fz, h1, h2, h3, h4, h5⟩
      · exact .inl hok
      · exact .inr ⟨hn, cs, el, fz, h1, h2, h3, h4, fun ho2 => by rw [hno i o ho] at ho2; cases ho2⟩
    refine (h d x hx M1 (Base.fresh w'.heap.size) w' vs (relL_of_relT t.tmps) hH1).mono ?_
    rintro e w'' ⟨rs, rfl, hb', N, Fz, _, _, _, _, _, hav, _⟩
    obtain ⟨e1, e2⟩ := valO_eq (b := 0) ha (by simpa using hav [])
    refine ⟨rs, rfl, ?_, by rw [← e1]; exact e2, hb'.below'⟩
    apply Array.toList_inj.1
    simpa using e1
  obtain ⟨e, w', fr, ⟨rs, _, _, hro, _⟩, _⟩ := hrun w (Below.refl _ _) []
  refine ⟨retV (valO os x).toArray, _, hk, RelX.mono (fun b pl e => (by simp at e)) _ _ (retA_rel (M := []) (by simpa using hro)), fun w' hb => (hrun w' hb).mono ?_⟩
  rintro e w'' ⟨rs, rfl, rfl, _, hb'⟩
  exact ⟨rfl, hb'⟩
end Go.AE
set_option linter.unusedVariables false
set_option linter.unusedSimpArgs false
namespace Go.AE
open Go Go.RowKit
structure ToldF where
  f : FuncId
  n : Nat
  ins : List Item
  os : List Out
  F : D (tysI ins []) → Option (D (tysO os))
def ToldF.ok (P : Program) (t : ToldF) : Prop := FnSpec P t.f t.n t.ins t.os t.F
def toldAny : List ToldF → FuncId → Bool
  | [], _ => false
  | t :: r, f => if t.f = f then true else toldAny r f
def smTry {ρ : Type} : List ToldF → FuncId → List AV → Heap → (AV → Heap → Option ρ) → Option ρ
  | [], _, _, _, _ => none
  | t :: r, f, args, H, K => if t.f = f then
      match extA t.n t.ins args H with
      | some _ => smRun t.n t.ins t.os t.F args H K
      | none => smTry r f args H K
    else smTry r f args H K
def toldAnyQ : List ToldF → FuncId → Bool
  | [], _ => false
  | t :: r, f => if t.f = f ∧ allTy t.os = true ∧ noOwn t.ins = true then true else toldAnyQ r f
def smTryQ {ρ : Type} : List ToldF → FuncId → List AV → Heap → (AV → Option ρ) → Option ρ
  | [], _, _, _, _ => none
  | t :: r, f, args, H, K => if t.f = f ∧ allTy t.os = true ∧ noOwn t.ins = true then
      match extA t.n t.ins args H with
      | some _ => smQRun t.n t.ins t.os t.F args H K
      | none => smTryQ r f args H K
    else smTryQ r f args H K
def envOf (l : List ToldF) (ρ : Type) : Env ρ :=
  ⟨fun f => if toldAny l f = true then some (smTry l f) else none, fun f => if toldAnyQ l f = true then some (smTryQ l f) else none⟩
def AllOk (P : Program) : List ToldF → Prop
  | [] => True
  | t :: r => t.ok P ∧ AllOk P r
theorem smTry_ok {P : Program} {ρ : Type} : ∀ {l : List ToldF}, AllOk P l → ∀ f, CalAt (ρ := ρ) P f (smTry l f)
  | [], _, f => fun args H K r h => by cases h
  | t :: l, hl, f => by
    intro args H K r h
    unfold smTry at h
    split at h
    · rename_i hf
      subst hf
      split at h
      · exact smRun_ok hl.1 args H K r h
      · exact smTry_ok hl.2 t.f args H K r h
    · exact smTry_ok hl.2 f args H K r h
theorem smTryQ_ok {P : Program} {ρ : Type} : ∀ {l : List ToldF}, AllOk P l → ∀ f, QCalAt (ρ := ρ) P f (smTryQ l f)
  | [], _, f => fun args H K r h => by cases h
  | t :: l, hl, f => by
    intro args H K r h
    unfold smTryQ at h
    split at h
    · rename_i hf
      obtain ⟨rfl, ha, hn⟩ := hf
      split at h
      · exact smQRun_ok hl.1 hn ha args H K r h
      · exact smTryQ_ok hl.2 t.f args H K r h
    · exact smTryQ_ok hl.2 f args H K r h
theorem envOf_ok {P : Program} {l : List ToldF} (h : AllOk P l) (ρ : Type) : EnvOk P (envOf l ρ) := by
  refine ⟨fun f s hs => ?_, fun f s hs => ?_⟩
  · simp only [envOf] at hs
    split at hs
    · cases hs; exact smTry_ok h f
    · cases hs
  · simp only [envOf] at hs
    split at hs
    · cases hs; exact smTryQ_ok h f
    · cases hs
abbrev calT (P : Program) (l : List ToldF) : Cals := fun σ => evFn P (envOf l σ) 40
abbrev qcalT (l : List ToldF) : QCals := fun σ => qof (envOf l σ)
theorem calT_ok {P : Program} (hP : Callable P) {l : List ToldF} (h : AllOk P l) (σ : Type) (f : FuncId) : CalAt P f (calT P l σ f) := evFn_ok hP (envOf_ok h σ) 40 f
theorem qcalT_ok {P : Program} {l : List ToldF} (h : AllOk P l) (σ : Type) (f : FuncId) : QCalAt P f (qcalT l σ f) := qof_ok (envOf_ok h σ) f
def annOf {ρ : Type} : List (Nat × Ann ρ) → Nat → Option (Ann ρ)
  | [], _ => none
  | (i, a) :: r, id => if id = i then some a else annOf r id
def AnnsOk {ρ : Type} (P : Program) (c : Code) (l : List (Nat × Ann ρ)) : Prop :=
  ∀ (B : Base) (w : World) (id : Nat) (an : Ann ρ) (c' : Code), annOf l id = some an → (id, c') ∈ blocks c → AnnAt P false B w (.block id c') an
theorem annsOk_nil {ρ : Type} (P : Program) (c : Code) : AnnsOk (ρ := ρ) P c [] := fun _ _ _ _ _ h => by cases h
def blocksAt (c : Code) (id : Nat) : List Code := ((blocks c).filter fun p => p.1 == id).map (·.2)
theorem annsOk_cons {ρ : Type} {P : Program} {c body : Code} {id : Nat} {an : Ann ρ} {l : List (Nat × Ann ρ)} (hb : blocksAt c id = [.loop body])
    (h : ∀ B w, AnnAt P false B w (.block id (.loop body)) an) (hl : AnnsOk P c l) : AnnsOk P c ((id, an) :: l) := by
  intro B w id' an' c' ha hc
  unfold annOf at ha
  split at ha
  · rename_i hid
    subst hid
    cases ha
    have : c' ∈ blocksAt c id' := by
      unfold blocksAt
      rw [List.mem_map]
      exact ⟨(id', c'), by simp [hc], rfl⟩
    rw [hb, List.mem_singleton] at this
    subst this
    exact h B w
  · exact hl B w id' an' c' ha hc
def loopAt (c : Code) (id : Nat) : Code := match blocksAt c id with
  | [.loop b] => b
  | _ => .skip
def bodyOf (fn : Func) : Code := match fn.body with
  | some c => c
  | none => .skip
theorem toldF_ok {P : Program} (hP : Callable P) {l : List ToldF} (hl : AllOk P l) {fn : Func} {t : ToldF} {anns : List (Nat × Ann (D (tysO t.os)))} (hf : P.funcs[t.f]? = some fn) (ha : AnnsOk P (bodyOf fn) anns)
    (h : ∀ d, evBody P (calT P l _) (qcalT l _) (annOf anns) t.f (bldS t.n t.ins d).tmps (bldS t.n t.ins d).heap (endO t.os) = t.F d) : t.ok P := by
  refine fnSpec_of hP (calT_ok hP hl) (qcalT_ok hl) (ann := annOf anns) (fun fn' c h1 h2 id an c' h3 h4 B w => ?_) h
  rw [hf] at h1
  cases h1
  unfold bodyOf at ha
  rw [h2] at ha
  exact ha B w id an c' h3 h4
theorem toldS_ok {P : Program} (hP : Callable P) {l : List ToldF} (hl : AllOk P l) {nt : Nat} {ins outs : List Item} {id : Nat} {body : Code}
    {L : Nat → D (tysI ins []) → Option (D (tysI outs []))} {anns : List (Nat × Ann (D (tysI outs [])))} (ha : AnnsOk P body anns) (h0 : ∀ d, L 0 d = none)
    (hs : ∀ k d, evCode P (calT P l _) (qcalT l _) (annOf anns) body (bldS nt ins d) (kS nt ins outs id (L k)) = L (k + 1) d) (F : Nat) {ρ : Type} (B : Base) (w : World) :
    AnnAt (ρ := ρ) P false B w (.block id (.loop body)) (annS nt ins outs (L F)) :=
  annS_ok hP (calT_ok hP hl) (qcalT_ok hl) (ann := annOf anns) (fun id an c' h1 h2 => ha B w id an c' h1 h2) h0 hs F
theorem toldX_ok {P : Program} (hP : Callable P) {l : List ToldF} (hl : AllOk P l) {nt : Nat} {ins outX outs : List Item} {e2 : Exit} {id : Nat} {body : Code}
    {L : Nat → D (tysI ins []) → Option (D (tysI outX []) ⊕ D (tysI outs []))} {anns : List (Nat × Ann (D (tysI outX []) ⊕ D (tysI outs [])))} (ha : AnnsOk P body anns) (h0 : ∀ d, L 0 d = none)
    (hs : ∀ k d, evCode P (calT P l _) (qcalT l _) (annOf anns) body (bldS nt ins d) (kX nt ins outX outs id e2 (L k)) = L (k + 1) d) (he : e2 = .ret ∨ ∃ j, e2 = .exit j ∧ j ≠ id) (F : Nat) {ρ : Type} (B : Base) (w : World) :
    AnnAt (ρ := ρ) P false B w (.block id (.loop body)) (annX nt ins outX outs e2 (L F)) :=
  annX_ok hP (calT_ok hP hl) (qcalT_ok hl) (ann := annOf anns) (fun id an c' h1 h2 => ha B w id an c' h1 h2) h0 hs he F
@[reducible] def u0 {R U : Type} (f : R) (_ : U) : R := f
@[reducible] def u1 {R U A0 : Type} (f : A0 → R) (d : A0 × U) : R := u0 (f d.1) d.2
@[reducible] def u2 {R U A0 A1 : Type} (f : A0 → A1 → R) (d : A0 × A1 × U) : R := u1 (f d.1) d.2
@[reducible] def u3 {R U A0 A1 A2 : Type} (f : A0 → A1 → A2 → R) (d : A0 × A1 × A2 × U) : R := u2 (f d.1) d.2
@[reducible] def u4 {R U A0 A1 A2 A3 : Type} (f : A0 → A1 → A2 → A3 → R) (d : A0 × A1 × A2 × A3 × U) : R := u3 (f d.1) d.2
@[reducible] def u5 {R U A0 A1 A2 A3 A4 : Type} (f : A0 → A1 → A2 → A3 → A4 → R) (d : A0 × A1 × A2 × A3 × A4 × U) : R := u4 (f d.1) d.2
@[reducible] def u6 {R U A0 A1 A2 A3 A4 A5 : Type} (f : A0 → A1 → A2 → A3 → A4 → A5 → R) (d : A0 × A1 × A2 × A3 × A4 × A5 × U) : R := u5 (f d.1) d.2
@[reducible] def u7 {R U A0 A1 A2 A3 A4 A5 A6 : Type} (f : A0 → A1 → A2 → A3 → A4 → A5 → A6 → R) (d : A0 × A1 × A2 × A3 × A4 × A5 × A6 × U) : R := u6 (f d.1) d.2
@[reducible] def u8 {R U A0 A1 A2 A3 A4 A5 A6 A7 : Type} (f : A0 → A1 → A2 → A3 → A4 → A5 → A6 → A7 → R) (d : A0 × A1 × A2 × A3 × A4 × A5 × A6 × A7 × U) : R := u7 (f d.1) d.2
@[reducible] def u9 {R U A0 A1 A2 A3 A4 A5 A6 A7 A8 : Type} (f : A0 → A1 → A2 → A3 → A4 → A5 → A6 → A7 → A8 → R) (d : A0 × A1 × A2 × A3 × A4 × A5 × A6 × A7 × A8 × U) : R := u8 (f d.1) d.2
@[reducible] def u10 {R U A0 A1 A2 A3 A4 A5 A6 A7 A8 A9 : Type} (f : A0 → A1 → A2 → A3 → A4 → A5 → A6 → A7 → A8 → A9 → R) (d : A0 × A1 × A2 × A3 × A4 × A5 × A6 × A7 × A8 × A9 × U) : R := u9 (f d.1) d.2
@[reducible] def u11 {R U A0 A1 A2 A3 A4 A5 A6 A7 A8 A9 A10 : Type} (f : A0 → A1 → A2 → A3 → A4 → A5 → A6 → A7 → A8 → A9 → A10 → R) (d : A0 × A1 × A2 × A3 × A4 × A5 × A6 × A7 × A8 × A9 × A10 × U) : R := u10 (f d.1) d.2
@[reducible] def u12 {R U A0 A1 A2 A3 A4 A5 A6 A7 A8 A9 A10 A11 : Type} (f : A0 → A1 → A2 → A3 → A4 → A5 → A6 → A7 → A8 → A9 → A10 → A11 → R) (d : A0 × A1 × A2 × A3 × A4 × A5 × A6 × A7 × A8 × A9 × A10 × A11 × U) : R := u11 (f d.1) d.2
@[reducible] def u13 {R U A0 A1 A2 A3 A4 A5 A6 A7 A8 A9 A10 A11 A12 : Type} (f : A0 → A1 → A2 → A3 → A4 → A5 → A6 → A7 → A8 → A9 → A10 → A11 → A12 → R) (d : A0 × A1 × A2 × A3 × A4 × A5 × A6 × A7 × A8 × A9 × A10 × A11 × A12 × U) : R := u12 (f d.1) d.2
@[reducible] def u14 {R U A0 A1 A2 A3 A4 A5 A6 A7 A8 A9 A10 A11 A12 A13 : Type} (f : A0 → A1 → A2 → A3 → A4 → A5 → A6 → A7 → A8 → A9 → A10 → A11 → A12 → A13 → R) (d : A0 × A1 × A2 × A3 × A4 × A5 × A6 × A7 × A8 × A9 × A10 × A11 × A12 × A13 × U) : R := u13 (f d.1) d.2
@[reducible] def u15 {R U A0 A1 A2 A3 A4 A5 A6 A7 A8 A9 A10 A11 A12 A13 A14 : Type} (f : A0 → A1 → A2 → A3 → A4 → A5 → A6 → A7 → A8 → A9 → A10 → A11 → A12 → A13 → A14 → R) (d : A0 × A1 × A2 × A3 × A4 × A5 × A6 × A7 × A8 × A9 × A10 × A11 × A12 × A13 × A14 × U) : R := u14 (f d.1) d.2
@[reducible] def u16 {R U A0 A1 A2 A3 A4 A5 A6 A7 A8 A9 A10 A11 A12 A13 A14 A15 : Type} (f : A0 → A1 → A2 → A3 → A4 → A5 → A6 → A7 → A8 → A9 → A10 → A11 → A12 → A13 → A14 → A15 → R) (d : A0 × A1 × A2 × A3 × A4 × A5 × A6 × A7 × A8 × A9 × A10 × A11 × A12 × A13 × A14 × A15 × U) : R := u15 (f d.1) d.2
@[reducible] def u17 {R U A0 A1 A2 A3 A4 A5 A6 A7 A8 A9 A10 A11 A12 A13 A14 A15 A16 : Type} (f : A0 → A1 → A2 → A3 → A4 → A5 → A6 → A7 → A8 → A9 → A10 → A11 → A12 → A13 → A14 → A15 → A16 → R) (d : A0 × A1 × A2 × A3 × A4 × A5 × A6 × A7 × A8 × A9 × A10 × A11 × A12 × A13 × A14 × A15 × A16 × U) : R := u16 (f d.1) d.2
@[reducible] def u18 {R U A0 A1 A2 A3 A4 A5 A6 A7 A8 A9 A10 A11 A12 A13 A14 A15 A16 A17 : Type} (f : A0 → A1 → A2 → A3 → A4 → A5 → A6 → A7 → A8 → A9 → A10 → A11 → A12 → A13 → A14 → A15 → A16 → A17 → R) (d : A0 × A1 × A2 × A3 × A4 × A5 × A6 × A7 × A8 × A9 × A10 × A11 × A12 × A13 × A14 × A15 × A16 × A17 × U) : R := u17 (f d.1) d.2
@[reducible] def u19 {R U A0 A1 A2 A3 A4 A5 A6 A7 A8 A9 A10 A11 A12 A13 A14 A15 A16 A17 A18 : Type} (f : A0 → A1 → A2 → A3 → A4 → A5 → A6 → A7 → A8 → A9 → A10 → A11 → A12 → A13 → A14 → A15 → A16 → A17 → A18 → R) (d : A0 × A1 × A2 × A3 × A4 × A5 × A6 × A7 × A8 × A9 × A10 × A11 × A12 × A13 × A14 × A15 × A16 × A17 × A18 × U) : R := u18 (f d.1) d.2
@[reducible] def u20 {R U A0 A1 A2 A3 A4 A5 A6 A7 A8 A9 A10 A11 A12 A13 A14 A15 A16 A17 A18 A19 : Type} (f : A0 → A1 → A2 → A3 → A4 → A5 → A6 → A7 → A8 → A9 → A10 → A11 → A12 → A13 → A14 → A15 → A16 → A17 → A18 → A19 → R) (d : A0 × A1 × A2 × A3 × A4 × A5 × A6 × A7 × A8 × A9 × A10 × A11 × A12 × A13 × A14 × A15 × A16 × A17 × A18 × A19 × U) : R := u19 (f d.1) d.2
@[reducible] def u21 {R U A0 A1 A2 A3 A4 A5 A6 A7 A8 A9 A10 A11 A12 A13 A14 A15 A16 A17 A18 A19 A20 : Type} (f : A0 → A1 → A2 → A3 → A4 → A5 → A6 → A7 → A8 → A9 → A10 → A11 → A12 → A13 → A14 → A15 → A16 → A17 → A18 → A19 → A20 → R) (d : A0 × A1 × A2 × A3 × A4 × A5 × A6 × A7 × A8 × A9 × A10 × A11 × A12 × A13 × A14 × A15 × A16 × A17 × A18 × A19 × A20 × U) : R := u20 (f d.1) d.2
@[reducible] def u22 {R U A0 A1 A2 A3 A4 A5 A6 A7 A8 A9 A10 A11 A12 A13 A14 A15 A16 A17 A18 A19 A20 A21 : Type} (f : A0 → A1 → A2 → A3 → A4 → A5 → A6 → A7 → A8 → A9 → A10 → A11 → A12 → A13 → A14 → A15 → A16 → A17 → A18 → A19 → A20 → A21 → R) (d : A0 × A1 × A2 × A3 × A4 × A5 × A6 × A7 × A8 × A9 × A10 × A11 × A12 × A13 × A14 × A15 × A16 × A17 × A18 × A19 × A20 × A21 × U) : R := u21 (f d.1) d.2
@[reducible] def u23 {R U A0 A1 A2 A3 A4 A5 A6 A7 A8 A9 A10 A11 A12 A13 A14 A15 A16 A17 A18 A19 A20 A21 A22 : Type} (f : A0 → A1 → A2 → A3 → A4 → A5 → A6 → A7 → A8 → A9 → A10 → A11 → A12 → A13 → A14 → A15 → A16 → A17 → A18 → A19 → A20 → A21 → A22 → R) (d : A0 × A1 × A2 × A3 × A4 × A5 × A6 × A7 × A8 × A9 × A10 × A11 × A12 × A13 × A14 × A15 × A16 × A17 × A18 × A19 × A20 × A21 × A22 × U) : R := u22 (f d.1) d.2
@[reducible] def u24 {R U A0 A1 A2 A3 A4 A5 A6 A7 A8 A9 A10 A11 A12 A13 A14 A15 A16 A17 A18 A19 A20 A21 A22 A23 : Type} (f : A0 → A1 → A2 → A3 → A4 → A5 → A6 → A7 → A8 → A9 → A10 → A11 → A12 → A13 → A14 → A15 → A16 → A17 → A18 → A19 → A20 → A21 → A22 → A23 → R) (d : A0 × A1 × A2 × A3 × A4 × A5 × A6 × A7 × A8 × A9 × A10 × A11 × A12 × A13 × A14 × A15 × A16 × A17 × A18 × A19 × A20 × A21 × A22 × A23 × U) : R := u23 (f d.1) d.2
@[reducible] def u25 {R U A0 A1 A2 A3 A4 A5 A6 A7 A8 A9 A10 A11 A12 A13 A14 A15 A16 A17 A18 A19 A20 A21 A22 A23 A24 : Type} (f : A0 → A1 → A2 → A3 → A4 → A5 → A6 → A7 → A8 → A9 → A10 → A11 → A12 → A13 → A14 → A15 → A16 → A17 → A18 → A19 → A20 → A21 → A22 → A23 → A24 → R) (d : A0 × A1 × A2 × A3 × A4 × A5 × A6 × A7 × A8 × A9 × A10 × A11 × A12 × A13 × A14 × A15 × A16 × A17 × A18 × A19 × A20 × A21 × A22 × A23 × A24 × U) : R := u24 (f d.1) d.2
@[reducible] def u26 {R U A0 A1 A2 A3 A4 A5 A6 A7 A8 A9 A10 A11 A12 A13 A14 A15 A16 A17 A18 A19 A20 A21 A22 A23 A24 A25 : Type} (f : A0 → A1 → A2 → A3 → A4 → A5 → A6 → A7 → A8 → A9 → A10 → A11 → A12 → A13 → A14 → A15 → A16 → A17 → A18 → A19 → A20 → A21 → A22 → A23 → A24 → A25 → R) (d : A0 × A1 × A2 × A3 × A4 × A5 × A6 × A7 × A8 × A9 × A10 × A11 × A12 × A13 × A14 × A15 × A16 × A17 × A18 × A19 × A20 × A21 × A22 × A23 × A24 × A25 × U) : R := u25 (f d.1) d.2
@[reducible] def u27 {R U A0 A1 A2 A3 A4 A5 A6 A7 A8 A9 A10 A11 A12 A13 A14 A15 A16 A17 A18 A19 A20 A21 A22 A23 A24 A25 A26 : Type} (f : A0 → A1 → A2 → A3 → A4 → A5 → A6 → A7 → A8 → A9 → A10 → A11 → A12 → A13 → A14 → A15 → A16 → A17 → A18 → A19 → A20 → A21 → A22 → A23 → A24 → A25 → A26 → R) (d : A0 × A1 × A2 × A3 × A4 × A5 × A6 × A7 × A8 × A9 × A10 × A11 × A12 × A13 × A14 × A15 × A16 × A17 × A18 × A19 × A20 × A21 × A22 × A23 × A24 × A25 × A26 × U) : R := u26 (f d.1) d.2
@[reducible] def u28 {R U A0 A1 A2 A3 A4 A5 A6 A7 A8 A9 A10 A11 A12 A13 A14 A15 A16 A17 A18 A19 A20 A21 A22 A23 A24 A25 A26 A27 : Type} (f : A0 → A1 → A2 → A3 → A4 → A5 → A6 → A7 → A8 → A9 → A10 → A11 → A12 → A13 → A14 → A15 → A16 → A17 → A18 → A19 → A20 → A21 → A22 → A23 → A24 → A25 → A26 → A27 → R) (d : A0 × A1 × A2 × A3 × A4 × A5 × A6 × A7 × A8 × A9 × A10 × A11 × A12 × A13 × A14 × A15 × A16 × A17 × A18 × A19 × A20 × A21 × A22 × A23 × A24 × A25 × A26 × A27 × U) : R := u27 (f d.1) d.2
@[reducible] def u29 {R U A0 A1 A2 A3 A4 A5 A6 A7 A8 A9 A10 A11 A12 A13 A14 A15 A16 A17 A18 A19 A20 A21 A22 A23 A24 A25 A26 A27 A28 : Type} (f : A0 → A1 → A2 → A3 → A4 → A5 → A6 → A7 → A8 → A9 → A10 → A11 → A12 → A13 → A14 → A15 → A16 → A17 → A18 → A19 → A20 → A21 → A22 → A23 → A24 → A25 → A26 → A27 → A28 → R) (d : A0 × A1 × A2 × A3 × A4 × A5 × A6 × A7 × A8 × A9 × A10 × A11 × A12 × A13 × A14 × A15 × A16 × A17 × A18 × A19 × A20 × A21 × A22 × A23 × A24 × A25 × A26 × A27 × A28 × U) : R := u28 (f d.1) d.2
@[reducible] def u30 {R U A0 A1 A2 A3 A4 A5 A6 A7 A8 A9 A10 A11 A12 A13 A14 A15 A16 A17 A18 A19 A20 A21 A22 A23 A24 A25 A26 A27 A28 A29 : Type} (f : A0 → A1 → A2 → A3 → A4 → A5 → A6 → A7 → A8 → A9 → A10 → A11 → A12 → A13 → A14 → A15 → A16 → A17 → A18 → A19 → A20 → A21 → A22 → A23 → A24 → A25 → A26 → A27 → A28 → A29 → R) (d : A0 × A1 × A2 × A3 × A4 × A5 × A6 × A7 × A8 × A9 × A10 × A11 × A12 × A13 × A14 × A15 × A16 × A17 × A18 × A19 × A20 × A21 × A22 × A23 × A24 × A25 × A26 × A27 × A28 × A29 × U) : R := u29 (f d.1) d.2
@[reducible] def u31 {R U A0 A1 A2 A3 A4 A5 A6 A7 A8 A9 A10 A11 A12 A13 A14 A15 A16 A17 A18 A19 A20 A21 A22 A23 A24 A25 A26 A27 A28 A29 A30 : Type} (f : A0 → A1 → A2 → A3 → A4 → A5 → A6 → A7 → A8 → A9 → A10 → A11 → A12 → A13 → A14 → A15 → A16 → A17 → A18 → A19 → A20 → A21 → A22 → A23 → A24 → A25 → A26 → A27 → A28 → A29 → A30 → R) (d : A0 × A1 × A2 × A3 × A4 × A5 × A6 × A7 × A8 × A9 × A10 × A11 × A12 × A13 × A14 × A15 × A16 × A17 × A18 × A19 × A20 × A21 × A22 × A23 × A24 × A25 × A26 × A27 × A28 × A29 × A30 × U) : R := u30 (f d.1) d.2
@[reducible] def u32 {R U A0 A1 A2 A3 A4 A5 A6 A7 A8 A9 A10 A11 A12 A13 A14 A15 A16 A17 A18 A19 A20 A21 A22 A23 A24 A25 A26 A27 A28 A29 A30 A31 : Type} (f : A0 → A1 → A2 → A3 → A4 → A5 → A6 → A7 → A8 → A9 → A10 → A11 → A12 → A13 → A14 → A15 → A16 → A17 → A18 → A19 → A20 → A21 → A22 → A23 → A24 → A25 → A26 → A27 → A28 → A29 → A30 → A31 → R) (d : A0 × A1 × A2 × A3 × A4 × A5 × A6 × A7 × A8 × A9 × A10 × A11 × A12 × A13 × A14 × A15 × A16 × A17 × A18 × A19 × A20 × A21 × A22 × A23 × A24 × A25 × A26 × A27 × A28 × A29 × A30 × A31 × U) : R := u31 (f d.1) d.2
structure TL where
  nt : Nat
  ins : List Item
  outs : List Item
  id : Nat
  L : Nat → D (tysI ins []) → Option (D (tysI outs []))
  S : Nat → D (tysI ins []) → Option (D (tysI outs []))
def TL.ann (t : TL) (F : Nat) {ρ : Type} : Ann ρ := annS t.nt t.ins t.outs (t.L F)
def TL.ok (P : Program) (fn : Func) (t : TL) (F : Nat) : Prop := ∀ {ρ : Type} (B : Base) (w : World), AnnAt (ρ := ρ) P false B w (.block t.id (.loop (loopAt (bodyOf fn) t.id))) (t.ann F)
structure TX where
  nt : Nat
  ins : List Item
  outX : List Item
  outs : List Item
  e2 : Exit
  id : Nat
  L : Nat → D (tysI ins []) → Option (D (tysI outX []) ⊕ D (tysI outs []))
  S : Nat → D (tysI ins []) → Option (D (tysI outX []) ⊕ D (tysI outs []))
def TX.ann (t : TX) (F : Nat) {ρ : Type} : Ann ρ := annX t.nt t.ins t.outX t.outs t.e2 (t.L F)
def TX.ok (P : Program) (fn : Func) (t : TX) (F : Nat) : Prop := ∀ {ρ : Type} (B : Base) (w : World), AnnAt (ρ := ρ) P false B w (.block t.id (.loop (loopAt (bodyOf fn) t.id))) (t.ann F)
theorem aN {ρ : Type} {P : Program} {c : Code} : AnnsOk (ρ := ρ) P c [] := annsOk_nil P c
theorem aL {ρ : Type} {P : Program} {fn : Func} {c : Code} {t : TL} {F : Nat} {l : List (Nat × Ann ρ)} (hb : blocksAt c t.id = [.loop (loopAt (bodyOf fn) t.id)]) (h : t.ok P fn F) (hl : AnnsOk P c l) : AnnsOk P c ((t.id, t.ann F) :: l) :=
  annsOk_cons hb (fun B w => h B w) hl
theorem aX {ρ : Type} {P : Program} {fn : Func} {c : Code} {t : TX} {F : Nat} {l : List (Nat × Ann ρ)} (hb : blocksAt c t.id = [.loop (loopAt (bodyOf fn) t.id)]) (h : t.ok P fn F) (hl : AnnsOk P c l) : AnnsOk P c ((t.id, t.ann F) :: l) :=
  annsOk_cons hb (fun B w => h B w) hl
theorem okF {P : Program} (hP : Callable P) {l : List ToldF} (hl : AllOk P l) {fn : Func} {t : ToldF} (anns : List (Nat × Ann (D (tysO t.os)))) (hf : P.funcs[t.f]? = some fn) (ha : AnnsOk P (bodyOf fn) anns)
    (h : ∀ d, evBody P (calT P l _) (qcalT l _) (annOf anns) t.f (bldS t.n t.ins d).tmps (bldS t.n t.ins d).heap (endO t.os) = t.F d) : t.ok P :=
  toldF_ok hP hl hf ha h
theorem okL {P : Program} (hP : Callable P) {l : List ToldF} (hl : AllOk P l) {fn : Func} {t : TL} {F : Nat} (anns : List (Nat × Ann (D (tysI t.outs [])))) (ha : AnnsOk P (loopAt (bodyOf fn) t.id) anns)
    (h0 : ∀ d, t.L 0 d = none) (h1 : ∀ k d, t.S k d = t.L (k + 1) d)
    (hs : ∀ k d, evCode P (calT P l _) (qcalT l _) (annOf anns) (loopAt (bodyOf fn) t.id) (bldS t.nt t.ins d) (kS t.nt t.ins t.outs t.id (t.L k)) = t.S k d) : t.ok P fn F := by
  intro ρ B w
  exact toldS_ok hP hl ha h0 (fun k d => (hs k d).trans (h1 k d)) F B w
theorem okX {P : Program} (hP : Callable P) {l : List ToldF} (hl : AllOk P l) {fn : Func} {t : TX} {F : Nat} (anns : List (Nat × Ann (D (tysI t.outX []) ⊕ D (tysI t.outs [])))) (ha : AnnsOk P (loopAt (bodyOf fn) t.id) anns)
    (h0 : ∀ d, t.L 0 d = none) (h1 : ∀ k d, t.S k d = t.L (k + 1) d) (he : t.e2 = .ret ∨ ∃ j, t.e2 = .exit j ∧ j ≠ t.id)
    (hs : ∀ k d, evCode P (calT P l _) (qcalT l _) (annOf anns) (loopAt (bodyOf fn) t.id) (bldS t.nt t.ins d) (kX t.nt t.ins t.outX t.outs t.id t.e2 (t.L k)) = t.S k d) : t.ok P fn F := by
  intro ρ B w
  exact toldX_ok hP hl ha h0 (fun k d => (hs k d).trans (h1 k d)) he F B w
theorem eR {e : Exit} {id : Nat} (h : e = .ret) : e = .ret ∨ ∃ j, e = .exit j ∧ j ≠ id := .inl h
theorem eX {e : Exit} {id : Nat} (j : Nat) (h : e = .exit j) (hj : decide (j = id) = false) : e = .ret ∨ ∃ j, e = .exit j ∧ j ≠ id := .inr ⟨j, h, of_decide_eq_false hj⟩
end Go.AE
set_option linter.unusedVariables false
set_option linter.unusedSimpArgs false
namespace Go.AE
open Go Go.RowKit
theorem law_told {P : Program} {t : ToldF} (h : t.ok P) (ho : t.os = [.ty .bool]) {d : D (tysI t.ins [])} (hd : t.F d = some (ho ▸ (true, ()))) {M : List Place} {w : World} {vs : Array Value}
    (hl : RelL M (bldS t.n t.ins d).tmps vs.toList) (hH : RelH M (bldS t.n t.ins d).heap (Base.at w.heap.size) w) : Calls P t.f vs w fun e w' => e = .returned (.bool true) ∧ Below w.heap.size w w' := by
  obtain ⟨f, n, ins, os, F⟩ := t
  dsimp only at ho hd hl hH
  subst ho
  refine (h d _ hd M _ w vs hl hH).mono ?_
  rintro e w' ⟨rs, rfl, hb, N, Fz, _, _, _, _, _, hav, _⟩
  have hr := hav []
  obtain ⟨v, vs', hv, hx, hn⟩ := RelL_cons.1 hr
  have hn : vs' = [] := by simpa [avsO, RelL_nil] using hn
  subst hn
  refine ⟨?_, hb.below⟩
  have e1 := (relV_bool (x := true) (l := none) hx).1
  have h1 : rs = #[.bool true] := by
    apply Array.toList_inj.1
    rw [hv, e1]
  subst h1
  rfl
end Go.AE
set_option linter.unusedVariables false
set_option linter.unusedSimpArgs false
namespace Go.AE
open Go Go.RowKit
theorem run_slice_nil {P : Program} {ρ : Operand → Value} {o : Oper} {t t' : TypeId} {e : TypeId} {x : Operand} (ho : o.op = .binOp .eql t x (.const (.slice none 0 0)) t') {A : Option Addr} {len cap : Nat} (hx : ρ x = .slice A len cap) (hy : ρ (.const (.slice none 0 0)) = .slice none 0 0) (hu : P.underlying t = some (.slice e)) (w : World) :
    (execOp ρ o).run P w = .ok (.value (.bool A.isNone)) w := by
  have h : (Op.equalIn Op.maxDepth t (.slice A len cap) (.slice none 0 0)).run P w = .ok A.isNone w := by
    rw [show Op.maxDepth = (Op.maxDepth - 1) + 1 from rfl]
    simp only [Op.equalIn, Sem.run_bind, run_underlying hu, Result.andThen_ok]
    cases A <;> rfl
  simp [execOp, ho, hx, hy, eqGuard, binOp, Op.equal, h]
theorem wp_to {P : Program} (hP : Callable P) {cal : Cal St} (hcal : ∀ f, CalAt P f (cal f)) {qcal : QCal St} (hq : ∀ f, QCalAt P f (qcal f)) {c : Code} {st st' : St} (h : evCode P cal qcal (fun _ => none) c st (fun e s => match e with | .normal => some s | _ => none) = some st')
    {M : List Place} {B : Base} {w0 : World} {a : Go.Act} {w : World} (hr : Rel M st B w0 a w) {Q : Exit → Go.Act → World → Prop} (hn : ∀ M' a' w', Rel M' st' B w0 a' w' → Q .normal a' w') : c.wp P Q a w := by
  refine evCode_sound hP hcal hq c (fun _ _ _ h => by cases h) st _ h M a w Q hr fun e M' s a' w' (_ : ExtO true M M') hk hr' => ?_
  cases e <;> simp only [reduceCtorEq] at hk
  cases hk
  exact hn M' a' w' hr'
def cloneF (sz : Nat) (l : List Int) : Option (List Int × Unit) :=
  cond (decide (0 + div1 l.length sz ≤ 1099511627776) && (if false = true then decide (0 < div1 l.length sz) else true)) (some (l, ())) none
abbrev k0 : Exit → St → Option St := fun e s => match e with | .normal => some s | _ => none
theorem clone_spec {P : Program} (hP : Callable P) {f : FuncId} {fn : Func} (hf : P.funcs[f]? = some fn) {k : IntKind} {sz : Nat} {R0 X REST : Code} {i1 : Nat} {o3 o4 : Oper} {t t' e : TypeId}
    (hb : fn.body = some (.seq R0 (.seq (.seq (.region i1 #[o3, o4] false) (.cond (.tmp 4) X .skip)) REST)))
    (ho4 : o4.op = .binOp .eql t (.tmp 3) (.const (.slice none 0 0)) t') (hd4 : o4.dst = some 4) (hg4 : o4.guard = none) (hg3 : o3.guard = none) (hu : P.underlying t = some (.slice e))
    (st1 st2 : List Int → St)
    (h0 : ∀ l, evCode P (evFn P (emptyEnv St) 1) (qof (emptyEnv St)) (fun _ => none) R0 ⟨[.sl 1 0 (div1 (List.length (α := Int) l) sz) sz .whole] ++ List.replicate (fn.ntmps - 1) .undef, [none, some ⟨.row k l, false, none⟩]⟩ k0 = some (st1 l))
    (h3 : ∀ l, evExec P (evFn P (emptyEnv St) 1) o3 (st1 l) some = some (st2 l))
    (hs3 : ∀ l, (st2 l).tmps.getD 3 .undef = .sl 1 0 (div1 (List.length (α := Int) l) sz) sz .whole ∧ (st2 l).heap = [none, some ⟨.row k l, false, none⟩])
    (hlen : ∀ l, 4 < (st2 l).tmps.length)
    (hX : ∀ l, evCode P (evFn P (emptyEnv (D (tysO [.row k sz]))) 1) (qof (emptyEnv _)) (fun _ => none) X ((st2 l).put (some 4) (.bool (some true) true)) (fun e st => match e with
      | .ret => (match aresL P st fn.results.toList with | some l => endO [.row k sz] l st.heap | none => none) | _ => none) = some ([], ()))
    (hR : ∀ l, evCode P (evFn P (emptyEnv (D (tysO [.row k sz]))) 1) (qof (emptyEnv _)) (fun _ => none) REST ((st2 l).put (some 4) (.bool (some false) false)) (fun e st => match e with
      | .ret => (match aresL P st fn.results.toList with | some l => endO [.row k sz] l st.heap | none => none) | _ => none) = cloneF sz l) :
    FnSpec P f 1 [.row k sz (.slot 0) false] [.row k sz] (fun d => cloneF sz d.1) := by
  rintro ⟨l, ⟨⟩⟩ r hF M B w vs hl hH
  have hF : cloneF sz l = some r := hF
  have hl : RelL M [.sl 1 0 (div1 l.length sz) sz .whole] vs.toList := hl
  have hH : RelH M [none, some ⟨.row k l, false, none⟩] B w := hH
  have hs := relL_size hl
  simp at hs
  refine calls_of_wp hf hb ?_
  have e0 := emptyEnv_ok P St
  have e1 := emptyEnv_ok P (D (tysO [Out.row k sz]))
  have hr0 : Rel M ⟨[.sl 1 0 (div1 l.length sz) sz .whole] ++ List.replicate (fn.ntmps - 1) .undef, [none, some ⟨.row k l, false, none⟩]⟩ B.clean w { tmps := vs ++ Array.replicate (fn.ntmps - vs.size) undef, defers := [] } w :=
    ⟨by rw [← hs]; exact relT_args hl _, rfl, hH.clean, Beneath.refl _ _⟩
  refine wp_seq (wp_to hP (evFn_ok hP e0 1) (qof_ok e0) (h0 l) hr0 fun M1 a1 w1 hr1 => ?_)
  refine wp_seq (wp_seq (wp_region_list ?_))
  show wpList P #[o3, o4] _ [o3, o4] a1 w1
  unfold wpList
  rw [if_pos (by simp [Region.wanted, hg3])]
  refine .inl (evExec_sound hP (evFn_ok hP e0 1) (h3 l) hr1 fun M2 st a2 w2 hE hk hr2 => ?_)
  cases hk
  unfold wpList
  rw [if_pos (by simp [Region.wanted, hg4])]
  refine .inl ?_
  obtain ⟨hs1, hs2⟩ := hs3 l
  have hv3 := hr2.tmps.2 3
  rw [hs1] at hv3
  have hv3' := hv3
  simp only [RelV, RelX] at hv3
  obtain ⟨pl, A, cap, hpl, hv, hn, hcap, hnil, hnn, _⟩ := hv3
  have hv : a2.tmps.getD 3 undef = .slice A (div1 l.length sz) cap := by simpa using hv
  have hrun := run_slice_nil (ρ := a2.eval) ho4 (by simpa [Go.Act.eval] using hv) (by simp [Go.Act.eval]) hu w2
  unfold Oper.wp
  rw [hrun, Oper.upon_value, hd4]
  unfold wpList
  have hrb : ∀ b, A.isNone = b → Rel M2 ((st2 l).put (some 4) (.bool (some b) b)) B.clean w (a2.put (some 4) (.bool A.isNone)) w2 := by
    intro b hb
    rw [hb]
    exact hr2.put (by simp [RelV, RelX]) (some 4)
  have fin : ∀ {c : Code} {b : Bool} {Q : Exit → Go.Act → World → Prop}, A.isNone = b → evCode P (evFn P (emptyEnv (D (tysO [.row k sz]))) 1) (qof (emptyEnv _)) (fun _ => none) c ((st2 l).put (some 4) (.bool (some b) b)) (fun e st => match e with
      | .ret => (match aresL P st fn.results.toList with | some l => endO [.row k sz] l st.heap | none => none) | _ => none) = some r →
      (∀ a' w', (a'.defers = [] ∧ ∃ v, (results fn a'.tmps).run P w' = .ok v w' ∧ ∃ rs : Array Value, Ending.returned v = .returned (retV rs) ∧ Beneath B w w' ∧ RelOut B w' [.row k sz] r rs.toList) → Q .ret a' w') →
      c.wp P Q (a2.put (some 4) (.bool A.isNone)) w2 := by
    intro c b Q hb hev hQ
    refine evCode_sound hP (evFn_ok hP e1 1) (qof_ok e1) c (fun _ _ _ h => by cases h) _ _ hev M2 _ w2 _ (hrb b hb) fun e M3 st3 a3 w3 (_ : ExtO true M2 M3) hk hr3 => ?_
    cases e <;> simp only [reduceCtorEq] at hk
    split at hk
    · rename_i l3 hres
      obtain ⟨rs, g1, g2⟩ := results_run hr3.tmps hr3.heap hres
      exact hQ _ _ ⟨hr3.defers, _, g2, rs, rfl, hr3.below.unclean, endO_sound hr3.heap.unclean hk g1⟩
    · cases hk
  have ev4 : (a2.put (some 4) (.bool A.isNone)).eval (.tmp 4) = .bool A.isNone := by
    have h4 : 4 < a2.tmps.size := by rw [← hr2.tmps.1]; exact hlen l
    simp [Go.Act.eval, Go.Act.put, h4]
  cases hA : A.isNone with
  | true =>
    rw [hA] at ev4 fin
    refine wp_cond_true ev4 (fin rfl ?_ fun a' w' h => h)
    have hpn : pl.nil = true := by
      cases hp : pl.nil with
      | true => rfl
      | false => exact absurd (Option.isNone_iff_eq_none.1 hA) (hnn hp).1
    have hl0 : l = [] := by
      obtain ⟨p0, hp0, hok⟩ := hr2.heap.obj 1 ⟨.row k l, false, none⟩ (by rw [hs2]; rfl)
      rw [hpl] at hp0
      cases hp0
      rcases hok with ⟨_, hn0, hro⟩ | ⟨h, _⟩
      · simp only [RelO] at hro
        have := congrArg List.length hro.1
        exact List.length_eq_zero_iff.1 (by simpa using this.symm)
      · rw [hpn] at h; cases h
    subst hl0
    have : r = ([], ()) := by simpa [cloneF, div1_eq] using hF.symm
    subst this
    exact hX []
  | false =>
    rw [hA] at ev4 fin
    refine wp_cond_false ev4 (wp_skip ?_)
    show Code.wp P REST _ _ _
    refine fin rfl ?_ fun a' w' h => h
    rw [hR]
    exact hF
def cloneR0 (c : Code) : Code := match c with | .seq a _ => a | _ => .skip
def cloneX (c : Code) : Code := match c with | .seq _ (.seq (.seq _ (.cond _ x _)) _) => x | _ => .skip
def cloneRest (c : Code) : Code := match c with | .seq _ (.seq _ y) => y | _ => .skip
def cloneOps (c : Code) : List Oper := match c with | .seq _ (.seq (.seq (.region _ ops _) _) _) => ops.toList | _ => []
def nopOper : Oper := ⟨none, .assign (.tmp 0), 0, "", #[], none⟩
def cloneO3 (c : Code) : Oper := match cloneOps c with | [a, _] => a | _ => nopOper
def cloneO4 (c : Code) : Oper := match cloneOps c with | [_, b] => b | _ => nopOper
theorem cloneF_is {l : List Int} (h : l.length ≤ 1099511627776) : cloneF 1 l = some (l, ()) := by
  simp [cloneF, div1_eq, h]
def cloneS1 (sz : Nat) (k : IntKind) (l : List Int) : St := ⟨[.sl 1 0 (div1 l.length sz) sz .whole, .undef, .nils, .undef, .undef, .undef, .undef, .undef], [none, some ⟨.row k l, false, none⟩]⟩
def cloneS2 (sz : Nat) (k : IntKind) (l : List Int) : St := ⟨[.sl 1 0 (div1 l.length sz) sz .whole, .undef, .nils, .sl 1 0 (div1 l.length sz) sz .whole, .undef, .undef, .undef, .undef], [none, some ⟨.row k l, false, none⟩]⟩
end Go.AE
set_option linter.unusedVariables false
set_option linter.unusedSimpArgs false
namespace Go.AE
open Go Go.RowKit
def IsRowV (k : IntKind) (w : World) (a : Option Addr) (len cap : Nat) (zs : List Int) : Prop :=
  (a = none ∧ len = 0 ∧ cap = 0 ∧ zs = []) ∨
  ∃ x, a = some x ∧ len ≤ cap ∧ cap ≤ maxLen ∧ zs.length = cap ∧ (∀ i, i < zs.length → w.cell? (x.add i) = some (.int k (zs.getD i 0))) ∧ ∀ n ∈ zs, (Lit.int k n).wf = true
theorem isRowV_facts {k : IntKind} {w : World} {a : Option Addr} {len cap : Nat} {zs : List Int} (h : IsRowV k w a len cap zs) : (zs.take len).length = len ∧ ∀ x ∈ zs.take len, k.has x := by
  rcases h with ⟨rfl, rfl, rfl, rfl⟩ | ⟨x, rfl, h1, _, h3, _, h5⟩
  · simp
  · exact ⟨by simp; omega, fun n hn => has_wf (h5 n (List.mem_of_mem_take hn))⟩
theorem isRowV_has {k : IntKind} {w : World} {a : Option Addr} {len cap : Nat} {zs : List Int} (h : IsRowV k w a len cap zs) : IntKind.i64.has (len : Int) := by
  rw [has_iff]
  simp only [loB, hiB]
  rcases h with ⟨rfl, rfl, rfl, rfl⟩ | ⟨x, rfl, h1, h2, _⟩
  · simp
  · have : maxLen ≤ 9223372036854775807 := by decide
    omega
theorem worldCell {w : World} {x : Addr} {i : Nat} {v : Value} (h : w.cell? (x.add i) = some v) : ∃ cs el fz, w.heap[x.block]? = some (.cells cs el fz) ∧ cs[x.off + i]? = some v ∧ (i = 0 → x.spot = none) := by
  unfold World.cell? at h
  by_cases hi : i = 0
  · subst hi
    simp only [Addr.add, if_true] at h
    cases hg : w.heap[x.block]? with
    | none => simp [hg] at h
    | some o =>
      cases o with
      | cells cs el fz =>
        simp only [hg] at h
        cases hs : x.spot with
        | none =>
          simp only [hs, Option.isSome_none, Bool.false_eq_true, if_false] at h
          exact ⟨cs, el, fz, rfl, by simpa using h, fun _ => rfl⟩
        | some s => simp [hs] at h
      | _ => simp [hg] at h
  · simp only [Addr.add, if_neg hi] at h
    cases hg : w.heap[x.block]? with
    | none => simp [hg] at h
    | some o =>
      cases o with
      | cells cs el fz =>
        simp only [hg, Option.isSome_none, Bool.false_eq_true, if_false] at h
        exact ⟨cs, el, fz, rfl, h, fun h => absurd h hi⟩
      | _ => simp [hg] at h
theorem add_slice {M : List Place} {H : Heap} {w : World} (r : RelH M H (Base.at w.heap.size) w) (hno : ∀ (i : Nat) o, H[i]? = some (some o) → o.own = false) {k : IntKind} {a : Option Addr} {len cap : Nat} {zs : List Int} (h : IsRowV k w a len cap zs) (hlen : IntKind.i64.has (len : Int)) :
    ∃ pl, RelH (M ++ [pl]) (H ++ [some ⟨.row k (zs.take len), false, none⟩]) (Base.at w.heap.size) w ∧ RelV (M ++ [pl]) (.sl H.length 0 (div1 (zs.take len).length 1) 1 .whole) (.slice a len cap) := by
  have hl := (isRowV_facts h).1
  have hsep : ∀ pl : Place, ∀ (i : Nat) (oi : AObj) (pi : Place), H[i]? = some (some oi) → M[i]? = some pi → (oi.own = true ∨ (⟨.row k (zs.take len), false, none⟩ : AObj).own = true) → pi.nil = false → pl.nil = false → pi.blk ≠ pl.blk := by
    intro pl i oi pi hi _ ho
    rcases ho with ho | ho
    · rw [hno i oi hi] at ho; cases ho
    · cases ho
  have rel : ∀ (pl : Place) (A : Option Addr), (pl.nil = true → cap = 0) → (pl.nil = false → A ≠ none ∧ (0 < len → A = some ⟨pl.blk, pl.off, none⟩)) → len = pl.n → len ≤ cap →
      RelV (M ++ [pl]) (.sl H.length 0 (div1 (zs.take len).length 1) 1 .whole) (.slice A len cap) := by
    intro pl A h1 h2 h3 h4
    rw [hl, div1_eq, Nat.div_one]
    simp only [RelV, RelX]
    exact ⟨pl, A, cap, by rw [r.len]; simp, rfl, by omega, h4, fun hn => ⟨fun hc => (by cases hc), h1 hn⟩, fun hn => ⟨(h2 hn).1, fun hq => by
      rcases hq with hq | hq
      · simpa using (h2 hn).2 hq
      · cases hq⟩, fun hc => (by cases hc), fun hc => (by cases hc), fun _ => ⟨trivial, by omega⟩, hlen⟩
  rcases h with ⟨rfl, rfl, rfl, rfl⟩ | ⟨x, rfl, h1, h2, h3, h4, h5⟩
  · exact ⟨⟨true, 0, 0, 0, 0, noFz⟩, RelH.add (pl := ⟨true, 0, 0, 0, 0, noFz⟩) r (.inl ⟨rfl, rfl, by simp [RelO]⟩) (fun _ h => by cases h) (fun _ => trivial) (hsep _) rfl (fun h => by cases h), rel _ none (fun _ => rfl) (fun h => (by cases h)) rfl (Nat.le_refl _)⟩
  · by_cases hc : cap = 0
    · subst hc
      have hz : zs = [] := List.length_eq_zero_iff.1 h3
      have hl0 : len = 0 := by omega
      subst hz; subst hl0
      exact ⟨⟨true, 0, 0, 0, 0, noFz⟩, RelH.add (pl := ⟨true, 0, 0, 0, 0, noFz⟩) r (.inl ⟨rfl, rfl, by simp [RelO]⟩) (fun _ h => by cases h) (fun _ => trivial) (hsep _) rfl (fun h => by cases h), rel _ _ (fun _ => rfl) (fun h => (by cases h)) rfl (Nat.le_refl _)⟩
    · 
      have c0 := h4 0 (by omega)
      obtain ⟨cs, el, fz, hg, _, hs⟩ := worldCell c0
      have hs := hs rfl
      have cell : ∀ i, i < zs.length → cs[x.off + i]? = some (.int k (zs.getD i 0)) := by
        intro i hi
        obtain ⟨cs', el', fz', hg', hc', _⟩ := worldCell (h4 i hi)
        rw [hg] at hg'
        cases hg'
        exact hc'
      have hsize : x.off + cap ≤ cs.size := by
        have := cell (cap - 1) (by omega)
        have := (Array.getElem?_eq_some_iff.1 this).1
        omega
      have hcells : (cs.toList.drop x.off).take len = (zs.take len).map (.int k) := by
        apply List.ext_getElem?
        intro i
        rw [List.getElem?_take, List.getElem?_map, List.getElem?_take]
        by_cases hi : i < len
        · rw [if_pos hi, if_pos hi, List.getElem?_drop]
          have := cell i (by omega)
          rw [Array.getElem?_toList, this]
          have hz : zs[i]? = some (zs.getD i 0) := by
            rw [List.getD_eq_getElem?_getD, List.getElem?_eq_getElem (by omega)]
            simp
          rw [hz]
          rfl
        · rw [if_neg hi, if_neg hi]
          rfl
      refine ⟨⟨false, x.block, x.off, len, cs.size, noFz⟩, RelH.add (pl := ⟨false, x.block, x.off, len, cs.size, noFz⟩) r (.inr ⟨rfl, cs, el, fz, hg, rfl, by show x.off + len ≤ cs.size; omega, ?_, fun h => (by cases h)⟩) (fun _ h => by cases h) (fun _ => trivial) (hsep _) rfl (fun h => by cases h), rel _ _ (fun h => (by cases h)) (fun _ => ⟨by simp, fun _ => by
        obtain ⟨b, o, s⟩ := x
        simp only at hs
        subst hs
        rfl⟩) rfl h1⟩
      simp only [RelO]
      exact ⟨hcells, fun n hn => has_wf (h5 n (List.mem_of_mem_take hn))⟩
theorem noOwn_snoc {H : Heap} (hno : ∀ (i : Nat) o, H[i]? = some (some o) → o.own = false) {x : AObj} (hx : x.own = false) : ∀ (i : Nat) o, (H ++ [some x])[i]? = some (some o) → o.own = false := by
  intro i o hi
  rw [List.getElem?_append] at hi
  split at hi
  · exact hno i o hi
  · rcases Nat.eq_zero_or_pos (i - H.length) with h0 | h0
    · rw [h0] at hi
      simp at hi
      rw [← hi]; exact hx
    · rw [List.getElem?_eq_none (by simp; omega)] at hi; cases hi
end Go.AE
set_option linter.unusedVariables false
set_option linter.unusedSimpArgs false
namespace Go.AE
open Go Go.RowKit
open Go.MapKept (Stamped stamped_push stamped_empty stamped_iff)
open Go.ChangeMaps (setBlock)
def MapAt (w : World) (b : Nat) (T : List (Value × Value)) : Prop :=
  ∃ es clock, w.heap[b]? = some (.map es clock) ∧ Stamped es clock ∧ (es.toList.map fun e => (e.key, e.val)).Perm T
theorem MapAt.perm {w : World} {b : Nat} {T T' : List (Value × Value)} (h : MapAt w b T) (hp : T.Perm T') : MapAt w b T' := by
  obtain ⟨es, clock, h1, h2, h3⟩ := h
  exact ⟨es, clock, h1, h2, h3.trans hp⟩
theorem MapAt.made (w : World) : MapAt (w.alloc (.map #[] 0)) w.heap.size [] :=
  ⟨#[], 0, (MapKept.heap_alloc w _).1, stamped_empty 0, .nil⟩
theorem heap_set_same {w : World} {b : Nat} {o o' : Obj} (h : w.heap[b]? = some o) : (setBlock w b o').heap[b]? = some o' := by
  have := (Array.getElem?_eq_some_iff.1 h).1
  simp [setBlock, this]
theorem heap_set_other {w : World} {b i : Nat} {o' : Obj} (h : i ≠ b) : (setBlock w b o').heap[i]? = w.heap[i]? := by
  simp [setBlock, Array.getElem?_setIfInBounds_ne (Ne.symm h)]
theorem MapAt.ins {P : Program} {k t e : TypeId} (K : Maps.Keyed P k) (ht : P.underlying t = some (.map k e)) {w : World} {b : Nat} {T : List (Value × Value)} (h : MapAt w b T) (hT : ∀ p ∈ T, ∃ l, keyOf P k p.1 = some l) {key val : Value}
    (hkey : ∃ l, keyOf P k key = some l) (hne : ∀ p ∈ T, p.1 ≠ key) : ∃ w', (Instr.mapUpdate t (.map (some b)) key val).run P w = .ok () w' ∧ MapAt w' b ((key, val) :: T) ∧ w.grownBy w' (some b) := by
  obtain ⟨es, clock, hb, hst, hp⟩ := h
  obtain ⟨kl, hkey⟩ := hkey
  have mem : ∀ x ∈ es.toList, (x.key, x.val) ∈ T := fun x hx => hp.mem_iff.1 (List.mem_map.2 ⟨x, hx, rfl⟩)
  have hn : ∀ x ∈ es.toList, x.key ≠ key := fun x hx => hne _ (mem x hx)
  rcases K.find w hkey es.toList (fun x hx => hT _ (mem x hx)) with ⟨h1, _⟩ | ⟨j, e0, _, h2, h3⟩
  · refine ⟨setBlock w b (.map (es.push ⟨key, val, clock⟩) (clock + 1)), ?_, ⟨_, _, heap_set_same hb, stamped_push hst hn, ?_⟩, ⟨rfl, rfl, rfl, by simp [setBlock], fun i _ hi => heap_set_other fun e => hi (by rw [e])⟩⟩
    · simp [Instr.mapUpdate, run_underlying ht, MapKept.run_getObj_map hb, K.check w false hkey, h1, MapKept.run_setObj_map _ hb, Result.andThen, setBlock]
    · rw [Array.toList_push, List.map_append, List.map_singleton]
      exact (List.perm_append_singleton _ _).trans (hp.cons _)
  · exact absurd h3 (hn e0 (List.mem_of_getElem? h2))
theorem MapAt.look {P : Program} {k t e : TypeId} (K : Maps.Keyed P k) (ht : P.underlying t = some (.map k e)) {w : World} {b : Nat} {T : List (Value × Value)} (h : MapAt w b T) (hT : ∀ p ∈ T, ∃ l, keyOf P k p.1 = some l) {key z : Value}
    (hkey : ∃ l, keyOf P k key = some l) (hz : (zeroValue e).run P w = .ok z w) : (∃ x, (key, x) ∈ T ∧ (Instr.lookup t (.map (some b)) key true).run P w = .ok (.tuple #[x, .bool true]) w) ∨
      ((∀ p ∈ T, p.1 ≠ key) ∧ (Instr.lookup t (.map (some b)) key true).run P w = .ok (.tuple #[z, .bool false]) w) := by
  obtain ⟨es, clock, hb, hst, hp⟩ := h
  obtain ⟨kl, hkey⟩ := hkey
  have mem : ∀ x ∈ es.toList, (x.key, x.val) ∈ T := fun x hx => hp.mem_iff.1 (List.mem_map.2 ⟨x, hx, rfl⟩)
  rcases K.find w hkey es.toList (fun x hx => hT _ (mem x hx)) with ⟨h1, h2⟩ | ⟨j, e0, h1, h2, h3⟩
  · refine .inr ⟨fun p hpT => ?_, by simp [Instr.lookup, run_underlying ht, MapKept.run_getObj_map hb, K.check w _ hkey, h1, hz, Result.andThen]⟩
    obtain ⟨x, hx, rfl⟩ := List.mem_map.1 (hp.mem_iff.2 hpT)
    exact h2 x hx
  · refine .inl ⟨e0.val, ?_, by simp [Instr.lookup, run_underlying ht, MapKept.run_getObj_map hb, K.check w _ hkey, h1, Result.andThen]⟩
    have := mem e0 (List.mem_of_getElem? h2)
    rwa [h3] at this
theorem MapAt.kept {w w' : World} {n b : Nat} {T : List (Value × Value)} (h : MapAt w b T) (hb : Below n w w') (hn : b < n) : MapAt w' b T := by
  obtain ⟨es, clock, h1, h2, h3⟩ := h
  exact ⟨es, clock, (hb.block b hn).trans h1, h2, h3⟩
theorem Below.ofGrown {w w' : World} {n : Nat} {r : Option Nat} (h : w.grownBy w' r) (hn : n ≤ w.heap.size) (hr : ∀ b, r = some b → n ≤ b) : Below n w w' :=
  ⟨h.os, h.tape, h.output, h.size, fun i hi => h.block i (Nat.lt_of_lt_of_le hi hn) fun e => by have := hr i e.symm; omega⟩
theorem Below.alloc (w : World) (o : Obj) {n : Nat} (hn : n ≤ w.heap.size) : Below n w (w.alloc o) :=
  ⟨rfl, rfl, rfl, by simp, fun k hk => (MapKept.heap_alloc w o).2 k (Nat.lt_of_lt_of_le hk hn)⟩
theorem setAll_get : ∀ (l : List Nat) (L : Array Bool) (i : Nat), (setAll l L)[i]? = if i ∈ l then L[i]?.map (fun _ => true) else L[i]?
  | [], L, i => by simp [setAll]
  | j :: l, L, i => by
    show (setAll l (L.setIfInBounds j true))[i]? = _
    rw [setAll_get l, Array.getElem?_setIfInBounds]
    by_cases hj : j = i
    · subst hj
      simp only [List.mem_cons, true_or, if_true]
      by_cases hs : j < L.size
      · simp [hs]
      · simp [hs]
    · have hj' : ¬ i = j := fun e => hj e.symm
      simp [hj, hj', List.mem_cons]
theorem setAll_congr {l l' : List Nat} (h : ∀ i, i ∈ l ↔ i ∈ l') (L : Array Bool) : setAll l L = setAll l' L := by
  apply Array.ext_getElem?
  intro i
  rw [setAll_get, setAll_get]
  by_cases hi : i ∈ l
  · rw [if_pos hi, if_pos ((h i).1 hi)]
  · rw [if_neg hi, if_neg fun q => hi ((h i).2 q)]
theorem setAll_cons (i : Nat) (l : List Nat) (L : Array Bool) : (setAll l L).setIfInBounds i true = setAll (i :: l) L := by
  apply Array.ext_getElem?
  intro j
  rw [Array.getElem?_setIfInBounds, setAll_get, setAll_get]
  by_cases hij : i = j
  · subst hij
    simp only [List.mem_cons, true_or, if_true]
    have hsz : ∀ (l : List Nat) (L : Array Bool), (setAll l L).size = L.size := by
      intro l
      induction l with
      | nil => intro L; rfl
      | cons a l ih => intro L; show (setAll l (L.setIfInBounds a true)).size = _; rw [ih]; simp
    rw [hsz]
    by_cases hs : i < L.size <;> simp [hs]
  · have hj' : ¬ j = i := fun e => hij e.symm
    simp [hij, hj', List.mem_cons]
def insOf (a : Go.Act) (b : Nat) (o : Oper) : Option (TypeId × Nat × Value × Value) := match o.op with
  | .insert t m x v => match a.eval m with
    | .map (some b') => some (t, b', a.eval x, a.eval v)
    | _ => none
  | _ => none
def insReady (ops : Array Oper) (L : Array Bool) (S : List Nat) : Bool :=
  ((List.range ops.size).all fun i => L.getD i true || S.contains i || match ops[i]? with
    | some o => S.all fun s => o.after.any fun e => Region.binds .any e && e.on == s
    | none => true) &&
  S.all fun i => !L.getD i true && match ops[i]? with
    | some o => o.guard.isNone && o.dst.isNone && o.after.all fun e => !Region.binds .any e || L.getD e.on false
    | none => false
theorem sub_perm : ∀ {l l' : List Nat}, l.Nodup → (∀ x ∈ l, x ∈ l') → ∃ r, l'.Perm (l ++ r)
  | [], l', _, _ => ⟨l', .refl _⟩
  | x :: l, l', hn, h => by
    obtain ⟨hx, hn⟩ := List.nodup_cons.1 hn
    have h1 := List.perm_cons_erase (h x (by simp))
    obtain ⟨r, h2⟩ := sub_perm (l' := l'.erase x) hn fun y hy => (List.mem_erase_of_ne (by rintro rfl; exact hx hy)).2 (h y (by simp [hy]))
    exact ⟨r, h1.trans (h2.cons x)⟩
theorem sub_len {l l' : List Nat} (hn : l.Nodup) (h : ∀ x ∈ l, x ∈ l') : l.length ≤ l'.length := by
  obtain ⟨r, hp⟩ := sub_perm hn h
  have := hp.length_eq
  simp at this
  omega
theorem sub_eq {l l' : List Nat} (hn : l.Nodup) (h : ∀ x ∈ l, x ∈ l') (hl : l.length = l'.length) : l.Perm l' := by
  obtain ⟨r, hp⟩ := sub_perm hn h
  have := hp.length_eq
  simp at this
  have : r = [] := List.length_eq_zero_iff.1 (by omega)
  subst this
  simpa using hp.symm
theorem wpAny_ins {P : Program} {ops : Array Oper} {Q : Exit → Go.Act → World → Prop} {S : List Nat} {L : Array Bool} {ent : Nat → Value × Value} {a : Go.Act} {w0 : World} {b n0 f : Nat} {k t e : TypeId}
    (K : Maps.Keyed P k) (ht : P.underlying t = some (.map k e)) (hnd : S.Nodup) (hr : insReady ops L S = true)
    (hop : S.map (fun i => (ops[i]?).bind (insOf a b)) = S.map fun i => some (t, b, (ent i).1, (ent i).2))
    (hkey : ∀ i ∈ S, ∃ l, keyOf P k (ent i).1 = some l) (hne : ∀ i ∈ S, ∀ j ∈ S, i ≠ j → (ent i).1 ≠ (ent j).1) (hb : n0 ≤ b)
    (hfin : ∀ w, MapAt w b (S.map ent) → Below n0 w0 w → wpAny P .any ops Q f (setAll S L) a w) :
    ∀ (m : Nat) (done : List Nat) (w : World), (∀ i ∈ done, i ∈ S) → done.Nodup → done.length + m = S.length → MapAt w b (done.map ent) → Below n0 w0 w → n0 ≤ w.heap.size → wpAny P .any ops Q (f + m) (setAll done L) a w := by
  simp only [insReady, Bool.and_eq_true, List.all_eq_true, List.mem_range] at hr
  obtain ⟨hr1, hr2⟩ := hr
  intro m
  induction m with
  | zero =>
    intro done w hsub hdn hlen hm hbel _
    have hp : done.Perm S := sub_eq hdn hsub (by omega)
    rw [Nat.add_zero, setAll_congr (l' := S) (fun i => hp.mem_iff) L]
    exact hfin w (hm.perm (hp.map ent)) hbel
  | succ m ih =>
    intro done w hsub hdn hlen hm hbel hsz
    have step : ∀ i ∈ Region.ready .any ops (setAll done L), i ∈ S ∧ i ∉ done := by
      intro i hi
      rw [mem_ready] at hi
      obtain ⟨h0, o, ho, hall⟩ := hi
      have hlt := (Array.getElem?_eq_some_iff.1 ho).1
      have hu : L.getD i true = false ∧ i ∉ done := by
        simp only [Array.getD_eq_getD_getElem?, setAll_get] at h0 ⊢
        by_cases hd : i ∈ done
        · rw [if_pos hd] at h0
          cases hL : L[i]? <;> simp [hL] at h0
        · rw [if_neg hd] at h0
          exact ⟨h0, hd⟩
      refine ⟨?_, hu.2⟩
      have h1 := hr1 i hlt
      rw [hu.1] at h1
      simp only [Bool.false_or, Bool.or_eq_true, List.contains_iff_mem, ho] at h1
      rcases h1 with h1 | h1
      · exact h1
      · exfalso
        simp only [List.all_eq_true] at h1
        have hS : ∀ s ∈ S, s ∈ done := by
          intro s hs
          obtain ⟨e, he, heq⟩ := Array.any_eq_true'.1 (h1 s hs)
          simp only [Bool.and_eq_true, beq_iff_eq] at heq
          have h2 := hall e he heq.1
          rw [heq.2] at h2
          simp only [Array.getD_eq_getD_getElem?, setAll_get] at h2
          by_cases hd : s ∈ done
          · exact hd
          · rw [if_neg hd] at h2
            have h3 := hr2 s hs
            simp only [Bool.and_eq_true, Bool.not_eq_true', Array.getD_eq_getD_getElem?] at h3
            cases hL : L[s]? with
            | none => rw [hL] at h2; simp at h2
            | some x => rw [hL] at h2 h3; simp at h2 h3; rw [h2] at h3; simp at h3
        have : S.length ≤ done.length := sub_len hnd hS
        omega
    have some_ready : ∃ i, i ∈ Region.ready .any ops (setAll done L) := by
      have : ∃ i ∈ S, i ∉ done := by
        apply Classical.byContradiction
        intro hno
        have hS : ∀ s ∈ S, s ∈ done := fun s hs => Classical.byContradiction fun h => hno ⟨s, hs, h⟩
        have := sub_len hnd hS
        omega
      obtain ⟨i, hi, hd⟩ := this
      have h3 := hr2 i hi
      simp only [Bool.and_eq_true, Bool.not_eq_true'] at h3
      obtain ⟨h3, h4⟩ := h3
      split at h4
      · rename_i o ho
        simp only [Bool.and_eq_true] at h4
        refine ⟨i, mem_ready.2 ⟨?_, o, ho, fun e he hbd => ?_⟩⟩
        · simp only [Array.getD_eq_getD_getElem?, setAll_get, if_neg hd] at h3 ⊢
          exact h3
        · have h5 := Array.all_eq_true_iff_forall_mem.1 h4.2 e he
          simp only [hbd, Bool.not_true, Bool.false_or, Array.getD_eq_getD_getElem?] at h5
          simp only [Array.getD_eq_getD_getElem?, setAll_get]
          cases hL : L[e.on]? with
          | none => rw [hL] at h5; simp at h5
          | some x => rw [hL] at h5; simp at h5; subst h5; split <;> rfl
      · cases h4
    refine ⟨fun h => ?_, fun i hi => ?_⟩
    · obtain ⟨i, hi⟩ := some_ready
      rw [h] at hi
      cases hi
    · obtain ⟨hiS, hid⟩ := step i hi
      have h3 := hr2 i hiS
      simp only [Bool.and_eq_true, Bool.not_eq_true'] at h3
      obtain ⟨_, h4⟩ := h3
      split at h4
      case h_2 => cases h4
      rename_i o ho
      simp only [Bool.and_eq_true, Option.isNone_iff_eq_none] at h4
      obtain ⟨⟨hg, hd⟩, _⟩ := h4
      have hio : insOf a b o = some (t, b, (ent i).1, (ent i).2) := by
        have := List.map_inj_left.1 hop i hiS
        rwa [ho] at this
      unfold wpOp
      rw [ho]
      simp only [Region.wanted, hg, if_true]
      left
      obtain ⟨w', h5, h6, h7⟩ := MapAt.ins K ht hm (fun p hp => by obtain ⟨j, hj, rfl⟩ := List.mem_map.1 hp; exact hkey j (hsub j hj)) (val := (ent i).2) (hkey i hiS) (fun p hp => by
        obtain ⟨j, hj, rfl⟩ := List.mem_map.1 hp
        exact hne j (hsub j hj) i hiS (fun e => hid (e ▸ hj)))
      unfold insOf at hio
      split at hio
      case h_2 => cases hio
      rename_i t' m' x' v' hop'
      split at hio
      case h_2 => cases hio
      rename_i b' hm'
      simp only [Option.some.injEq, Prod.mk.injEq] at hio
      obtain ⟨rfl, rfl, hx, hv⟩ := hio
      have hrun : (execOp a.eval o).run P w = .ok .skip w' := by
        simp [execOp, hop', hm', hx, hv, h5, Result.andThen]
      unfold Oper.wp
      rw [hrun, Oper.upon_skip, hd, setAll_cons]
      exact ih (i :: done) w' (fun j hj => (List.mem_cons.1 hj).elim (fun e => e ▸ hiS) (hsub j)) (List.nodup_cons.2 ⟨hid, hdn⟩) (by simp; omega) h6 (hbel.trans (Below.ofGrown h7 hsz (fun c hc => by cases hc; exact hb))) (Nat.le_trans hsz h7.size)
def evPre {ρ : Type} (P : Program) (cal : Cal ρ) (qcal : QCal ρ) : Nat → Code → St → (Exit → St → Option ρ) → Option ρ
  | 0, _, st, K => K .normal st
  | n + 1, .seq x y, st, K => evCode P cal qcal (fun _ => none) x st fun e st' => match e with
    | .normal => evPre P cal qcal n y st' K
    | e => K e st'
  | _ + 1, _, _, _ => none
def rest : Nat → Code → Code
  | 0, c => c
  | n + 1, .seq _ y => rest n y
  | _ + 1, c => c
theorem evPre_sound {ρ : Type} {P : Program} (hP : Callable P) {cal : Cal ρ} (hcal : ∀ f, CalAt P f (cal f)) {qcal : QCal ρ} (hq : ∀ f, QCalAt P f (qcal f)) {B : Base} {w0 : World} {Q : Exit → Go.Act → World → Prop} : ∀ (n : Nat) (c : Code) {st : St} {K : Exit → St → Option ρ} {r : ρ} {M : List Place} {a : Go.Act} {w : World},
    evPre P cal qcal n c st K = some r → Rel M st B w0 a w → (∀ e M' st' a' w', K e st' = some r → Rel M' st' B w0 a' w' → Exit.then (fun a w => (rest n c).wp P Q a w) Q e a' w') → c.wp P Q a w
  | 0, c, st, K, r, M, a, w, h, hr, hn => hn .normal M st a w h hr
  | n + 1, .seq x y, st, K, r, M, a, w, h, hr, hn => by
    refine wp_seq (evCode_sound hP hcal hq x (fun _ _ _ h => by cases h) st _ h M a w _ hr fun e M' st' a' w' (_ : ExtO true M M') hk hr' => ?_)
    cases e with
    | normal => exact evPre_sound hP hcal hq n y hk hr' hn
    | exit id => exact hn (.exit id) M' st' a' w' hk hr'
    | goto l => exact hn (.goto l) M' st' a' w' hk hr'
    | ret => exact hn .ret M' st' a' w' hk hr'
    | panic ch => exact hn (.panic ch) M' st' a' w' hk hr'
    | outgrown => exact hn .outgrown M' st' a' w' hk hr'
  | n + 1, .skip, st, K, r, M, a, w, h, hr, hn => by cases h
  | n + 1, .region _ _ _, st, K, r, M, a, w, h, hr, hn => by cases h
  | n + 1, .cond _ _ _, st, K, r, M, a, w, h, hr, hn => by cases h
  | n + 1, .block _ _, st, K, r, M, a, w, h, hr, hn => by cases h
  | n + 1, .loop _, st, K, r, M, a, w, h, hr, hn => by cases h
  | n + 1, .exit _, st, K, r, M, a, w, h, hr, hn => by cases h
  | n + 1, .ret, st, K, r, M, a, w, h, hr, hn => by cases h
  | n + 1, .label _, st, K, r, M, a, w, h, hr, hn => by cases h
  | n + 1, .goto _, st, K, r, M, a, w, h, hr, hn => by cases h
def intV : AV → Option Int
  | .int .i64 _ x => some x
  | _ => none
def intsV : List AV → Option (List Int)
  | [] => some []
  | x :: r => match intV x, intsV r with
    | some n, some l => some (n :: l)
    | _, _ => none
def intArr (l : List Int) : Array Value := (l.map fun x => Value.int .i64 x).toArray
theorem intsV_has {M : List Place} : ∀ {xs : List AV} {vs : List Value} {l : List Int}, intsV xs = some l → RelL M xs vs → ∀ x ∈ l, IntKind.i64.has x
  | [], vs, l, h, hr => by
    simp only [intsV, Option.some.injEq] at h
    subst h
    simp
  | x :: xs, vs, l, h, hr => by
    simp only [intsV] at h
    split at h
    · rename_i n l' h1 h2
      cases h
      obtain ⟨v, r, rfl, hx, hr'⟩ := RelL_cons.1 hr
      intro y hy
      rcases List.mem_cons.1 hy with rfl | hy
      · unfold intV at h1
        split at h1
        · cases h1
          exact (relV_int hx).2.1
        · cases h1
      · exact intsV_has h2 hr' y hy
    · cases h
theorem intsV_rel {M : List Place} : ∀ {xs : List AV} {vs : List Value} {l : List Int}, intsV xs = some l → RelL M xs vs → vs = l.map (Value.int .i64)
  | [], vs, l, h, hr => by
    simp only [intsV, Option.some.injEq] at h
    subst h
    rw [RelL_nil] at hr
    exact hr
  | x :: xs, vs, l, h, hr => by
    simp only [intsV] at h
    split at h
    · rename_i n l' h1 h2
      cases h
      obtain ⟨v, r, rfl, hx, hr'⟩ := RelL_cons.1 hr
      rw [intsV_rel h2 hr']
      unfold intV at h1
      split at h1
      · cases h1
        rw [(relV_int hx).1]
        rfl
      · cases h1
    · cases h
def slotV : Bool → AV → Option Int
  | false, x => intV x
  | true, .itr b => some (b : Int)
  | true, _ => none
def slotVal : Bool → Int → Value
  | false, x => .int .i64 x
  | true, x => .pointer (some ⟨x.toNat, 0, none⟩)
def slotsV (ts : List AV) : List (Nat × Bool) → Option (List Int)
  | [] => some []
  | s :: r => match slotV s.2 (ts.getD s.1 .undef), slotsV ts r with
    | some n, some l => some (n :: l)
    | _, _ => none
def endK (P : Program) (fn : Func) (slots : List (Nat × Bool)) : Exit → St → Option (List Int ⊕ List Int) := fun e st => match e with
  | .ret => match aresL P st fn.results.toList with
    | some l => match intsV l with
      | some l => some (.inl l)
      | none => none
    | none => none
  | .normal => match slotsV st.tmps slots with
    | some l => some (.inr l)
    | none => none
  | _ => none
theorem relH_fresh (w : World) : RelH M0 H0 (Base.fresh w.heap.size) w := by
  have h : RelH [] [] (Base.fresh w.heap.size) w := ⟨rfl, fun k hk => ⟨hk, trivial⟩, fun i o h => (by simp at h), fun i j oi oj pi pj h => (by simp at h), fun i o pl k h => (by simp at h), fun i o pl h => (by simp at h), fun k ob h => absurd h FzAt.nil, fun i o pl h => (by simp at h), fun k hk h => absurd h (Nat.not_lt_of_le hk)⟩
  exact h.addNone _ (fun k ob h => by cases h)
theorem rel_fresh {ts : List AV} {a : Go.Act} (hT : RelT M0 ts a.tmps) (hd : a.defers = []) (w : World) : Rel M0 ⟨ts, H0⟩ (Base.fresh w.heap.size) w a w := ⟨hT, hd, relH_fresh w, Beneath.refl _ _⟩
def EndAt (P : Program) (fn : Func) (slots : List (Nat × Bool)) (n : Nat) (w : World) (r : List Int ⊕ List Int) (e : Exit) (a' : Go.Act) (w' : World) : Prop :=
  Below w.heap.size w w' ∧ a'.defers = [] ∧ a'.tmps.size = n ∧
  match e with
  | .ret => ∃ l, r = .inl l ∧ (∀ x ∈ l, IntKind.i64.has x) ∧ (results fn a'.tmps).run P w' = .ok (retV (intArr l)) w'
  | .normal => ∃ l, r = .inr l ∧ l.length = slots.length ∧ ∀ (j : Nat) (x : Int) (t : Nat × Bool), l[j]? = some x → slots[j]? = some t → a'.tmps.getD t.1 undef = slotVal t.2 x ∧ (t.2 = false → IntKind.i64.has x)
  | _ => False
theorem slotsV_get {M : List Place} {a : Array Value} {ts : List AV} (hT : RelT M ts a) : ∀ {slots : List (Nat × Bool)} {l : List Int}, slotsV ts slots = some l → l.length = slots.length ∧ ∀ (j : Nat) (x : Int) (t : Nat × Bool), l[j]? = some x → slots[j]? = some t → a.getD t.1 undef = slotVal t.2 x ∧ (t.2 = false → IntKind.i64.has x)
  | [], l, h => by
    simp only [slotsV, Option.some.injEq] at h
    subst h
    exact ⟨rfl, fun j x t h => by simp at h⟩
  | s :: slots, l, h => by
    simp only [slotsV] at h
    split at h
    · rename_i n l' h1 h2
      cases h
      obtain ⟨g1, g2⟩ := slotsV_get hT h2
      refine ⟨by simp [g1], fun j x t hx ht => ?_⟩
      cases j with
      | zero =>
        simp at hx ht
        subst hx
        subst ht
        have hv := hT.2 s.1
        obtain ⟨t, b⟩ := s
        cases b with
        | false =>
          simp only [slotV, intV] at h1
          split at h1
          · rename_i k x hq
            cases h1
            rw [hq] at hv
            exact ⟨(relV_int hv).1, fun _ => (relV_int hv).2.1⟩
          · cases h1
        | true =>
          cases hq : ts.getD t .undef <;> simp only [hq, slotV, reduceCtorEq, Option.some.injEq] at h1
          subst h1
          rw [hq] at hv
          simp only [RelV, RelX] at hv
          exact ⟨by simpa [slotVal] using hv, fun h => by cases h⟩
      | succ j => exact g2 j x t (by simpa using hx) (by simpa using ht)
    · cases h
theorem endK_at {P : Program} {fn : Func} {slots : List (Nat × Bool)} {n : Nat} {w : World} {r : List Int ⊕ List Int} {e : Exit} {st : St} (h : endK P fn slots e st = some r) {M : List Place} {a' : Go.Act} {w' : World} (hr : Rel M st (Base.fresh w.heap.size) w a' w') (hn : a'.tmps.size = n) : EndAt P fn slots n w r e a' w' := by
  refine ⟨hr.below.below', hr.defers, hn, ?_⟩
  unfold endK at h
  split at h
  · split at h
    · rename_i l hl
      split at h
      · rename_i l' hl'
        cases h
        obtain ⟨vs, h1, h2⟩ := results_run (fn := fn) hr.tmps hr.heap hl
        refine ⟨l', rfl, intsV_has hl' h1, ?_⟩
        have : vs = intArr l' := by
          apply Array.toList_inj.1
          rw [intsV_rel hl' h1]
          simp [intArr]
        rw [h2, this]
      · cases h
    · cases h
  · split at h
    · rename_i l hl
      cases h
      exact ⟨l, rfl, slotsV_get hr.tmps hl⟩
    · cases h
  · cases h
abbrev cal0 (P : Program) : Cal (List Int ⊕ List Int) := evFn P (emptyEnv _) 12
abbrev qcal0 : QCal (List Int ⊕ List Int) := qof (emptyEnv _)
theorem piece {P : Program} (hP : Callable P) {fn : Func} {slots : List (Nat × Bool)} {n : Nat} {c : Code} {ts : List AV} {r : List Int ⊕ List Int} (h : evPre P (cal0 P) qcal0 n c ⟨ts, H0⟩ (fun e st => if st.tmps.length = ts.length then endK P fn slots e st else none) = some r) {a : Go.Act} {w : World} (hT : RelT M0 ts a.tmps) (hd : a.defers = [])
    {Q : Exit → Go.Act → World → Prop} (hn : ∀ e a' w', EndAt P fn slots ts.length w r e a' w' → Exit.then (fun a w => (rest n c).wp P Q a w) Q e a' w') : c.wp P Q a w := by
  have e0 := emptyEnv_ok P (List Int ⊕ List Int)
  refine evPre_sound hP (evFn_ok hP e0 12) (qof_ok e0) n c h (rel_fresh hT hd w) fun e M' st' a' w' hk hr => hn e a' w' ?_
  split at hk
  · rename_i hlen
    exact endK_at hk hr (by rw [← hlen]; exact hr.tmps.1.symm)
  · cases hk
theorem piece1 {P : Program} (hP : Callable P) {fn : Func} {slots : List (Nat × Bool)} {c : Code} {ts : List AV} {r : List Int ⊕ List Int} (h : evCode P (cal0 P) qcal0 (fun _ => none) c ⟨ts, H0⟩ (fun e st => if st.tmps.length = ts.length then endK P fn slots e st else none) = some r) {a : Go.Act} {w : World} (hT : RelT M0 ts a.tmps) (hd : a.defers = [])
    {Q : Exit → Go.Act → World → Prop} (hn : ∀ e a' w', EndAt P fn slots ts.length w r e a' w' → Q e a' w') : c.wp P Q a w := by
  have e0 := emptyEnv_ok P (List Int ⊕ List Int)
  refine evCode_sound hP (evFn_ok hP e0 12) (qof_ok e0) c (fun _ _ _ h => by cases h) _ _ h M0 a w Q (rel_fresh hT hd w) fun e M' st' a' w' (_ : ExtO true M0 M') hk hr => hn e a' w' ?_
  split at hk
  · rename_i hlen
    exact endK_at hk hr (by rw [← hlen]; exact hr.tmps.1.symm)
  · cases hk
theorem evList_app {ρ : Type} {P : Program} (hP : Callable P) {cal : Cal ρ} (hcal : ∀ f, CalAt P f (cal f)) {ops : Array Oper} {Q : Exit → Go.Act → World → Prop} {K : St → Option ρ} {r : ρ} {B : Base} {w0 : World} {l2 : List Oper} : ∀ {l : List Oper} {st : St} {M : List Place} {a : Go.Act} {w : World},
    evList P cal ops l st K = some r → Rel M st B w0 a w → (∀ M' st' a' w', K st' = some r → Rel M' st' B w0 a' w' → wpList P ops Q l2 a' w') → wpList P ops Q (l ++ l2) a w
  | [], st, M, a, w, h, hr, hn => hn M st a w h hr
  | o :: l, st, M, a, w, h, hr, hn => by
    show wpList P ops Q (o :: (l ++ l2)) a w
    unfold wpList
    rcases guarded_sound h hr.tmps with ⟨hw, st', h', ht, hh⟩ | ⟨hw, st', h', ht, hh⟩
    · rw [if_pos hw]
      have hr' : Rel M st' B w0 a w := ⟨ht, hr.defers, by rw [hh]; exact hr.heap, hr.below⟩
      exact .inl (evExec_sound hP hcal h' hr' fun M' st2 a' w' hE hk hr2 => evList_app hP hcal hk hr2 hn)
    · rw [if_neg (by rw [hw]; simp)]
      have hr' : Rel M st' B w0 a w := ⟨ht, hr.defers, by rw [hh]; exact hr.heap, hr.below⟩
      exact evList_app hP hcal h' (hr'.put (relV_skip M) o.dst) hn
theorem pieceL {P : Program} (hP : Callable P) {ops : Array Oper} {l l2 : List Oper} {ts : List AV} {picks : List Nat} {xs : List AV} (h : evList P (evFn P (emptyEnv (List AV)) 12) ops l ⟨ts, H0⟩ (fun st => if st.tmps.length = ts.length then some (picks.map fun t => st.tmps.getD t .undef) else none) = some xs) {a : Go.Act} {w : World} (hT : RelT M0 ts a.tmps) (hd : a.defers = [])
    {Q : Exit → Go.Act → World → Prop} (hn : ∀ M' a' w', (∀ (j : Nat) (t : Nat) (x : AV), picks[j]? = some t → xs[j]? = some x → RelV M' x (a'.tmps.getD t undef)) → a'.tmps.size = ts.length → a'.defers = [] → Below w.heap.size w w' → wpList P ops Q l2 a' w') : wpList P ops Q (l ++ l2) a w := by
  refine evList_app hP (evFn_ok hP (emptyEnv_ok P (List AV)) 12) h (rel_fresh hT hd w) fun M' st' a' w' hk hr => ?_
  split at hk
  · rename_i hlen
    cases hk
    refine hn M' a' w' (fun j t x ht hx => ?_) (by rw [← hlen]; exact hr.tmps.1.symm) hr.defers hr.below.below'
    rw [List.getElem?_map, ht] at hx
    cases hx
    exact hr.tmps.2 t
  · cases hk
theorem wpl {P : Program} {ops : Array Oper} {Q : Exit → Go.Act → World → Prop} {r : List Oper} {o : Oper} {a : Go.Act} {w w' : World} {v : Value} (hg : o.guard = none) (hrun : (execOp a.eval o).run P w = .ok (.value v) w') (h : wpList P ops Q r (a.put o.dst v) w') : wpList P ops Q (o :: r) a w := by
  unfold wpList
  rw [if_pos (by simp [Region.wanted, hg])]
  refine .inl ?_
  unfold Oper.wp
  rw [hrun, Oper.upon_value]
  exact h
theorem wpl_skip {P : Program} {ops : Array Oper} {Q : Exit → Go.Act → World → Prop} {r : List Oper} {o : Oper} {a : Go.Act} {w w' : World} (hg : o.guard = none) (hd : o.dst = none) (hrun : (execOp a.eval o).run P w = .ok .skip w') (h : wpList P ops Q r a w') : wpList P ops Q (o :: r) a w := by
  unfold wpList
  rw [if_pos (by simp [Region.wanted, hg])]
  refine .inl ?_
  unfold Oper.wp
  rw [hrun, Oper.upon_skip, hd]
  exact h
theorem wpl_enter {P : Program} {ops : Array Oper} {Q : Exit → Go.Act → World → Prop} {r : List Oper} {o : Oper} {a : Go.Act} {w : World} {f : FuncId} {args : Array Value} (hg : o.guard = none) (hrun : (execOp a.eval o).run P w = .ok (.enter f args) w)
    (h : Calls P f args w fun e w' => ∃ v, e = .returned v ∧ wpList P ops Q r (a.put o.dst v) w') : wpList P ops Q (o :: r) a w := by
  unfold wpList
  rw [if_pos (by simp [Region.wanted, hg])]
  refine .inl ?_
  unfold Oper.wp
  rw [hrun, Oper.upon_enter]
  refine h.mono ?_
  rintro e w' ⟨v, rfl, h⟩
  exact h
def pickT (n : Nat) (l : List (Nat × AV)) : List AV := l.foldl (fun ts p => ts.set p.1 p.2) (List.replicate n .undef)
theorem pickT_len (n : Nat) (l : List (Nat × AV)) : (pickT n l).length = n := by
  unfold pickT
  suffices ∀ (l : List (Nat × AV)) (ts : List AV), (l.foldl (fun ts p => ts.set p.1 p.2) ts).length = ts.length by rw [this]; simp
  intro l
  induction l with
  | nil => intro ts; rfl
  | cons p l ih => intro ts; rw [List.foldl_cons, ih]; simp
theorem Below.weak {n m : Nat} {w w' : World} (h : Below n w w') (hm : m ≤ n) : Below m w w' := ⟨h.os, h.tape, h.output, h.size, fun k hk => h.block k (Nat.lt_of_lt_of_le hk hm)⟩
theorem relT_pick {n : Nat} {a : Array Value} (hn : a.size = n) {l : List (Nat × AV)} (h : ∀ p ∈ l, RelV M0 p.2 (a.getD p.1 undef)) : RelT M0 (pickT n l) a := by
  have h0 : RelT M0 (List.replicate n .undef) a := ⟨by simp [hn], fun t => by
    have : (List.replicate n AV.undef).getD t .undef = .undef := by
      rw [List.getD_eq_getElem?_getD, List.getElem?_replicate]
      split <;> rfl
    rw [this]
    exact relV_undef _ _⟩
  unfold pickT
  suffices ∀ (l : List (Nat × AV)) (ts : List AV), (∀ p ∈ l, RelV M0 p.2 (a.getD p.1 undef)) → RelT M0 ts a → RelT M0 (l.foldl (fun ts p => ts.set p.1 p.2) ts) a from this l _ h h0
  intro l
  induction l with
  | nil => intro ts _ h; exact h
  | cons p l ih =>
    intro ts hl hT
    refine ih _ (fun q hq => hl q (List.mem_cons_of_mem _ hq)) ?_
    have h1 := hT.put (hl p (by simp)) p.1
    have h2 := congrArg Go.Act.tmps (put_self (a := ⟨a, []⟩) (d := p.1))
    simp only [Go.Act.put] at h2
    rw [h2] at h1
    exact h1
theorem put_get {a : Go.Act} {d : Nat} {v : Value} (h : d < a.tmps.size) : (a.put (some d) v).tmps.getD d undef = v := by simp [Go.Act.put, h]
theorem put_get_ne {a : Go.Act} {d t : Nat} {v : Value} (h : t ≠ d) : (a.put (some d) v).tmps.getD t undef = a.tmps.getD t undef := by simp [Go.Act.put, Array.getElem?_setIfInBounds_ne (Ne.symm h)]
theorem put_size {a : Go.Act} {d : Option Nat} {v : Value} : (a.put d v).tmps.size = a.tmps.size := by cases d <;> simp [Go.Act.put]
theorem put_defers {a : Go.Act} {d : Option Nat} {v : Value} : (a.put d v).defers = a.defers := by cases d <;> rfl
theorem relV_int_mk {x : Int} (h : IntKind.i64.has x) : RelV M0 (.int .i64 none x) (.int .i64 x) := RelX_int.2 ⟨rfl, h, fun m hm => by cases hm⟩
theorem pieceLC {P : Program} (hP : Callable P) {fn : Func} {slots : List (Nat × Bool)} {ops : Array Oper} {l : List Oper} {c : Code} {ts : List AV} {r : List Int ⊕ List Int}
    (h : evList P (cal0 P) ops l ⟨ts, H0⟩ (fun st => evCode P (cal0 P) qcal0 (fun _ => none) c st (fun e st => if st.tmps.length = ts.length then endK P fn slots e st else none)) = some r) {a : Go.Act} {w : World} (hT : RelT M0 ts a.tmps) (hd : a.defers = [])
    {Q : Exit → Go.Act → World → Prop} (hn : ∀ e a' w', EndAt P fn slots ts.length w r e a' w' → Q e a' w') : wpList P ops (Exit.then (c.wp P Q) Q) l a w := by
  have e0 := emptyEnv_ok P (List Int ⊕ List Int)
  refine evList_sound hP (evFn_ok hP e0 12) h (rel_fresh hT hd w) fun M1 st1 a1 w1 _ hk hr => ?_
  refine evCode_sound hP (evFn_ok hP e0 12) (qof_ok e0) c (fun _ _ _ h => by cases h) _ _ hk M1 a1 w1 Q hr fun e M' st' a' w' (_ : ExtO true M1 M') hk hr' => hn e a' w' ?_
  split at hk
  · rename_i hlen
    exact endK_at hk hr' (by rw [← hlen]; exact hr'.tmps.1.symm)
  · cases hk
theorem relOut_ints {B : Base} {w : World} {x y : Int} (hx : IntKind.i64.has x) (hy : IntKind.i64.has y) : RelOut B w [.ty (.int .i64), .ty (.int .i64)] (x, y, ()) [.int .i64 x, .int .i64 y] := by
  refine ⟨[], [], News.nil B w, rfl, fun k ob h => FzAt.nil h, fun k ob h => absurd h FzAt.nil, fun i pi oi h => (by simp at h), fun M => ?_, fun M pin c h => (by simp [upsO] at h)⟩
  exact RelL_cons.2 ⟨_, _, rfl, RelX_int.2 ⟨rfl, hx, fun m hm => by cases hm⟩, RelL_cons.2 ⟨_, _, rfl, RelX_int.2 ⟨rfl, hy, fun m hm => by cases hm⟩, RelL_nil.2 rfl⟩⟩
theorem fnSpec2 {P : Program} {f : FuncId} {n : Nat} {ins : List Item} {F : D (tysI ins []) → Option (Int × Int × Unit)}
    (h : ∀ d x y M (vs : Array Value) w, RelL M (bldS n ins d).tmps vs.toList → F d = some (x, y, ()) → Calls P f vs w fun e w' => e = .returned (retV (intArr [x, y])) ∧ (∀ z ∈ [x, y], IntKind.i64.has z) ∧ Below w.heap.size w w') : FnSpec P f n ins [.ty (.int .i64), .ty (.int .i64)] F := by
  rintro d ⟨x, y, ⟨⟩⟩ hd M B w vs hl hH
  refine (h d x y M vs w hl hd).mono ?_
  rintro e w' ⟨rfl, hz, hb⟩
  exact ⟨intArr [x, y], rfl, Beneath.of hb, relOut_ints (hz x (by simp)) (hz y (by simp))⟩
theorem wpList_inss {P : Program} {ops : Array Oper} {Q : Exit → Go.Act → World → Prop} {r : List Oper} {a : Go.Act} {b n0 : Nat} {k t e : TypeId} (K : Maps.Keyed P k) (ht : P.underlying t = some (.map k e)) (hb : n0 ≤ b) {w0 : World} : ∀ {l : List Oper} {T ents : List (Value × Value)} {w : World},
    (l.all fun o => o.guard.isNone && o.dst.isNone) = true → l.map (insOf a b) = ents.map (fun p => some (t, b, p.1, p.2)) → (∀ p ∈ ents, ∃ l, keyOf P k p.1 = some l) → (∀ p ∈ T, ∃ l, keyOf P k p.1 = some l) → (ents ++ T).Pairwise (fun p q => p.1 ≠ q.1) → MapAt w b T → Below n0 w0 w → n0 ≤ w.heap.size →
    (∀ w', MapAt w' b (ents.reverse ++ T) → Below n0 w0 w' → n0 ≤ w'.heap.size → wpList P ops Q r a w') → wpList P ops Q (l ++ r) a w
  | [], T, ents, w, _, hm, _, _, _, hw, hbl, hs, hn => by
    cases ents with
    | nil => exact hn w hw hbl hs
    | cons _ _ => simp at hm
  | o :: l, T, ents, w, hg, hm, hk, hkT, hp, hw, hbl, hs, hn => by
    cases ents with
    | nil => simp at hm
    | cons p ents =>
      simp only [List.map_cons, List.cons.injEq] at hm
      obtain ⟨ho, hm⟩ := hm
      simp only [List.all_cons, Bool.and_eq_true, Option.isNone_iff_eq_none] at hg
      obtain ⟨⟨hg1, hg2⟩, hg⟩ := hg
      rw [List.cons_append, List.pairwise_cons] at hp
      obtain ⟨w', h1, h2, h3⟩ := MapAt.ins K ht hw hkT (val := p.2) (hk p (by simp)) (fun q hq e => hp.1 q (by simp [hq]) e.symm)
      unfold insOf at ho
      split at ho
      case h_2 => cases ho
      rename_i t' m' x' v' hop
      split at ho
      case h_2 => cases ho
      rename_i b' hm'
      simp only [Option.some.injEq, Prod.mk.injEq] at ho
      obtain ⟨rfl, rfl, hx, hv⟩ := ho
      have hrun : (execOp a.eval o).run P w = .ok .skip w' := by
        simp [execOp, hop, hm', hx, hv, h1, Result.andThen]
      refine wpl_skip hg1 hg2 hrun (wpList_inss K ht hb (T := p :: T) (ents := ents) (by simpa using hg) hm (fun q hq => hk q (by simp [hq])) (fun q hq => (List.mem_cons.1 hq).elim (fun e => e ▸ hk p (by simp)) (hkT q)) ?_ h2 (hbl.trans (Below.ofGrown h3 hs (fun c hc => by cases hc; exact hb))) (Nat.le_trans hs h3.size) ?_)
      · have hp1 : (p :: (ents ++ T)).Pairwise (fun a b : Value × Value => a.1 ≠ b.1) := List.pairwise_cons.2 hp
        exact hp1.perm (List.perm_middle.symm) (fun h e => h e.symm)
      · intro w2 g1 g2 g3
        refine hn w2 ?_ g2 g3
        simpa using g1
end Go.AE

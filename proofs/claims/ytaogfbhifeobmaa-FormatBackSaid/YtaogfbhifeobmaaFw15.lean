/- The framework AE, part 15: data; states that are told by data; functions. -/
import Derived.Test.YtaogfbhifeobmaaFw14
set_option linter.unusedVariables false
set_option linter.unusedSimpArgs false
namespace Go.AE
open Go Go.RowKit

/-- Kinds of cells of data: numbers, truths, so many integers; strings; slices of memory that stays as it is, of integers, or of elements. -/
inductive CTy where
  | int (k : IntKind)
  | bool
  | is (k : IntKind) (n : Nat)
  | str
  | fsl (k : IntKind) (sz : Nat)
  | dsl (e : EK)
  deriving DecidableEq

@[reducible] def CTy.den : CTy → Type
  | .int _ => Int
  | .bool => Bool
  | .is _ _ => List Int
  | .str => List Int
  | .fsl _ _ => List Int
  | .dsl e => List e.den

@[reducible] def DC : List CTy → Type
  | [] => Unit
  | t :: ts => t.den × DC ts

/-- Kinds of data. 'row', 'drow': what a block of its own holds. -/
inductive Ty where
  | int (k : IntKind)
  | bool
  | is (k : IntKind) (n : Nat)
  | row (k : IntKind)
  | agg (cs : List CTy)
  | str
  | fsl (k : IntKind) (sz : Nat)
  | dsl (e : EK)
  | drow (e : EK)
  | mapc (i : Nat)
  deriving DecidableEq

@[reducible] def Ty.den : Ty → Type
  | .int _ => Int
  | .bool => Bool
  | .is _ _ => List Int
  | .row _ => List Int
  | .agg cs => DC cs
  | .str => List Int
  | .fsl _ _ => List Int
  | .dsl e => List e.den
  | .drow e => List e.den
  | .mapc _ => Unit

@[reducible] def D : List Ty → Type
  | [] => Unit
  | t :: ts => t.den × D ts

def mk1 : (t : CTy) → t.den → AV
  | .int k, x => .int k none x
  | .bool, x => .bool none x
  | .is k n, l => .is k n l
  | .str, l => .str l
  | .fsl k sz, l => .fsl k sz l
  | .dsl e, l => .dsl ⟨e, l⟩

def mkCs : (cs : List CTy) → DC cs → List AV
  | [], _ => []
  | t :: r, d => mk1 t d.1 :: mkCs r d.2

/-- A value of a kind of data. -/
def mkT : (t : Ty) → t.den → AV
  | .int k, x => .int k none x
  | .bool, x => .bool none x
  | .is k n, l => .agg [.is k n l]
  | .row _, _ => .undef
  | .agg cs, d => .agg (mkCs cs d)
  | .str, l => .str l
  | .fsl k sz, l => .fsl k sz l
  | .dsl e, l => .dsl ⟨e, l⟩
  | .drow _, _ => .undef
  | .mapc i, _ => .mapc i
/-- The same, as a cell. -/
def mkC : (t : Ty) → t.den → AV
  | .int k, x => .int k none x
  | .bool, x => .bool none x
  | .is k n, l => .is k n l
  | .row _, _ => .undef
  | .agg _, _ => .undef
  | .str, l => .str l
  | .fsl k sz, l => .fsl k sz l
  | .dsl e, l => .dsl ⟨e, l⟩
  | .drow _, _ => .undef
  | .mapc _, _ => .undef

/-- Does such data lead to memory that stays as it is? -/
def deepC : List CTy → Bool
  | [] => false
  | .fsl _ _ :: _ => true
  | .dsl _ :: _ => true
  | _ :: r => deepC r
def Ty.deep : Ty → Bool
  | .fsl _ _ | .dsl _ | .drow _ | .mapc _ => true
  | .agg cs => deepC cs
  | _ => false

def getStr : AV → Option (List Int)
  | .str l => some l
  | _ => none
def getFsl (k : IntKind) (sz : Nat) : AV → Option (List Int)
  | .fsl k' sz' l => if k' = k ∧ sz' = sz then some l else none
  | .nils => some []
  | _ => none
def getDsl (e : EK) : AV → Option (List e.den)
  | .dsl d => if h : d.e = e then some (h ▸ d.l) else none
  | .nils => some []
  | _ => none

theorem getStr_rel {M M' : List Place} {a : AV} {l : List Int} {vs : List Value} (h : getStr a = some l) (r : RelX M a vs) : RelX M' (.str l) vs := by
  cases a <;> simp only [getStr, reduceCtorEq, Option.some.injEq] at h
  subst h
  simpa only [RelX] using r
theorem getFsl_rel {M M' : List Place} (hz : FzSub M M') {k : IntKind} {sz : Nat} {a : AV} {l : List Int} {vs : List Value} (h : getFsl k sz a = some l) (r : RelX M a vs) : RelX M' (.fsl k sz l) vs := by
  cases a <;> simp only [getFsl, reduceCtorEq, Option.some.injEq] at h
  · subst h
    simp only [RelX] at r ⊢
    subst r
    exact ⟨_, rfl, none, 0, 0, rfl, Nat.le_refl _, by simp, by rw [has_iff]; simp [loB, hiB], by simp, .inl rfl⟩
  · split at h
    · rename_i hk
      obtain ⟨rfl, rfl⟩ := hk
      cases h
      simp only [RelX] at r ⊢
      obtain ⟨v, e, r⟩ := r
      exact ⟨v, e, r.mono hz⟩
    · cases h
theorem getDsl_rel {M M' : List Place} (hz : FzSub M M') {e : EK} {a : AV} {l : List e.den} {vs : List Value} (h : getDsl e a = some l) (r : RelX M a vs) : RelX M' (.dsl ⟨e, l⟩) vs := by
  cases a <;> simp only [getDsl, reduceCtorEq, Option.some.injEq] at h
  · subst h
    simp only [RelX] at r ⊢
    subst r
    exact ⟨_, rfl, none, 0, 0, rfl, Nat.le_refl _, rfl, by rw [has_iff]; simp [loB, hiB], .inl rfl⟩
  · rename_i d
    split at h
    · rename_i he
      subst he
      cases h
      simp only [RelX] at r ⊢
      obtain ⟨v, e, r⟩ := r
      exact ⟨v, e, r.mono hz fun x a => EK.rel_mono hz d.e x a⟩
    · cases h

/-- The first integer of some cells. -/
def popInt (k : IntKind) : List AV → Option (Int × List AV)
  | .int k' _ x :: r => if k' = k then some (x, r) else none
  | .is k' (n + 1) l :: r => if k' = k then some (l.getD 0 0, match n with | 0 => r | n + 1 => .is k (n + 1) (l.drop 1) :: r) else none
  | _ => none

def takeN (k : IntKind) : Nat → List AV → Option (List Int × List AV)
  | 0, xs => some ([], xs)
  | n + 1, xs => match popInt k xs with
    | some (x, r) => match takeN k n r with
      | some (l, r') => some (x :: l, r')
      | none => none
    | none => none

def takeIs (k : IntKind) (n : Nat) (xs : List AV) : Option (List Int × List AV) :=
  match xs with
  | .is k' n' l :: r => if k' = k ∧ n' = n then some (l, r) else takeN k n xs
  | _ => takeN k n xs

theorem popInt_rel {M : List Place} {k : IntKind} {xs : List AV} {a : List Value} (h : RelC M xs a) {x : Int} {r : List AV} (hp : popInt k xs = some (x, r)) : ∃ a', a = .int k x :: a' ∧ k.has x ∧ RelC M r a' := by
  unfold popInt at hp
  split at hp
  · rename_i k' l y r'
    split at hp
    · rename_i hk
      subst hk
      simp only [Option.some.injEq, Prod.mk.injEq] at hp
      obtain ⟨rfl, rfl⟩ := hp
      obtain ⟨b, t, rfl, hx, hr⟩ := RelC_cons.1 h
      obtain ⟨e, h1, _⟩ := RelX_int.1 hx
      exact ⟨t, by rw [e]; rfl, h1, hr⟩
    · cases hp
  · rename_i k' n l r'
    split at hp
    · rename_i hk
      subst hk
      simp only [Option.some.injEq, Prod.mk.injEq] at hp
      obtain ⟨rfl, rfl⟩ := hp
      obtain ⟨b, t, rfl, hx, hr⟩ := RelC_cons.1 h
      obtain ⟨h1, h2, h3⟩ := RelX_is.1 hx
      cases l with
      | nil => simp at h1
      | cons z l =>
        simp at h1
        refine ⟨l.map (.int k') ++ t, by rw [h2]; rfl, h3 z (by simp), ?_⟩
        cases n with
        | zero =>
          have : l = [] := List.length_eq_zero_iff.1 h1
          subst this
          exact hr
        | succ n => exact RelC_cons.2 ⟨l.map (.int k'), t, rfl, RelX_is.2 ⟨h1, rfl, fun x hx => h3 x (by simp at hx; simp [hx])⟩, hr⟩
    · cases hp
  · cases hp

theorem takeN_rel {M : List Place} {k : IntKind} : ∀ {n : Nat} {xs : List AV} {a : List Value} {l : List Int} {r : List AV}, RelC M xs a → takeN k n xs = some (l, r) → ∃ a', a = l.map (.int k) ++ a' ∧ l.length = n ∧ (∀ x ∈ l, k.has x) ∧ RelC M r a'
  | 0, xs, a, l, r, h, hp => by
    simp only [takeN, Option.some.injEq, Prod.mk.injEq] at hp
    obtain ⟨rfl, rfl⟩ := hp
    exact ⟨a, rfl, rfl, by simp, h⟩
  | n + 1, xs, a, l, r, h, hp => by
    simp only [takeN] at hp
    split at hp
    · rename_i x r1 h1
      split at hp
      · rename_i l2 r2 h2
        simp only [Option.some.injEq, Prod.mk.injEq] at hp
        obtain ⟨rfl, rfl⟩ := hp
        obtain ⟨a1, rfl, hx, hr⟩ := popInt_rel h h1
        obtain ⟨a2, rfl, hl, ha, hr2⟩ := takeN_rel hr h2
        refine ⟨a2, rfl, by simp [hl], fun z hz => ?_, hr2⟩
        rcases List.mem_cons.1 hz with rfl | hz
        · exact hx
        · exact ha z hz
      · cases hp
    · cases hp

theorem takeIs_rel {M : List Place} {k : IntKind} {n : Nat} {xs : List AV} {a : List Value} {l : List Int} {r : List AV} (h : RelC M xs a) (hp : takeIs k n xs = some (l, r)) : ∃ a', a = l.map (.int k) ++ a' ∧ l.length = n ∧ (∀ x ∈ l, k.has x) ∧ RelC M r a' := by
  unfold takeIs at hp
  split at hp
  · rename_i k' n' l' r'
    split at hp
    · rename_i hk
      obtain ⟨rfl, rfl⟩ := hk
      simp only [Option.some.injEq, Prod.mk.injEq] at hp
      obtain ⟨rfl, rfl⟩ := hp
      obtain ⟨b, t, rfl, hx, hr⟩ := RelC_cons.1 h
      obtain ⟨h1, h2, h3⟩ := RelX_is.1 hx
      exact ⟨t, by rw [h2], h1, h3, hr⟩
    · exact takeN_rel h hp
  · exact takeN_rel h hp

/-- Data of a kind at the head of some cells. -/
def pop1 : (t : CTy) → List AV → Option (t.den × List AV)
  | .int k, xs => popInt k xs
  | .bool, .bool _ x :: r => some (x, r)
  | .is k n, xs => takeIs k n xs
  | .str, x :: r => match getStr x with
    | some l => some (l, r)
    | none => none
  | .fsl k sz, x :: r => match getFsl k sz x with
    | some l => some (l, r)
    | none => none
  | .dsl e, x :: r => match getDsl e x with
    | some l => some (l, r)
    | none => none
  | _, _ => none

theorem pop1_rel {M M' : List Place} {t : CTy} (hz : deepC [t] = true → FzSub M M') {xs : List AV} {vs : List Value} {x : t.den} {ys : List AV} (h : pop1 t xs = some (x, ys)) (hr : RelC M xs vs) : ∃ a r, vs = a ++ r ∧ RelX M' (mk1 t x) a ∧ RelC M ys r := by
  cases t with
  | int k =>
    obtain ⟨a', rfl, h1, h2⟩ := popInt_rel hr h
    exact ⟨[.int k x], a', rfl, RelX_int.2 ⟨rfl, h1, fun m hm => by cases hm⟩, h2⟩
  | bool =>
    cases xs with
    | nil => simp [pop1] at h
    | cons c r =>
      cases c <;> simp only [pop1, reduceCtorEq, Option.some.injEq, Prod.mk.injEq] at h
      obtain ⟨rfl, rfl⟩ := h
      obtain ⟨a, t, rfl, hx, hr'⟩ := RelC_cons.1 hr
      simp only [RelX] at hx
      exact ⟨a, t, rfl, by simp [mk1, RelX, hx.1], hr'⟩
  | is k n =>
    obtain ⟨a', rfl, h1, h2, h3⟩ := takeIs_rel hr h
    exact ⟨List.map (Value.int k) x, a', rfl, RelX_is.2 ⟨h1, rfl, h2⟩, h3⟩
  | str =>
    cases xs with
    | nil => simp [pop1] at h
    | cons c r =>
      simp only [pop1] at h
      split at h
      · rename_i l hl
        cases h
        obtain ⟨a, t, rfl, hx, hr'⟩ := RelC_cons.1 hr
        exact ⟨a, t, rfl, getStr_rel hl hx, hr'⟩
      · cases h
  | fsl k sz =>
    cases xs with
    | nil => simp [pop1] at h
    | cons c r =>
      simp only [pop1] at h
      split at h
      · rename_i l hl
        cases h
        obtain ⟨a, t, rfl, hx, hr'⟩ := RelC_cons.1 hr
        exact ⟨a, t, rfl, getFsl_rel (hz rfl) hl hx, hr'⟩
      · cases h
  | dsl e =>
    cases xs with
    | nil => simp [pop1] at h
    | cons c r =>
      simp only [pop1] at h
      split at h
      · rename_i l hl
        cases h
        obtain ⟨a, t, rfl, hx, hr'⟩ := RelC_cons.1 hr
        exact ⟨a, t, rfl, getDsl_rel (hz rfl) hl hx, hr'⟩
      · cases h

def getCs : (cs : List CTy) → List AV → Option (DC cs)
  | [], [] => some ()
  | [], _ :: _ => none
  | t :: r, xs => match pop1 t xs with
    | some (x, ys) => match getCs r ys with
      | some d => some (x, d)
      | none => none
    | none => none

theorem deepC_head {t : CTy} {r : List CTy} (h : deepC [t] = true) : deepC (t :: r) = true := by
  cases t <;> first | rfl | cases h
theorem deepC_tail {t : CTy} {r : List CTy} (h : deepC r = true) : deepC (t :: r) = true := by
  cases t <;> first | rfl | exact h

theorem getCs_rel {M M' : List Place} : ∀ {cs : List CTy} {xs : List AV} {a : List Value} {d : DC cs}, (deepC cs = true → FzSub M M') → getCs cs xs = some d → RelC M xs a → RelC M' (mkCs cs d) a
  | [], [], a, d, _, h, hr => by
    rw [RelC_nil] at hr
    exact RelC_nil.2 hr
  | [], _ :: _, a, d, _, h, hr => by cases h
  | t :: r, xs, a, d, hz, h, hr => by
    simp only [getCs] at h
    split at h
    · rename_i x ys h1
      split at h
      · rename_i d' h2
        cases h
        obtain ⟨a', r', rfl, hx, hr'⟩ := pop1_rel (fun h => hz (deepC_head h)) h1 hr
        exact RelC_cons.2 ⟨a', r', rfl, hx, getCs_rel (fun h => hz (deepC_tail h)) h2 hr'⟩
      · cases h
    · cases h

def getT : (t : Ty) → AV → Option t.den
  | .int k, .int k' _ x => if k' = k then some x else none
  | .bool, .bool _ x => some x
  | .is k n, .agg xs => match takeIs k n xs with
    | some (l, []) => some l
    | _ => none
  | .agg cs, .agg xs => getCs cs xs
  | .str, x => getStr x
  | .fsl k sz, x => getFsl k sz x
  | .dsl e, x => getDsl e x
  | _, _ => none
def getC : (t : Ty) → AV → Option t.den
  | .int k, .int k' _ x => if k' = k then some x else none
  | .bool, .bool _ x => some x
  | .is k n, .is k' n' l => if k' = k ∧ n' = n then some l else none
  | .str, x => getStr x
  | .fsl k sz, x => getFsl k sz x
  | .dsl e, x => getDsl e x
  | _, _ => none

theorem getT_rel {M M' : List Place} {t : Ty} (hz : t.deep = true → FzSub M M') {a : AV} {x : t.den} {v : Value} (h : getT t a = some x) (hr : RelV M a v) : RelV M' (mkT t x) v := by
  cases t with
  | int k =>
    cases a <;> simp only [getT, reduceCtorEq] at h
    split at h
    · rename_i hk
      subst hk
      cases h
      obtain ⟨e, h1, _⟩ := relV_int hr
      subst e
      exact RelX_int.2 ⟨rfl, h1, fun m hm => by cases hm⟩
    · cases h
  | bool =>
    cases a <;> simp only [getT, reduceCtorEq] at h
    cases h
    obtain ⟨e, _⟩ := relV_bool hr
    subst e
    simp [mkT, RelV, RelX]
  | is k n =>
    cases a <;> simp only [getT, reduceCtorEq] at h
    split at h
    · rename_i l h1
      cases h
      obtain ⟨vs, e, hc⟩ := RelX_agg.1 hr
      obtain ⟨a', ha, hl, hx, hr'⟩ := takeIs_rel hc h1
      rw [RelC_nil] at hr'
      subst hr'
      exact RelX_agg.2 ⟨vs, e, RelC_single.2 (RelX_is.2 ⟨hl, by simpa using ha, hx⟩)⟩
    · cases h
  | agg cs =>
    cases a <;> simp only [getT, reduceCtorEq] at h
    obtain ⟨vs, e, hc⟩ := RelX_agg.1 hr
    exact RelX_agg.2 ⟨vs, e, getCs_rel hz h hc⟩
  | row k => simp [getT] at h
  | drow e => simp [getT] at h
  | mapc i => simp [getT] at h
  | str => exact getStr_rel h hr
  | fsl k sz => exact getFsl_rel (hz rfl) h hr
  | dsl e => exact getDsl_rel (hz rfl) h hr

theorem getC_rel {M M' : List Place} {t : Ty} (hz : t.deep = true → FzSub M M') {a : AV} {x : t.den} {vs : List Value} (h : getC t a = some x) (hr : RelX M a vs) : RelX M' (mkC t x) vs := by
  cases t with
  | int k =>
    cases a <;> simp only [getC, reduceCtorEq] at h
    split at h
    · rename_i hk
      subst hk
      cases h
      obtain ⟨e, h1, _⟩ := RelX_int.1 hr
      exact RelX_int.2 ⟨e, h1, fun m hm => by cases hm⟩
    · cases h
  | bool =>
    cases a <;> simp only [getC, reduceCtorEq] at h
    cases h
    simp only [RelX] at hr
    simp [mkC, RelX, hr.1]
  | is k n =>
    cases a <;> simp only [getC, reduceCtorEq] at h
    split at h
    · rename_i hk
      obtain ⟨rfl, rfl⟩ := hk
      cases h
      exact RelX_is.2 (RelX_is.1 hr)
    · cases h
  | agg cs => simp [getC] at h
  | row k => simp [getC] at h
  | drow e => simp [getC] at h
  | mapc i => simp [getC] at h
  | str => exact getStr_rel h hr
  | fsl k sz => exact getFsl_rel (hz rfl) h hr
  | dsl e => exact getDsl_rel (hz rfl) h hr

/-- Plain constants, that lead nowhere: are they the same? -/
def sameA : AV → AV → Bool
  | .undef, .is _ _ _ => false
  | .undef, _ => true
  | .int k (some m) x, .int k' (some m') _ => decide (k = k') && (m == m') && (x == m)
  | .bool (some m) x, .bool (some m') _ => (m == m') && (x == m)
  | .nilp, .nilp => true
  | .nils, .nils => true
  | .nilf, .nilf => true
  | .niface, .niface => true
  | _, _ => false

theorem sameA_rel {M M' : List Place} {a b : AV} {v : Value} (h : sameA a b = true) (hr : RelV M b v) : RelV M' a v := by
  cases a <;> try (exact relV_undef _ _)
  case int k l x =>
    cases l <;> cases b <;> try (cases h; done)
    rename_i m k' l' y
    cases l' <;> try (cases h; done)
    simp only [sameA, Bool.and_eq_true, decide_eq_true_eq, beq_iff_eq] at h
    obtain ⟨⟨rfl, rfl⟩, rfl⟩ := h
    obtain ⟨e, h1, h2⟩ := RelX_int.1 hr
    have := h2 _ rfl
    subst this
    exact RelX_int.2 ⟨e, h1, fun m hm => by cases hm; rfl⟩
  case bool l x =>
    cases l <;> cases b <;> try (cases h; done)
    rename_i m l' y
    cases l' <;> try (cases h; done)
    simp only [sameA, Bool.and_eq_true, beq_iff_eq] at h
    obtain ⟨rfl, rfl⟩ := h
    simp only [RelV, RelX] at hr ⊢
    have := hr.2 _ rfl
    subst this
    exact ⟨hr.1, fun m hm => by cases hm; rfl⟩
  all_goals
    cases b <;> try (cases h; done)
    try exact hr

/-- From where an abstract block of a told state comes: the block of that number; the slice in a slot; the block behind a pointer in a slot; the slice in a cell of such. -/
inductive Src where
  | same (b : Nat)
  | slot (t : Nat)
  | cell (p : Src) (j : Nat)
  | cap (p : Src) (j : Nat)
  | part (p : Src) (j : Nat)

/-- A cell of a told block: data; a constant; the whole of a told row. -/
inductive CI where
  | hole (t : Ty)
  | const (a : AV)
  | sl (b sz : Nat) (c : CapK)
  | ptr (b w : Nat)
  | fnp (f : FuncId) (ps : List (Nat × Nat))

/-- A told state: its blocks, and its slots. -/
inductive Item where
  | row (k : IntKind) (sz : Nat) (src : Src) (own : Bool) (pin : Option Nat := none)
  | drow (e : EK) (src : Src) (own : Bool) (pin : Option Nat := none)
  | segs (cs : List CI) (src : Src) (own : Bool) (pin : Option Nat := none)
  | drop
  | slot (t : Nat) (ty : Ty)
  | const (t : Nat) (a : AV)
  | sl (t b sz : Nat) (c : CapK)
  | ptr (t b w : Nat)
  | fn (t : Nat) (f : FuncId) (cs : List CI)
  | cells (t : Nat) (cs : List CI)

@[reducible] def tysC : List CI → List Ty → List Ty
  | [], acc => acc
  | .hole t :: r, acc => t :: tysC r acc
  | .const _ :: r, acc => tysC r acc
  | .sl _ _ _ :: r, acc => tysC r acc
  | .ptr _ _ :: r, acc => tysC r acc
  | .fnp _ _ :: r, acc => tysC r acc
@[reducible] def tysI : List Item → List Ty → List Ty
  | [], acc => acc
  | .row k _ _ _ _ :: r, acc => .row k :: tysI r acc
  | .drow e _ _ _ :: r, acc => .drow e :: tysI r acc
  | .segs cs _ _ _ :: r, acc => tysC cs (tysI r acc)
  | .slot _ t :: r, acc => t :: tysI r acc
  | .drop :: r, acc => tysI r acc
  | .const _ _ :: r, acc => tysI r acc
  | .sl _ _ _ _ :: r, acc => tysI r acc
  | .ptr _ _ _ :: r, acc => tysI r acc
  | .fn _ _ cs :: r, acc => tysC cs (tysI r acc)
  | .cells _ cs :: r, acc => tysC cs (tysI r acc)

def div1 (n sz : Nat) : Nat := match sz with | 1 => n | s => n / s
theorem div1_eq (n sz : Nat) : div1 n sz = n / sz := by unfold div1; split <;> simp

def rowLen (H : Heap) (b : Nat) : Nat :=
  match H[b]? with
  | some (some ⟨.row _ l, _, _⟩) => l.length
  | some (some ⟨.drow d, _, _⟩) => mul1 d.l.length d.e.w
  | _ => 0

def bldC (H : Heap) : (cs : List CI) → (acc : List Ty) → D (tysC cs acc) → List AV × D acc
  | [], _, d => ([], d)
  | .hole t :: r, acc, d => (mkC t d.1 :: (bldC H r acc d.2).1, (bldC H r acc d.2).2)
  | .const a :: r, acc, d => (a :: (bldC H r acc d).1, (bldC H r acc d).2)
  | .sl b sz c :: r, acc, d => (.sl b 0 (div1 (rowLen H b) sz) sz c :: (bldC H r acc d).1, (bldC H r acc d).2)
  | .ptr b w :: r, acc, d => (.ptr b 0 none w w :: (bldC H r acc d).1, (bldC H r acc d).2)
  | .fnp f ps :: r, acc, d => (.fn f [] (ps.map fun p => .ptr p.1 0 none p.2 p.2) :: (bldC H r acc d).1, (bldC H r acc d).2)

/-- The slot of a row's source holds that row, too. -/
def setSrc (ts : List AV) (src : Src) (b len sz : Nat) (own : Bool) : List AV :=
  match src with
  | .slot t => ts.set t (.sl b 0 (div1 len sz) sz (if own then .own else .whole))
  | _ => ts

def bldI : (its : List Item) → (acc : List Ty) → D (tysI its acc) → St → St × D acc
  | [], _, d, st => (st, d)
  | .row k sz src own pin :: r, acc, d, st => bldI r acc d.2 ⟨setSrc st.tmps src st.heap.length (List.length (α := Int) d.1) sz own, st.heap ++ [some ⟨.row k d.1, own, pin⟩]⟩
  | .drow e src own pin :: r, acc, d, st => bldI r acc d.2 ⟨setSrc st.tmps src st.heap.length (mul1 (List.length (α := e.den) d.1) e.w) e.w own, st.heap ++ [some ⟨.drow ⟨e, d.1⟩, own, pin⟩]⟩
  | .segs cs _ own pin :: r, acc, d, st => bldI r acc (bldC st.heap cs (tysI r acc) d).2 ⟨st.tmps, st.heap ++ [some ⟨.segs (bldC st.heap cs (tysI r acc) d).1, own, pin⟩]⟩
  | .drop :: r, acc, d, st => bldI r acc d ⟨st.tmps, st.heap ++ [none]⟩
  | .slot t ty :: r, acc, d, st => bldI r acc d.2 ⟨st.tmps.set t (mkT ty d.1), st.heap⟩
  | .const t a :: r, acc, d, st => bldI r acc d ⟨st.tmps.set t a, st.heap⟩
  | .sl t b sz c :: r, acc, d, st => bldI r acc d ⟨st.tmps.set t (.sl b 0 (div1 (rowLen st.heap b) sz) sz c), st.heap⟩
  | .ptr t b w :: r, acc, d, st => bldI r acc d ⟨st.tmps.set t (.ptr b 0 none w w), st.heap⟩
  | .fn t f cs :: r, acc, d, st => bldI r acc (bldC st.heap cs (tysI r acc) d).2 ⟨st.tmps.set t (.fn f [] (bldC st.heap cs (tysI r acc) d).1), st.heap⟩
  | .cells t cs :: r, acc, d, st => bldI r acc (bldC st.heap cs (tysI r acc) d).2 ⟨st.tmps.set t (.agg (bldC st.heap cs (tysI r acc) d).1), st.heap⟩

/-- Of a told block: from which block it comes; is it all of it; is it the call's own. -/
structure Act where
  id : Option Nat
  whole : Bool
  own : Bool
  row : Bool

/-- A cell of a block. -/
def cellOf (H : Heap) (b j : Nat) : Option AV :=
  match H[b]? with
  | some (some ⟨.segs cs, _, _⟩) => cellAt1 cs j
  | _ => none
where cellAt1 : List AV → Nat → Option AV
  | [], _ => none
  | x :: _, 0 => some x
  | _ :: r, j + 1 => cellAt1 r j

/-- The value at a source. -/
def valAt (st : St) : Src → Option AV
  | .same _ => none
  | .slot t => some (st.tmps.getD t .undef)
  | .cell p j => match valAt st p with
    | some (.ptr b 0 none _ _) => match st.heap[b]? with
      | some (some ⟨.segs cs, _, _⟩) => cellAt cs j
      | _ => none
    | _ => none
  | .cap p j => match valAt st p with
    | some (.fn _ [] caps) => cellOf.cellAt1 caps j
    | _ => none
  | .part p j => match valAt st p with
    | some (.agg cs) => cellAt cs j
    | _ => none

/-- The block of a source, where that is one. -/
def srcBlk (st : St) : Src → Option Nat
  | .same b => some b
  | p => match valAt st p with
    | some (.ptr b 0 none _ _) => some b
    | _ => none

/-- Is a block met for the first time, where it is to be the call's own? -/
def fresh (acts : List Act) (own : Bool) (b : Nat) : Bool := acts.all fun a => !(a.id == some b) || !(own || a.own)

def actFresh (acts : List Act) (own : Bool) (ac : Act) : Bool := match ac.id with | some b => fresh acts own b | none => true

def isWhole (c : CapK) : Bool := match c with | .own | .whole => true | _ => false

/-- May a block be told with this pin? 'chk': pins are those of the state from which it is told. -/
def pinOk (chk : Bool) (pin op : Option Nat) (whole : Bool) : Bool := match pin with
  | none => true
  | some k => whole && (!chk || decide (op = some k))

/-- Elements of a kind. -/
def castE (e : EK) (d : EKs) : Option (List e.den) := if h : d.e = e then some (h ▸ d.l) else none
theorem castE_spec {e : EK} {d : EKs} {l : List e.den} (h : castE e d = some l) : d = ⟨e, l⟩ := by
  unfold castE at h
  split at h
  · rename_i he
    subst he
    cases h
    rfl
  · cases h

/-- The row of elements that a source is. -/
def drowSrc (st : St) (chk : Bool) (e : EK) (src : Src) (own : Bool) (pin : Option Nat) : Option (Act × List e.den) :=
  match src with
  | .same b => match st.heap[b]? with
    | some (some ⟨.drow d, o, op⟩) => if (own = true → o = true) ∧ pinOk chk pin op true = true then (match castE e d with | some l => some (⟨some b, true, own, true⟩, l) | none => none) else none
    | _ => none
  | src => match valAt st src with
    | some .nils => if pinOk chk pin none true = true then some (⟨none, true, own, true⟩, []) else none
    | some (.sl b _ _ s c) => if s = e.w ∧ (own = true → c = .own) ∧ isWhole c = true then
        match st.heap[b]? with
        | some (some ⟨.drow d, o, op⟩) => if (own = true → o = true) ∧ pinOk chk pin op true = true then (match castE e d with | some l => some (⟨some b, true, own, true⟩, l) | none => none) else none
        | _ => none
      else none
    | _ => none

/-- The row that a value is: what it comes from, and its numbers. -/
def rowVal (st : St) (chk : Bool) (k : IntKind) (sz : Nat) (own : Bool) (pin : Option Nat) : Option AV → Option (Act × List Int)
  | some .nils => if pinOk chk pin none true = true then some (⟨none, true, own, true⟩, []) else none
  | some (.sl b off len s c) => if s = sz ∧ (own = true → c = .own) then
      match st.heap[b]? with
      | some (some ⟨_, o, op⟩) => if (own = true → o = true) ∧ pinOk chk pin op (isWhole c) = true then
          match wholeC st.heap (.sl b off len s c) with
          | some (.row k' l) => if k' = k then some (⟨some b, isWhole c, own, true⟩, l) else none
          | _ => none
        else none
      | _ => none
    else none
  | some (.fsl k' s l) => if s = sz ∧ k' = k ∧ own = false ∧ pin = none then some (⟨none, false, false, true⟩, l) else none
  | _ => none
def rowSrc (st : St) (chk : Bool) (k : IntKind) (sz : Nat) (src : Src) (own : Bool) (pin : Option Nat) : Option (Act × List Int) :=
  match src with
  | .same b => match st.heap[b]? with
    | some (some ⟨.row k' l, o, op⟩) => if k' = k ∧ (own = true → o = true) ∧ pinOk chk pin op true = true then some (⟨some b, true, own, true⟩, l) else none
    | _ => none
  | src => rowVal st chk k sz own pin (valAt st src)

/-- Does this slice show the whole of told row b? -/
def slOk (acts : List Act) (b sz : Nat) (c : CapK) (a : AV) : Bool :=
  match acts[b]?, a with
  | some ⟨some b', true, o, true⟩, .sl b'' _ _ s c' => (b'' == b') && (s == sz) && isWhole c' && (match c with | .own => (match c' with | .own => o | _ => false) | .whole => true | _ => false)
  | some ⟨none, true, o, true⟩, .nils => match c with | .own => o | .whole => true | _ => false
  | _, _ => false

/-- Does this pointer lead to the head of told block b? -/
def ptrOk (acts : List Act) (b w : Nat) (a : AV) : Bool :=
  match acts[b]?, a with
  | some ⟨some b', true, _, _⟩, .ptr b'' 0 none room _ => (b'' == b') && decide (w ≤ room)
  | _, _ => false

/-- Do these pointers lead to the heads of these told blocks? -/
def ptrsOk (acts : List Act) : List (Nat × Nat) → List AV → Bool
  | [], [] => true
  | p :: ps, x :: xs => ptrOk acts p.1 p.2 x && ptrsOk acts ps xs
  | _, _ => false

/-- Data at the head of some cells. -/
def popC : (t : Ty) → List AV → Option (t.den × List AV)
  | .int k, xs => popInt k xs
  | .bool, .bool _ x :: r => some (x, r)
  | .is k n, xs => takeIs k n xs
  | .str, x :: r => match getStr x with
    | some l => some (l, r)
    | none => none
  | .fsl k sz, x :: r => match getFsl k sz x with
    | some l => some (l, r)
    | none => none
  | .dsl e, x :: r => match getDsl e x with
    | some l => some (l, r)
    | none => none
  | _, _ => none

def extC (st : St) (acts : List Act) : (cs : List CI) → (acc : List Ty) → D acc → List AV → Option (D (tysC cs acc))
  | [], _, rest, [] => some rest
  | .hole t :: r, acc, rest, xs => match popC t xs with
    | some (v, ys) => match extC st acts r acc rest ys with
      | some d => some (v, d)
      | none => none
    | none => none
  | .const a :: r, acc, rest, x :: xs => if sameA a x then extC st acts r acc rest xs else none
  | .sl b sz c :: r, acc, rest, x :: xs => if slOk acts b sz c x && decide (1 ≤ sz) then extC st acts r acc rest xs else none
  | .ptr b w :: r, acc, rest, x :: xs => if ptrOk acts b w x = true then extC st acts r acc rest xs else none
  | .fnp f ps :: r, acc, rest, x :: xs => match x with
    | .fn f' [] caps => if f' = f ∧ ptrsOk acts ps caps = true then extC st acts r acc rest xs else none
    | _ => none
  | _, _, _, _ => none

/-- The same of values one by one. -/
def extV (st : St) (acts : List Act) : (cs : List CI) → (acc : List Ty) → D acc → List AV → Option (D (tysC cs acc))
  | [], _, rest, [] => some rest
  | .hole t :: r, acc, rest, x :: xs => match getC t x, extV st acts r acc rest xs with
    | some v, some d => some (v, d)
    | _, _ => none
  | .const a :: r, acc, rest, x :: xs => if sameA a x then extV st acts r acc rest xs else none
  | .sl b sz c :: r, acc, rest, x :: xs => if slOk acts b sz c x && decide (1 ≤ sz) then extV st acts r acc rest xs else none
  | .ptr b w :: r, acc, rest, x :: xs => if ptrOk acts b w x = true then extV st acts r acc rest xs else none
  | .fnp f ps :: r, acc, rest, x :: xs => match x with
    | .fn f' [] caps => if f' = f ∧ ptrsOk acts ps caps = true then extV st acts r acc rest xs else none
    | _ => none
  | _, _, _, _ => none

def extI (st : St) (chk : Bool) : (its : List Item) → (acc : List Ty) → D acc → List Act → Option (D (tysI its acc))
  | [], _, rest, _ => some rest
  | .row k sz src own pin :: r, acc, rest, acts => match rowSrc st chk k sz src own pin with
    | some (act, l) => if 1 ≤ sz ∧ actFresh acts own act = true then
        (match extI st chk r acc rest (acts ++ [act]) with | some d => some (l, d) | none => none)
      else none
    | none => none
  | .drow e src own pin :: r, acc, rest, acts => match drowSrc st chk e src own pin with
    | some (act, l) => if actFresh acts own act = true then
        (match extI st chk r acc rest (acts ++ [act]) with | some d => some (l, d) | none => none)
      else none
    | none => none
  | .segs cs src own pin :: r, acc, rest, acts => match srcBlk st src with
    | some b => match st.heap[b]? with
      | some (some ⟨.segs xs, o, op⟩) => if (own = true → o = true) ∧ fresh acts own b = true ∧ pinOk chk pin op true = true then
          (match extI st chk r acc rest (acts ++ [⟨some b, true, own, false⟩]) with | some d => extC st acts cs (tysI r acc) d xs | none => none)
        else none
      | _ => none
    | none => none
  | .drop :: r, acc, rest, acts => extI st chk r acc rest (acts ++ [⟨none, false, false, false⟩])
  | .slot t ty :: r, acc, rest, acts => match getT ty (st.tmps.getD t .undef), extI st chk r acc rest acts with
    | some v, some d => some (v, d)
    | _, _ => none
  | .const t a :: r, acc, rest, acts => if sameA a (st.tmps.getD t .undef) then extI st chk r acc rest acts else none
  | .sl t b sz c :: r, acc, rest, acts => if slOk acts b sz c (st.tmps.getD t .undef) && decide (1 ≤ sz) then extI st chk r acc rest acts else none
  | .ptr t b w :: r, acc, rest, acts => if ptrOk acts b w (st.tmps.getD t .undef) = true then extI st chk r acc rest acts else none
  | .fn t f cs :: r, acc, rest, acts => match st.tmps.getD t .undef with
    | .fn f' [] caps => if f' = f then (match extI st chk r acc rest acts with | some d => extV st acts cs (tysI r acc) d caps | none => none) else none
    | _ => none
  | .cells t cs :: r, acc, rest, acts => match st.tmps.getD t .undef with
    | .agg xs => match extI st chk r acc rest acts with | some d => extC st acts cs (tysI r acc) d xs | none => none
    | _ => none

/-- From which blocks the told ones come. -/
def actsI (st : St) (chk : Bool) : List Item → List Act
  | [] => []
  | .row k sz src own pin :: r => (match rowSrc st chk k sz src own pin with | some (act, _) => [act] | none => []) ++ actsI st chk r
  | .drow e src own pin :: r => (match drowSrc st chk e src own pin with | some (act, _) => [act] | none => []) ++ actsI st chk r
  | .segs _ src own _ :: r => (match srcBlk st src with | some b => [⟨some b, true, own, false⟩] | none => []) ++ actsI st chk r
  | .drop :: r => ⟨none, false, false, false⟩ :: actsI st chk r
  | _ :: r => actsI st chk r

/-- A place more, of which nothing is said. -/
theorem RelH.addNone {M : List Place} {H : Heap} {B : Base} {w : World} (r : RelH M H B w) (pl : Place) (hz : ∀ k ob, pl.fz k = some ob → FzAt M k ob) : RelH (M ++ [pl]) (H ++ [none]) B w := by
  have hE : Ext M (M ++ [pl]) := Ext.snoc M _
  have hlen := r.len
  have back : ∀ (i : Nat) (oi : AObj), (H ++ [none])[i]? = some (some oi) → i < M.length ∧ H[i]? = some (some oi) := by
    intro i oi hi
    rw [List.getElem?_append] at hi
    split at hi
    · exact ⟨by omega, hi⟩
    · have h3 : i - H.length = 0 := by
        rcases Nat.eq_zero_or_pos (i - H.length) with h | h
        · exact h
        · rw [List.getElem?_eq_none (by simp; omega)] at hi; cases hi
      rw [h3] at hi
      simp at hi
  refine ⟨by simp [hlen], r.base, fun i oi hi => ?_, fun i j oi oj pi pj hi hj hpi hpj hne how hni hnj => ?_, fun i oi pi k hi hpi hk => ?_, fun i oi pi hi hpi hn => ?_, fun k ob hk => r.fz k ob (FzAt.snocS hz hk), fun i oi pi hi hpi how hn => ?_, r.bf⟩
  · obtain ⟨hlt, hi'⟩ := back i oi hi
    obtain ⟨pi, hpi, hoki⟩ := r.obj i oi hi'
    refine ⟨pi, hE _ _ hpi, ?_⟩
    rcases hoki with ⟨n1, n2, n3⟩ | ⟨n1, cs1, el1, fz1, g1, g2, g3, g4, g5⟩
    · exact .inl ⟨n1, n2, n3.mono hE⟩
    · exact .inr ⟨n1, cs1, el1, fz1, g1, g2, g3, g4.mono hE, g5⟩
  · obtain ⟨hlt, hi'⟩ := back i oi hi
    obtain ⟨hlt2, hj'⟩ := back j oj hj
    rw [List.getElem?_append_left hlt] at hpi
    rw [List.getElem?_append_left hlt2] at hpj
    exact r.sep i j oi oj pi pj hi' hj' hpi hpj hne how hni hnj
  · obtain ⟨hlt, hi'⟩ := back i oi hi
    rw [List.getElem?_append_left hlt] at hpi
    exact r.pin i oi pi k hi' hpi hk
  · obtain ⟨hlt, hi'⟩ := back i oi hi
    rw [List.getElem?_append_left hlt] at hpi
    exact r.vis i oi pi hi' hpi hn
  · obtain ⟨hlt, hi'⟩ := back i oi hi
    rw [List.getElem?_append_left hlt] at hpi
    exact ⟨(r.fo i oi pi hi' hpi how hn).1, fun ob h => (r.fo i oi pi hi' hpi how hn).2 ob (FzAt.snocS hz h)⟩

/-- What is known of a told block that comes from none: it lies nowhere, or it stays as it is; and its place. -/
def NoneOk (M : List Place) (ac : Act) (pl : Place) : Prop :=
  (ac.id = none → (ac.whole = true → pl = ⟨true, 0, 0, 0, 0, noFz⟩) ∧ (pl.nil = false → ac.own = false ∧ ∃ ob, FzAt M pl.blk ob)) ∧ ∀ k ob, pl.fz k = some ob → FzAt M k ob

/-- Is this a row, of integers or of elements? -/
def isRowC : Cont → Bool
  | .row _ _ | .drow _ => true
  | .segs _ => false

/-- How a told state stands to the one from which it is told. -/
structure Told (M : List Place) (st : St) (B : Base) (w : World) (a : Array Value) (acts : List Act) (M1 : List Place) (st1 : St) : Prop where
  tmps : RelT M1 st1.tmps a
  heap : RelH M1 st1.heap B w
  len : acts.length = M1.length
  act : ∀ (i : Nat) (ac : Act), acts[i]? = some ac → ∃ p1, M1[i]? = some p1 ∧
    (∀ b, ac.id = some b → ∃ o p, st.heap[b]? = some (some o) ∧ M[b]? = some p ∧ p1.nil = p.nil ∧ p1.blk = p.blk ∧ (ac.own = true → o.own = true) ∧ (ac.whole = true → p1 = p)) ∧
    NoneOk M ac p1 ∧
    (∀ oi, st1.heap[i]? = some (some oi) → oi.own = ac.own) ∧
    (ac.row = true → ∃ c o pn, st1.heap[i]? = some (some ⟨c, o, pn⟩) ∧ isRowC c = true)
  fz : FzSub M M1
  zf : FzSub M1 M

theorem row_len {M1 : List Place} {H1 : Heap} {B : Base} {w : World} (r : RelH M1 H1 B w) {b : Nat} {c : Cont} {o : Bool} {pn : Option Nat} (h : H1[b]? = some (some ⟨c, o, pn⟩)) (hc : isRowC c = true) {p : Place} (hp : M1[b]? = some p) : rowLen H1 b = p.n := by
  obtain ⟨p', hp', hok⟩ := r.obj b _ h
  rw [hp] at hp'
  cases hp'
  unfold rowLen
  rw [h]
  rcases hok with ⟨_, n2, n3⟩ | ⟨_, cs, el, fz, _, h2, h3, h4, _⟩
  · cases c with
    | segs cs => cases hc
    | row k l =>
      have := congrArg List.length n3.1
      simp at this
      simp [this, n2]
    | drow d =>
      have := n3.1
      simp only [List.length_nil] at this
      simp only [mul1_eq]
      omega
  · cases c with
    | segs cs => cases hc
    | row k l =>
      have := congrArg List.length h4.1
      simp at this
      simp only
      omega
    | drow d =>
      have := h4.1
      simp at this
      simp only [mul1_eq]
      omega

theorem div_len {n len sz : Nat} (h : n = len * sz) (hs : 1 ≤ sz) : div1 n sz = len := by
  rw [div1_eq, h, Nat.mul_div_cancel _ (by omega)]

theorem slOk_sound {M : List Place} {st : St} {B : Base} {w : World} {a : Array Value} {acts : List Act} {M1 : List Place} {st1 : St} (t : Told M st B w a acts M1 st1) {b sz : Nat} {c : CapK} {x : AV} {v : Value} (h : slOk acts b sz c x = true) (hs : 1 ≤ sz) (hx : RelV M x v) :
    RelV M1 (.sl b 0 (div1 (rowLen st1.heap b) sz) sz c) v := by
  unfold slOk at h
  split at h
  · rename_i b' o b'' off len s c' ha
    simp only [Bool.and_eq_true, beq_iff_eq] at h
    obtain ⟨⟨⟨rfl, rfl⟩, hw⟩, hc⟩ := h
    obtain ⟨p1, hp1, hid, _, hown1, hrow⟩ := t.act b _ ha
    obtain ⟨o', p, ho', hp, _, _, _, hwh⟩ := hid b'' rfl
    have := hwh rfl
    subst this
    obtain ⟨c2, o2, pn, hr, hrc⟩ := hrow rfl
    have hlen := row_len t.heap hr hrc hp1
    simp only [RelV, RelX] at hx ⊢
    obtain ⟨pl, A, cap, hpl, hv, hb, hcap, hnil, hnn, hfull, hown, hwhole, hhas⟩ := hx
    rw [hp] at hpl
    cases hpl
    have h0 : off = 0 ∧ len * s = p1.n := by
      cases c' <;> simp [isWhole] at hw
      · exact ⟨(hown rfl).1, (hown rfl).2.2.1⟩
      · exact hwhole rfl
    have hdiv : div1 (rowLen st1.heap b) s = len := div_len (by omega) hs
    rw [hdiv]
    obtain ⟨rfl, h0⟩ := h0
    refine ⟨p1, A, cap, hp1, hv, hb, hcap, fun hn => ⟨fun hf => (by subst hf; cases c' <;> simp at hc; exact (hnil hn).1 rfl), (hnil hn).2⟩, fun hn => ⟨(hnn hn).1, fun hq => ?_⟩, fun hf => ?_, fun hf => ?_, fun hf => ⟨trivial, h0⟩, hhas⟩
    · rcases hq with hq | hq
      · exact (hnn hn).2 (.inl hq)
      · subst hq
        cases c' <;> simp at hc
        exact (hnn hn).2 (.inr rfl)
    · subst hf
      simp at hc
    · subst hf
      cases c' <;> simp at hc
      exact ⟨trivial, (hown rfl).2⟩
  · rename_i o ha
    obtain ⟨p1, hp1, _, hnone, _, hrow⟩ := t.act b _ ha
    have hn := (hnone.1 rfl).1 rfl
    subst hn
    obtain ⟨c2, o2, pn, hr, hrc⟩ := hrow rfl
    have hlen := row_len t.heap hr hrc hp1
    have hdiv : div1 (rowLen st1.heap b) sz = 0 := div_len (by simpa using hlen) hs
    have hv : v = .slice none 0 0 := by simpa [RelV, RelX] using hx
    subst hv
    rw [hdiv]
    simp only [RelV, RelX]
    refine ⟨_, none, 0, hp1, rfl, by simp, Nat.le_refl _, fun _ => ⟨fun _ => rfl, rfl⟩, fun h => (by cases h), fun hf => (by subst hf; simp at h), fun _ => ⟨trivial, rfl, by simp, by simp⟩, fun _ => ⟨trivial, by simp⟩, by rw [has_iff]; simp [loB, hiB]⟩
  · cases h

theorem cellOf_rel {M : List Place} {H : Heap} {B : Base} {w : World} (r : RelH M H B w) {b j : Nat} {x : AV} (h : cellOf H b j = some x) : ∃ vs, RelX M x vs := by
  unfold cellOf at h
  split at h
  · rename_i cs o pn ho
    obtain ⟨pl, _, hok⟩ := r.obj b _ ho
    have : ∃ vs, RelC M cs vs := by
      rcases hok with ⟨_, _, n3⟩ | ⟨_, cs', el, fz, _, h2, h3, h4, _⟩
      · exact ⟨_, n3⟩
      · exact ⟨_, h4⟩
    obtain ⟨vs, hvs⟩ := this
    clear hok ho
    induction cs generalizing j vs with
    | nil => simp [cellOf.cellAt1] at h
    | cons c cs ih =>
      obtain ⟨a, t, rfl, hx, hr⟩ := RelC_cons.1 hvs
      cases j with
      | zero => simp [cellOf.cellAt1] at h; subst h; exact ⟨a, hx⟩
      | succ j => exact ih (by simpa [cellOf.cellAt1] using h) t hr
  · cases h

theorem ptrOk_sound {M : List Place} {st : St} {B : Base} {w : World} {a : Array Value} {acts : List Act} {M1 : List Place} {st1 : St} (t : Told M st B w a acts M1 st1) {b wd : Nat} {x : AV} (h : ptrOk acts b wd x = true) {v : Value} (hx : RelV M x v) : RelV M1 (.ptr b 0 none wd wd) v := by
  unfold ptrOk at h
  split at h
  · rename_i b' o rw' b'' room span ha
    simp only [Bool.and_eq_true, beq_iff_eq, decide_eq_true_eq] at h
    obtain ⟨rfl, hw⟩ := h
    obtain ⟨p1, hp1, hid, _, _, _⟩ := t.act b _ ha
    obtain ⟨o', p, _, hpp, _, _, _, hwh⟩ := hid _ rfl
    have := hwh rfl
    subst this
    simp only [RelV, RelX] at hx ⊢
    obtain ⟨pl, hpl, hnil, hv, hd1, hd2⟩ := hx
    rw [hpp] at hpl
    cases hpl
    simp only [Option.getD_none, Nat.add_zero, Nat.zero_add] at *
    exact ⟨p1, hp1, hnil, hv, Nat.le_refl _, by omega⟩
  · cases h

theorem popC_rel {M M' : List Place} {t : Ty} (hz : t.deep = true → FzSub M M') {xs : List AV} {vs : List Value} {x : t.den} {ys : List AV} (h : popC t xs = some (x, ys)) (hr : RelC M xs vs) : ∃ a r, vs = a ++ r ∧ RelX M' (mkC t x) a ∧ RelC M ys r := by
  cases t with
  | int k => exact pop1_rel (t := .int k) (fun h => by cases h) h hr
  | bool =>
    refine pop1_rel (t := .bool) (fun h => by cases h) (ys := ys) (x := x) ?_ hr
    cases xs with
    | nil => simp [popC] at h
    | cons c r => cases c <;> simp only [popC, reduceCtorEq] at h <;> exact h
  | is k n => exact pop1_rel (t := .is k n) (fun h => by cases h) h hr
  | row k => simp [popC] at h
  | agg cs => simp [popC] at h
  | drow e => simp [popC] at h
  | mapc i => simp [popC] at h
  | str => cases xs with
    | nil => simp [popC] at h
    | cons c r => exact pop1_rel (t := .str) (xs := c :: r) (fun h => by cases h) h hr
  | fsl k sz => cases xs with
    | nil => simp [popC] at h
    | cons c r => exact pop1_rel (t := .fsl k sz) (xs := c :: r) (fun _ => hz rfl) h hr
  | dsl e => cases xs with
    | nil => simp [popC] at h
    | cons c r => exact pop1_rel (t := .dsl e) (xs := c :: r) (fun _ => hz rfl) h hr

theorem mkC_mono {M M' : List Place} {t : Ty} (hz : t.deep = true → FzSub M M') {x : t.den} {a : List Value} (h : RelX M (mkC t x) a) : RelX M' (mkC t x) a := by
  cases t with
  | fsl k sz => exact getFsl_rel (a := .fsl k sz x) (hz rfl) (by simp [getFsl]) h
  | dsl e => exact getDsl_rel (a := .dsl ⟨e, x⟩) (hz rfl) (by simp [getDsl]) h
  | _ => simpa only [mkC, RelX] using h

theorem ptrsOk_sound {M : List Place} {st : St} {B : Base} {w : World} {a : Array Value} {acts : List Act} {M1 : List Place} {st1 : St} (t : Told M st B w a acts M1 st1) : ∀ {ps : List (Nat × Nat)} {xs : List AV} {vs : List Value}, ptrsOk acts ps xs = true → RelL M xs vs →
    RelL M1 (ps.map fun p => .ptr p.1 0 none p.2 p.2) vs
  | [], [], vs, _, h => by rw [RelL_nil] at h; exact RelL_nil.2 h
  | [], _ :: _, vs, h, _ => by simp [ptrsOk] at h
  | _ :: _, [], vs, h, _ => by simp [ptrsOk] at h
  | p :: ps, x :: xs, vs, h, hl => by
    simp only [ptrsOk, Bool.and_eq_true] at h
    obtain ⟨v, r, rfl, hx, hr⟩ := RelL_cons.1 hl
    exact RelL_cons.2 ⟨v, r, rfl, ptrOk_sound t h.1 hx, ptrsOk_sound t h.2 hr⟩
theorem fnp_sound {M : List Place} {st : St} {B : Base} {w : World} {a : Array Value} {acts : List Act} {M1 : List Place} {st1 : St} (t : Told M st B w a acts M1 st1) {f : FuncId} {ps : List (Nat × Nat)} {caps : List AV} (h : ptrsOk acts ps caps = true) {v : Value} (hx : RelV M (.fn f [] caps) v) :
    RelV M1 (.fn f [] (ps.map fun p => .ptr p.1 0 none p.2 p.2)) v := by
  simp only [RelV, RelX] at hx ⊢
  obtain ⟨x, y, hv, h1, h2⟩ := hx
  exact ⟨x, y, hv, by rw [RelL_nil] at h1 ⊢; exact h1, ptrsOk_sound t h h2⟩

theorem extC_sound {M : List Place} {st : St} {B : Base} {w : World} {a : Array Value} {acts : List Act} {M1 : List Place} {st1 : St} (t : Told M st B w a acts M1 st1) : ∀ {cs : List CI} {acc : List Ty} {rest : D acc} {xs : List AV} {vs : List Value} {d : D (tysC cs acc)},
    extC st acts cs acc rest xs = some d → RelC M xs vs → RelC M1 (bldC st1.heap cs acc d).1 vs ∧ (bldC st1.heap cs acc d).2 = rest
  | [], acc, rest, xs, vs, d, h, hr => by
    cases xs with
    | nil =>
      simp only [extC, Option.some.injEq] at h
      subst h
      exact ⟨by simpa [bldC, RelC_nil] using hr, rfl⟩
    | cons _ _ => simp [extC] at h
  | .hole ty :: cs, acc, rest, xs, vs, d, h, hr => by
    simp only [extC] at h
    split at h
    · rename_i v ys hp
      split at h
      · rename_i d' hd
        cases h
        obtain ⟨a, r, rfl, h1, h2⟩ := popC_rel (M' := M1) (fun _ => t.fz) hp hr
        obtain ⟨i1, i2⟩ := extC_sound t hd h2
        exact ⟨RelC_cons.2 ⟨a, r, rfl, h1, i1⟩, i2⟩
      · cases h
    · cases h
  | .const _ :: cs, acc, rest, [], vs, d, h, hr => by simp [extC] at h
  | .sl _ _ _ :: cs, acc, rest, [], vs, d, h, hr => by simp [extC] at h
  | .ptr _ _ :: cs, acc, rest, [], vs, d, h, hr => by simp [extC] at h
  | .fnp _ _ :: cs, acc, rest, [], vs, d, h, hr => by simp [extC] at h
  | c :: cs, acc, rest, x :: xs, vs, d, h, hr => by
    obtain ⟨u, r, rfl, hx, hr'⟩ := RelC_cons.1 hr
    cases c with
    | hole ty =>
      simp only [extC] at h
      split at h
      · rename_i v ys hp
        split at h
        · rename_i d' hd
          cases h
          obtain ⟨a, r', e, h1, h2⟩ := popC_rel (M' := M1) (fun _ => t.fz) hp hr
          obtain ⟨i1, i2⟩ := extC_sound t hd h2
          exact ⟨RelC_cons.2 ⟨a, r', e, h1, i1⟩, i2⟩
        · cases h
      · cases h
    | const k =>
      simp only [extC] at h
      split at h
      · rename_i hs
        obtain ⟨i1, i2⟩ := extC_sound t h hr'
        have : ∃ v, u = [v] := by
          have hl := RelX_length hx
          have : width x = 1 := by
            cases x <;> first | rfl | (exfalso; cases k <;> simp [sameA] at hs)
          rw [this] at hl
          exact List.length_eq_one_iff.1 hl
        obtain ⟨v, rfl⟩ := this
        exact ⟨RelC_cons.2 ⟨[v], r, rfl, sameA_rel hs hx, i1⟩, i2⟩
      · cases h
    | sl b sz cc =>
      simp only [extC, Bool.and_eq_true, decide_eq_true_eq] at h
      split at h
      · rename_i hs
        obtain ⟨i1, i2⟩ := extC_sound t h hr'
        have : ∃ v, u = [v] := by
          have hl := RelX_length hx
          have : width x = 1 := by
            have := hs.1
            unfold slOk at this
            split at this <;> first | rfl | (cases this)
          rw [this] at hl
          exact List.length_eq_one_iff.1 hl
        obtain ⟨v, rfl⟩ := this
        exact ⟨RelC_cons.2 ⟨[v], r, rfl, slOk_sound t hs.1 hs.2 hx, i1⟩, i2⟩
      · cases h
    | fnp f ps =>
      simp only [extC] at h
      split at h
      · rename_i f' caps
        split at h
        · rename_i hs
          obtain ⟨rfl, hs⟩ := hs
          obtain ⟨i1, i2⟩ := extC_sound t h hr'
          have hx2 : ∃ v, u = [v] := by
            have hl := RelX_length hx
            exact List.length_eq_one_iff.1 hl
          obtain ⟨v, rfl⟩ := hx2
          exact ⟨RelC_cons.2 ⟨[v], r, rfl, fnp_sound t hs hx, i1⟩, i2⟩
        · cases h
      · cases h
    | ptr b wd =>
      simp only [extC] at h
      split at h
      · rename_i hs
        obtain ⟨i1, i2⟩ := extC_sound t h hr'
        have : ∃ v, u = [v] := by
          have hl := RelX_length hx
          have : width x = 1 := by
            have := hs
            unfold ptrOk at this
            split at this <;> first | rfl | (cases this)
          rw [this] at hl
          exact List.length_eq_one_iff.1 hl
        obtain ⟨v, rfl⟩ := this
        exact ⟨RelC_cons.2 ⟨[v], r, rfl, ptrOk_sound t hs hx, i1⟩, i2⟩
      · cases h

/-- The same of values one by one. -/
theorem extL_sound {M : List Place} {st : St} {B : Base} {w : World} {a : Array Value} {acts : List Act} {M1 : List Place} {st1 : St} (t : Told M st B w a acts M1 st1) : ∀ {cs : List CI} {acc : List Ty} {rest : D acc} {xs : List AV} {vs : List Value} {d : D (tysC cs acc)},
    extV st acts cs acc rest xs = some d → RelL M xs vs → RelL M1 (bldC st1.heap cs acc d).1 vs ∧ (bldC st1.heap cs acc d).2 = rest
  | [], acc, rest, xs, vs, d, h, hr => by
    cases xs with
    | nil =>
      simp only [extV, Option.some.injEq] at h
      subst h
      exact ⟨by simpa [bldC, RelL_nil] using hr, rfl⟩
    | cons _ _ => simp [extV] at h
  | c :: cs, acc, rest, [], vs, d, h, hr => by cases c <;> simp [extV] at h
  | c :: cs, acc, rest, x :: xs, vs, d, h, hr => by
    obtain ⟨v, r, rfl, hx, hr'⟩ := RelL_cons.1 hr
    cases c with
    | hole ty =>
      simp only [extV] at h
      split at h
      · rename_i y d' hv hd
        cases h
        obtain ⟨i1, i2⟩ := extL_sound t hd hr'
        exact ⟨RelL_cons.2 ⟨v, r, rfl, getC_rel (fun _ => t.fz) hv hx, i1⟩, i2⟩
      · cases h
    | const k =>
      simp only [extV] at h
      split at h
      · rename_i hs
        obtain ⟨i1, i2⟩ := extL_sound t h hr'
        exact ⟨RelL_cons.2 ⟨v, r, rfl, sameA_rel hs hx, i1⟩, i2⟩
      · cases h
    | sl b sz cc =>
      simp only [extV, Bool.and_eq_true, decide_eq_true_eq] at h
      split at h
      · rename_i hs
        obtain ⟨i1, i2⟩ := extL_sound t h hr'
        exact ⟨RelL_cons.2 ⟨v, r, rfl, slOk_sound t hs.1 hs.2 hx, i1⟩, i2⟩
      · cases h
    | ptr b wd =>
      simp only [extV] at h
      split at h
      · rename_i hs
        obtain ⟨i1, i2⟩ := extL_sound t h hr'
        exact ⟨RelL_cons.2 ⟨v, r, rfl, ptrOk_sound t hs hx, i1⟩, i2⟩
      · cases h
    | fnp f ps =>
      simp only [extV] at h
      split at h
      · rename_i f' caps
        split at h
        · rename_i hs
          obtain ⟨rfl, hs⟩ := hs
          obtain ⟨i1, i2⟩ := extL_sound t h hr'
          exact ⟨RelL_cons.2 ⟨v, r, rfl, fnp_sound t hs hx, i1⟩, i2⟩
        · cases h
      · cases h

/-- A block more in a told state. -/
theorem Told.add {M : List Place} {st : St} {B : Base} {w : World} {a : Array Value} {acts : List Act} {M1 : List Place} {st1 : St} (t : Told M st B w a acts M1 st1) (hH : RelH M st.heap B w) {ac : Act} {pl : Place} {o : AObj} (hok : ObjOk M1 o pl B w) (hown : o.own = ac.own)
    (hid : ∀ b, ac.id = some b → fresh acts ac.own b = true ∧ ∃ o' p, st.heap[b]? = some (some o') ∧ M[b]? = some p ∧ pl.nil = p.nil ∧ pl.blk = p.blk ∧ (ac.own = true → o'.own = true) ∧ (ac.whole = true → pl = p)) (hpin : ∀ k, o.pin = some k → B.pin k pl)
    (hnone : NoneOk M ac pl) (hrow : ac.row = true → isRowC o.c = true) {ts : List AV} (hts : RelT (M1 ++ [pl]) ts a) :
    Told M st B w a (acts ++ [ac]) (M1 ++ [pl]) ⟨ts, st1.heap ++ [some o]⟩ := by
  have hlen := t.len
  have hlen1 := t.heap.len
  have hvis : pl.nil = false → B.vis pl.blk := by
    intro hn
    cases hab : ac.id with
    | none =>
      obtain ⟨ob, h⟩ := ((hnone.1 hab).2 hn).2
      exact (hH.fz _ _ h).2.1
    | some b2 =>
      obtain ⟨_, o2, q2, ho2, hq2, hn2, hb2, _⟩ := hid b2 hab
      rw [hb2]
      exact hH.vis b2 o2 q2 ho2 hq2 (by rw [← hn2]; exact hn)
  have hz1 : ∀ k ob, pl.fz k = some ob → FzAt M1 k ob := fun k ob h => t.fz k ob (hnone.2 k ob h)
  refine ⟨hts, t.heap.addS hok hpin hvis (fun i oi pi hi hpi hor hni hnp => ?_) hz1 (fun how hn => ?_), by simp [hlen], fun i ac' hac => ?_, fun k ob h => (t.fz k ob h).left _, fun k ob h => t.zf k ob (FzAt.snocS hz1 h)⟩
  · -- apart
    have hi1 : i < acts.length := by rw [hlen]; exact (List.getElem?_eq_some_iff.1 hpi).1
    obtain ⟨p1, hp1, hid1, hnone1, hown1, _⟩ := t.act i acts[i] (List.getElem?_eq_getElem hi1)
    rw [hpi] at hp1
    cases hp1
    have hoi := hown1 oi hi
    cases hai : (acts[i]).id with
    | none =>
      obtain ⟨q1, ob, q2⟩ := (hnone1.1 hai).2 hni
      rw [q1] at hoi
      cases hab : ac.id with
      | none =>
        have := ((hnone.1 hab).2 hnp).1
        rcases hor with h | h
        · rw [hoi] at h; cases h
        · rw [hown, this] at h; cases h
      | some b2 =>
        obtain ⟨_, o2, q2', ho2, hq2, hn2, hb2, hw2, _⟩ := hid b2 hab
        rcases hor with h | h
        · rw [hoi] at h; cases h
        · intro e
          exact (hH.fo b2 o2 q2' ho2 hq2 (hw2 (by rw [← hown]; exact h)) (by rw [← hn2]; exact hnp)).2 ob (by rw [← hb2, ← e]; exact q2)
    | some b1 =>
      obtain ⟨o1, q1, ho1, hq1, hn1, hb1, hw1, _⟩ := hid1 b1 hai
      cases hab : ac.id with
      | none =>
        obtain ⟨q1, ob, q2⟩ := (hnone.1 hab).2 hnp
        rcases hor with h | h
        · intro e
          exact (hH.fo b1 o1 _ ho1 hq1 (hw1 (by rw [← hoi]; exact h)) (by rw [← hn1]; exact hni)).2 ob (by rw [← hb1, e]; exact q2)
        · rw [hown, q1] at h; cases h
      | some b2 =>
        obtain ⟨hf, o2, q2, ho2, hq2, hn2, hb2, hw2, _⟩ := hid b2 hab
        rw [hb1, hb2]
        have hne : b1 ≠ b2 := by
          intro e
          subst e
          have := List.all_eq_true.1 hf acts[i] (List.getElem_mem hi1)
          simp only [hai, beq_self_eq_true, Bool.not_true, Bool.false_or, Bool.not_eq_true', Bool.or_eq_false_iff] at this
          rcases hor with h | h
          · rw [hoi] at h; rw [this.2] at h; cases h
          · rw [hown] at h; rw [this.1] at h; cases h
        rcases hor with h | h
        · exact hH.sep b1 b2 o1 o2 q1 q2 ho1 ho2 hq1 hq2 hne (hw1 (by rw [← hoi]; exact h)) (by rw [← hn1]; exact hni) (by rw [← hn2]; exact hnp)
        · exact fun e => hH.sep b2 b1 o2 o1 q2 q1 ho2 ho1 hq2 hq1 (fun e => hne e.symm) (hw2 (by rw [← hown]; exact h)) (by rw [← hn2]; exact hnp) (by rw [← hn1]; exact hni) e.symm
  · cases hab : ac.id with
    | none =>
      have := ((hnone.1 hab).2 hn).1
      rw [hown, this] at how
      cases how
    | some b2 =>
      obtain ⟨_, o2, q2, ho2, hq2, hn2, hb2, hw2, _⟩ := hid b2 hab
      obtain ⟨f1, f2⟩ := hH.fo b2 o2 q2 ho2 hq2 (hw2 (by rw [← hown]; exact how)) (by rw [← hn2]; exact hn)
      rw [hb2]
      exact ⟨f1, fun ob h => f2 ob (t.zf _ _ h)⟩
  · rw [List.getElem?_append] at hac
    split at hac
    · rename_i hlt
      obtain ⟨p1, hp1, h1, h2, h3, h4⟩ := t.act i ac' hac
      refine ⟨p1, by rw [List.getElem?_append_left (by omega)]; exact hp1, h1, h2, fun oi hoi => ?_, fun hr => ?_⟩
      · rw [List.getElem?_append_left (by omega)] at hoi
        exact h3 oi hoi
      · obtain ⟨c', o', pn', ho', hc'⟩ := h4 hr
        exact ⟨c', o', pn', by rw [List.getElem?_append_left (by omega)]; exact ho', hc'⟩
    · rename_i hge
      have h0 : i - acts.length = 0 := by
        rcases Nat.eq_zero_or_pos (i - acts.length) with h | h
        · exact h
        · rw [List.getElem?_eq_none (by simp; omega)] at hac; cases hac
      rw [h0] at hac
      simp at hac
      subst hac
      have hi : i = M1.length := by omega
      subst hi
      have hlast : (st1.heap ++ [some o])[M1.length]? = some (some o) := by rw [← hlen1]; simp
      refine ⟨pl, by simp, fun b hb => (hid b hb).2, hnone, fun oi hoi => ?_, fun hr => ?_⟩
      · rw [hlast] at hoi
        cases hoi
        exact hown
      · exact ⟨o.c, o.own, o.pin, hlast, hrow hr⟩

theorem pin_sound {M : List Place} {H : Heap} {B : Base} {w : World} (hH : RelH M H B w) {chk : Bool} (hB : chk = false → ∀ k pl, B.pin k pl) {pin : Option Nat} {o : AObj} {b : Nat} {p : Place} (ho : H[b]? = some (some o)) (hp : M[b]? = some p) {whole : Bool} (h : pinOk chk pin o.pin whole = true) {pl : Place} (hw : whole = true → pl = p) :
    ∀ k, pin = some k → B.pin k pl := by
  rintro k rfl
  simp only [pinOk, Bool.and_eq_true, Bool.or_eq_true, Bool.not_eq_true', decide_eq_true_eq] at h
  rcases h with ⟨h1, h2 | h2⟩
  · exact hB h2 k pl
  · rw [hw h1]
    exact hH.pin b o p k ho hp h2

theorem cellAt1_rel {M : List Place} : ∀ {cs : List AV} {vs : List Value} {j : Nat} {x : AV}, RelC M cs vs → cellOf.cellAt1 cs j = some x → ∃ us, RelX M x us
  | [], _, _, _, _, h => by simp [cellOf.cellAt1] at h
  | c :: cs, vs, 0, x, hr, h => by
    obtain ⟨a, t, rfl, hx, _⟩ := RelC_cons.1 hr
    simp [cellOf.cellAt1] at h
    subst h
    exact ⟨a, hx⟩
  | c :: cs, vs, j + 1, x, hr, h => by
    obtain ⟨a, t, rfl, _, hr'⟩ := RelC_cons.1 hr
    exact cellAt1_rel hr' (by simpa [cellOf.cellAt1] using h)
theorem cellAt1_relL {M : List Place} : ∀ {cs : List AV} {vs : List Value} {j : Nat} {x : AV}, RelL M cs vs → cellOf.cellAt1 cs j = some x → ∃ us, RelX M x us
  | [], _, _, _, _, h => by simp [cellOf.cellAt1] at h
  | c :: cs, vs, 0, x, hr, h => by
    obtain ⟨a, t, rfl, hx, _⟩ := RelL_cons.1 hr
    simp [cellOf.cellAt1] at h
    subst h
    exact ⟨[a], hx⟩
  | c :: cs, vs, j + 1, x, hr, h => by
    obtain ⟨a, t, rfl, _, hr'⟩ := RelL_cons.1 hr
    exact cellAt1_relL hr' (by simpa [cellOf.cellAt1] using h)

theorem valAt_rel {M : List Place} {st : St} {B : Base} {w : World} {a : Array Value} (ht : RelT M st.tmps a) (hH : RelH M st.heap B w) : ∀ {p : Src} {x : AV}, valAt st p = some x → ∃ vs, RelX M x vs
  | .same _, x, h => by simp [valAt] at h
  | .slot t, x, h => by
    simp only [valAt, Option.some.injEq] at h
    subst h
    exact ⟨_, ht.2 t⟩
  | .cell p j, x, h => by
    simp only [valAt] at h
    split at h
    · split at h
      · rename_i cs o pn hob
        obtain ⟨pl, _, hok⟩ := hH.obj _ _ hob
        have : ∃ vs, RelC M cs vs := by
          rcases hok with ⟨_, _, n3⟩ | ⟨_, cs', el, fz, _, h2, h3, h4, _⟩
          · exact ⟨_, n3⟩
          · exact ⟨_, h4⟩
        obtain ⟨vs, hvs⟩ := this
        obtain ⟨v, _, hv⟩ := cellAt_rel hvs h
        exact ⟨[v], hv⟩
      · cases h
    · cases h
  | .cap p j, x, h => by
    simp only [valAt] at h
    split at h
    · rename_i f caps hp
      obtain ⟨vs, hvs⟩ := valAt_rel ht hH hp
      simp only [RelX] at hvs
      obtain ⟨x', y, _, _, h2⟩ := hvs
      exact cellAt1_relL h2 h
    · cases h
  | .part p j, x, h => by
    simp only [valAt] at h
    split at h
    · rename_i cs hp
      obtain ⟨vs, hvs⟩ := valAt_rel ht hH hp
      obtain ⟨us, _, h2⟩ := RelX_agg.1 hvs
      obtain ⟨v, _, hv⟩ := cellAt_rel h2 h
      exact ⟨[v], hv⟩
    · cases h

theorem rowSrc_sound {M : List Place} {st : St} {B : Base} {w : World} {a : Array Value} (ht : RelT M st.tmps a) (hH : RelH M st.heap B w) {chk : Bool} (hB : chk = false → ∀ k pl, B.pin k pl) {acts : List Act} {M1 : List Place} {st1 : St} (t : Told M st B w a acts M1 st1) {k : IntKind} {sz : Nat} {src : Src} {own : Bool} {pin : Option Nat} {ac : Act} {l : List Int}
    (h : rowSrc st chk k sz src own pin = some (ac, l)) (hs : 1 ≤ sz) (hf : actFresh acts own ac = true) :
    ∃ pl, Told M st B w a (acts ++ [ac]) (M1 ++ [pl]) ⟨setSrc st1.tmps src st1.heap.length l.length sz own, st1.heap ++ [some ⟨.row k l, own, pin⟩]⟩ := by
  have hE : ∀ pl, Ext M1 (M1 ++ [pl]) := fun pl => Ext.snoc M1 _
  -- the row of a slice
  have slice : ∀ (x : AV) (v : Value), RelV M x v → rowVal st chk k sz own pin (some x) = some (ac, l) →
      ∃ pl, ObjOk M1 ⟨.row k l, own, pin⟩ pl B w ∧ ac.own = own ∧ ac.row = true ∧ (∀ k, pin = some k → B.pin k pl) ∧
        (∀ b, ac.id = some b → ∃ o' p, st.heap[b]? = some (some o') ∧ M[b]? = some p ∧ pl.nil = p.nil ∧ pl.blk = p.blk ∧ (ac.own = true → o'.own = true) ∧ (ac.whole = true → pl = p)) ∧
        NoneOk M ac pl ∧ RelV (M1 ++ [pl]) (.sl st1.heap.length 0 (div1 l.length sz) sz (if own then .own else .whole)) v := by
    intro x v hx hq
    unfold rowVal at hq
    split at hq
    · rename_i hxn
      cases hxn
      split at hq
      case isFalse => cases hq
      rename_i hpk
      cases hq
      have hv : v = .slice none 0 0 := by simpa [RelV, RelX] using hx
      subst hv
      refine ⟨⟨true, 0, 0, 0, 0, noFz⟩, .inl ⟨rfl, rfl, by simp [RelO]⟩, rfl, rfl, ?_, fun b hb => (by cases hb), ⟨fun _ => ⟨fun _ => rfl, fun h => by cases h⟩, fun k ob h => by cases h⟩, ?_⟩
      · rintro k' rfl
        simp only [pinOk, Bool.and_eq_true, Bool.or_eq_true, Bool.not_eq_true', decide_eq_true_eq] at hpk
        rcases hpk with ⟨_, h2 | h2⟩
        · exact hB h2 _ _
        · cases h2
      rw [div_len (n := ([] : List Int).length) (len := 0) (by simp) hs]
      simp only [RelV, RelX]
      refine ⟨⟨true, 0, 0, 0, 0, noFz⟩, none, 0, by rw [t.heap.len]; simp, rfl, by simp, Nat.le_refl _, fun _ => ⟨fun _ => rfl, rfl⟩, fun h => (by cases h), fun hf => (by cases own <;> simp at hf), fun _ => ⟨trivial, rfl, by simp, by simp⟩, fun _ => ⟨trivial, by simp⟩, by rw [has_iff]; simp [loB, hiB]⟩
    · rename_i b off len s c hxs
      cases hxs
      split at hq
      · rename_i hcond
        obtain ⟨rfl, hco⟩ := hcond
        split at hq
        · rename_i oc o op hob
          split at hq
          · rename_i hoo
            obtain ⟨hoo, hpk⟩ := hoo
            split at hq
            · rename_i k' l' hwc
              split at hq
              · rename_i hk
                subst hk
                cases hq
                obtain ⟨us, hus, lus⟩ := wholeC_rel hH hx hwc (fun _ _ _ _ _ e => by cases e; rfl)
                obtain ⟨pl0, hpl0, hok0⟩ := hH.obj b _ hob
                have hx0 := hx
                simp only [RelV, RelX] at hx0
                obtain ⟨pl, A, cap, hpl, hv, hb, hcap, hnil, hnn, hfull, hown, hwhole, hhas⟩ := hx0
                rw [hpl0] at hpl
                cases hpl
                have hv : v = .slice A len cap := by simpa using hv
                have hlus := lus.1
                simp only [slLen] at hlus
                have hll : l.length = len * s := by have := congrArg List.length hus.1; simp at this; omega
                have hdiv := div_len hll hs
                rw [hdiv]
                -- the cells themselves
                have hcells : pl0.nil = false → ∃ cs el fz, w.heap[pl0.blk]? = some (.cells cs el fz) ∧ cs.size = pl0.size ∧ pl0.off + pl0.n ≤ pl0.size ∧ us = (cs.toList.drop (pl0.off + off)).take (len * s) ∧ (o = true → fz = (0, 0) ∧ pl0.off = 0 ∧ B.w pl0.blk) := by
                  intro hn
                  rcases hok0 with ⟨n1, _⟩ | ⟨_, cs, el, fz, g1, g2, g3, g4, g5⟩
                  · rw [hn] at n1; cases n1
                  · refine ⟨cs, el, fz, g1, g2, g3, ?_, g5⟩
                    obtain ⟨_, A2, cap2, hv2, _, hm⟩ := lus
                    simp only [slLen] at hv2 hm
                    by_cases hz : len * s = 0
                    · rw [hz] at hlus ⊢
                      have : us = [] := List.eq_nil_of_length_eq_zero hlus
                      rw [this]; simp
                    · rcases hm with hm | ⟨blk, o2, cs2, el2, fz2, e, hg2, hle2, hus2⟩
                      · exact absurd hm hz
                      · have hl0 : 0 < len := by
                          rcases Nat.eq_zero_or_pos len with h0 | h0
                          · rw [h0] at hz; simp at hz
                          · exact h0
                        have hA := (hnn hn).2 (.inl hl0)
                        rw [hv] at hv2
                        injection hv2 with e1
                        rw [← e1, hA] at e
                        injection e with e
                        injection e with e2 e3
                        rw [← e2, g1] at hg2
                        cases hg2
                        rw [hus2, ← e3]
                cases hw : isWhole c with
                | true =>
                  have h0 : off = 0 ∧ len * s = pl0.n := by
                    cases c <;> simp [isWhole] at hw
                    · exact ⟨(hown rfl).1, (hown rfl).2.2.1⟩
                    · exact hwhole rfl
                  obtain ⟨rfl, h0⟩ := h0
                  refine ⟨pl0, ?_, rfl, rfl, pin_sound hH hB hob hpl0 hpk (fun _ => rfl), fun b' hb' => (by cases hb'; exact ⟨_, pl0, hob, hpl0, rfl, rfl, hoo, fun _ => rfl⟩), ⟨fun h => (by cases h), fun k ob h => ⟨b, pl0, hpl0, h⟩⟩, ?_⟩
                  · cases hn : pl0.nil with
                    | true =>
                      have h1 := (hnil hn).2
                      have : l = [] := List.eq_nil_of_length_eq_zero (by rw [hll]; have h3 : len = 0 := (by omega); simp [h3])
                      subst this
                      refine .inl ⟨hn, ?_, by simp [RelO]⟩
                      rcases hok0 with ⟨_, n2, _⟩ | ⟨n1, _⟩
                      · exact n2
                      · rw [hn] at n1; cases n1
                    | false =>
                      obtain ⟨cs, el, fz, g1, g2, g3, g4, g5⟩ := hcells hn
                      refine .inr ⟨hn, cs, el, fz, g1, g2, g3, ?_, fun ho => g5 (hoo ho)⟩
                      rw [← h0]
                      simp only [Nat.add_zero] at g4
                      rw [← g4]
                      exact hus
                  · simp only [RelV, RelX]
                    refine ⟨pl0, A, cap, by rw [t.heap.len]; simp, by rw [hv], by rw [Nat.zero_add]; exact Nat.le_of_eq h0, hcap, fun hn => ⟨fun hf => (hnil hn).1 (hco (by cases own with | true => rfl | false => simp at hf)), (hnil hn).2⟩, fun hn => ⟨(hnn hn).1, fun hq => ?_⟩, fun hf => (by cases own <;> simp at hf), fun hf => ?_, fun _ => ⟨trivial, h0⟩, hhas⟩
                    · rcases hq with hq | hq
                      · exact (hnn hn).2 (.inl hq)
                      · have : own = true := by cases own with | true => rfl | false => simp at hq
                        exact (hnn hn).2 (.inr (hco this))
                    · have : own = true := by cases own with | true => rfl | false => simp at hf
                      exact ⟨trivial, (hown (hco this)).2⟩
                | false =>
                  have hno : own = false := by
                    cases own with
                    | false => rfl
                    | true => have := hco rfl; subst this; simp [isWhole] at hw
                  subst hno
                  refine ⟨⟨pl0.nil, pl0.blk, pl0.off + off, len * s, pl0.size, noFz⟩, ?_, rfl, rfl, pin_sound hH hB hob hpl0 (whole := isWhole c) hpk (fun h => by rw [hw] at h; cases h), fun b' hb' => (by cases hb'; exact ⟨_, pl0, hob, hpl0, rfl, rfl, hoo, fun h => (by cases h)⟩), ⟨fun h => (by cases h), fun k ob h => by cases h⟩, ?_⟩
                  · cases hn : pl0.nil with
                    | true =>
                      have h1 := (hnil hn).2
                      have hl0 : len = 0 := by omega
                      have : l = [] := List.eq_nil_of_length_eq_zero (by rw [hll]; simp [hl0])
                      subst this
                      exact .inl ⟨rfl, by simp [hl0], by simp [RelO]⟩
                    | false =>
                      obtain ⟨cs, el, fz, g1, g2, g3, g4, g5⟩ := hcells hn
                      refine .inr ⟨rfl, cs, el, fz, g1, g2, by simp only; omega, ?_, fun ho => (by cases ho)⟩
                      simp only
                      rw [← g4]
                      exact hus
                  · simp only [RelV, RelX]
                    refine ⟨⟨pl0.nil, pl0.blk, pl0.off + off, len * s, pl0.size, noFz⟩, A, cap, by rw [t.heap.len]; simp, by rw [hv], by simp, hcap, fun hn => ⟨fun hf => (by simp at hf), (hnil hn).2⟩, fun hn => ⟨(hnn hn).1, fun hq => ?_⟩, fun hf => (by simp at hf), fun hf => (by simp at hf), fun _ => ⟨trivial, rfl⟩, hhas⟩
                    rcases hq with hq | hq
                    · simpa using (hnn hn).2 (.inl hq)
                    · simp at hq
              · cases hq
            · cases hq
          · cases hq
        · cases hq
      · cases hq
    · rename_i k' s' l' hxs
      cases hxs
      split at hq
      · rename_i hcond
        obtain ⟨rfl, rfl, rfl, rfl⟩ := hcond
        cases hq
        simp only [RelV, RelX] at hx
        obtain ⟨v', e, A, len, cap, rfl, h1, h2, h3, h4, h5⟩ := hx
        simp only [List.cons.injEq, and_true] at e
        subst e
        rw [div_len h2 hs]
        rcases h5 with h5 | ⟨blk, off, cs, el, fz, rfl, h6, h7, h8⟩
        · have hl0 : len = 0 := by omega
          subst h5
          subst hl0
          have : l = [] := List.eq_nil_of_length_eq_zero (by rw [h2]; simp)
          subst this
          refine ⟨⟨true, 0, 0, 0, 0, noFz⟩, .inl ⟨rfl, rfl, by simp [RelO]⟩, rfl, rfl, fun k h => (by cases h), fun b hb => (by cases hb), ⟨fun _ => ⟨fun _ => rfl, fun h => by cases h⟩, fun k ob h => by cases h⟩, ?_⟩
          simp only [RelV, RelX]
          exact ⟨⟨true, 0, 0, 0, 0, noFz⟩, A, 0, by rw [t.heap.len]; simp, rfl, by simp, h1, fun _ => ⟨fun hf => (by cases hf), rfl⟩, fun h => (by cases h), fun hf => (by cases hf), fun hf => (by cases hf), fun _ => ⟨trivial, by simp⟩, h3⟩
        · refine ⟨⟨false, blk, off, len * s', cs.size, noFz⟩, .inr ⟨rfl, cs, el, fz, (hH.fz _ _ h6).1, rfl, h7, ⟨h8, h4⟩, fun h => (by cases h)⟩, rfl, rfl, fun k h => (by cases h), fun b hb => (by cases hb), ⟨fun _ => ⟨fun h => (by cases h), fun _ => ⟨rfl, _, h6⟩⟩, fun k ob h => by cases h⟩, ?_⟩
          simp only [RelV, RelX]
          exact ⟨⟨false, blk, off, len * s', cs.size, noFz⟩, _, cap, by rw [t.heap.len]; simp, rfl, by simp, h1, fun h => (by cases h), fun _ => ⟨by simp, fun _ => by simp⟩, fun hf => (by cases hf), fun hf => (by cases hf), fun _ => ⟨trivial, rfl⟩, h3⟩
      · cases hq
    · cases hq
  -- into the told state
  have put : ∀ (pl : Place), ObjOk M1 ⟨.row k l, own, pin⟩ pl B w → ac.own = own → ac.row = true → (∀ k, pin = some k → B.pin k pl) →
      (∀ b, ac.id = some b → ∃ o' p, st.heap[b]? = some (some o') ∧ M[b]? = some p ∧ pl.nil = p.nil ∧ pl.blk = p.blk ∧ (ac.own = true → o'.own = true) ∧ (ac.whole = true → pl = p)) →
      NoneOk M ac pl → RelT (M1 ++ [pl]) (setSrc st1.tmps src st1.heap.length l.length sz own) a →
      ∃ pl, Told M st B w a (acts ++ [ac]) (M1 ++ [pl]) ⟨setSrc st1.tmps src st1.heap.length l.length sz own, st1.heap ++ [some ⟨.row k l, own, pin⟩]⟩ := by
    intro pl h1 h2 h3 hpin h4 h5 h6
    refine ⟨pl, t.add hH h1 h2.symm (fun b hb => ⟨?_, h4 b hb⟩) hpin h5 (fun _ => rfl) h6⟩
    unfold actFresh at hf
    rw [hb] at hf
    rw [h2]
    exact hf
  have keepT : ∀ (pl : Place) (t' : Nat) (x : AV), RelV (M1 ++ [pl]) x (a.getD t' undef) → RelT (M1 ++ [pl]) (st1.tmps.set t' x) a := by
    intro pl t' x hx
    have h1 := (t.tmps.mono (hE pl)).put hx t'
    have h2 := congrArg Act.tmps (put_self (a := ⟨a, []⟩) (d := t'))
    simp only [Go.Act.put] at h2
    rw [h2] at h1
    exact h1
  have deep : ∀ (src' : Src), (∀ (x : AV), setSrc st1.tmps src' st1.heap.length l.length sz own = st1.tmps) → (rowSrc st chk k sz src' own pin = rowVal st chk k sz own pin (valAt st src')) → rowSrc st chk k sz src' own pin = some (ac, l) →
      ∃ pl, Told M st B w a (acts ++ [ac]) (M1 ++ [pl]) ⟨setSrc st1.tmps src' st1.heap.length l.length sz own, st1.heap ++ [some ⟨.row k l, own, pin⟩]⟩ := by
    intro src' hset hrow hq
    rw [hrow] at hq
    cases hx : valAt st src' with
    | none => rw [hx] at hq; cases hq
    | some x =>
      rw [hx] at hq
      obtain ⟨vs, hvs⟩ := valAt_rel ht hH hx
      have : ∃ v, vs = [v] := by
        have hl := RelX_length hvs
        have : width x = 1 := by
          cases x <;> first | rfl | (cases hq)
        rw [this] at hl
        exact List.length_eq_one_iff.1 hl
      obtain ⟨v, rfl⟩ := this
      obtain ⟨pl, h1, h2, h3, hpn, h4, h5, h6⟩ := slice _ _ hvs hq
      rw [hset (.undef)]
      have hh := fun (h7 : RelT (M1 ++ [pl]) st1.tmps a) => (⟨pl, t.add hH h1 h2.symm (fun b hb => ⟨by
        unfold actFresh at hf
        rw [hb] at hf
        rw [h2]
        exact hf, h4 b hb⟩) hpn h5 (fun _ => rfl) h7⟩ : ∃ pl, Told M st B w a (acts ++ [ac]) (M1 ++ [pl]) ⟨st1.tmps, st1.heap ++ [some ⟨.row k l, own, pin⟩]⟩)
      exact hh (t.tmps.mono (hE pl))
  cases src with
  | same b =>
    simp only [rowSrc] at h
    split at h
    · rename_i k' l' o op hob
      split at h
      · rename_i hc
        obtain ⟨rfl, ho, hpk⟩ := hc
        cases h
        obtain ⟨pl, hpl, hok⟩ := hH.obj b _ hob
        refine put pl ?_ rfl rfl (pin_sound hH hB hob hpl hpk (fun _ => rfl)) (fun b' hb' => (by cases hb'; exact ⟨_, pl, hob, hpl, rfl, rfl, ho, fun _ => rfl⟩)) ⟨fun h => (by cases h), fun k ob h => ⟨b, pl, hpl, h⟩⟩ (t.tmps.mono (hE pl))
        rcases hok with ⟨n1, n2, n3⟩ | ⟨n1, cs, el, fz, g1, g2, g3, g4, g5⟩
        · exact .inl ⟨n1, n2, n3⟩
        · exact .inr ⟨n1, cs, el, fz, g1, g2, g3, g4, fun h => g5 (ho h)⟩
      · cases h
    · cases h
  | slot t' =>
    simp only [rowSrc, valAt] at h
    obtain ⟨pl, h1, h2, h3, hp, h4, h5, h6⟩ := slice _ _ (ht.2 t') h
    exact put pl h1 h2 h3 hp h4 h5 (keepT pl t' _ h6)
  | cell p j => exact deep _ (fun _ => rfl) rfl h
  | cap p j => exact deep _ (fun _ => rfl) rfl h
  | part p j => exact deep _ (fun _ => rfl) rfl h

theorem drowSrc_sound {M : List Place} {st : St} {B : Base} {w : World} {a : Array Value} (ht : RelT M st.tmps a) (hH : RelH M st.heap B w) {chk : Bool} (hB : chk = false → ∀ k pl, B.pin k pl) {acts : List Act} {M1 : List Place} {st1 : St} (t : Told M st B w a acts M1 st1) {e : EK} {src : Src} {own : Bool} {pin : Option Nat} {ac : Act} {l : List e.den}
    (h : drowSrc st chk e src own pin = some (ac, l)) (hf : actFresh acts own ac = true) :
    ∃ pl, Told M st B w a (acts ++ [ac]) (M1 ++ [pl]) ⟨setSrc st1.tmps src st1.heap.length (mul1 l.length e.w) e.w own, st1.heap ++ [some ⟨.drow ⟨e, l⟩, own, pin⟩]⟩ := by
  have hE : ∀ pl, Ext M1 (M1 ++ [pl]) := fun pl => Ext.snoc M1 _
  have hw := e.w_pos
  have mono : ∀ {vs : List Value}, RelO M (.drow ⟨e, l⟩) vs → RelO M1 (.drow ⟨e, l⟩) vs := fun r => ⟨r.1, fun i x hx => EK.rel_mono t.fz e x _ (r.2 i x hx)⟩
  have monoK : ∀ {o : Bool} {op : Option Nat} {pl : Place}, ObjOk M ⟨.drow ⟨e, l⟩, o, op⟩ pl B w → (own = true → o = true) → ObjOk M1 ⟨.drow ⟨e, l⟩, own, pin⟩ pl B w := by
    rintro o op pl (⟨n1, n2, n3⟩ | ⟨n1, cs, el, fz, g1, g2, g3, g4, g5⟩) ho
    · exact .inl ⟨n1, n2, mono n3⟩
    · exact .inr ⟨n1, cs, el, fz, g1, g2, g3, mono g4, fun h => g5 (ho h)⟩
  have add : ∀ (pl : Place) (ts : List AV), ObjOk M1 ⟨.drow ⟨e, l⟩, own, pin⟩ pl B w → ac.own = own → (∀ k, pin = some k → B.pin k pl) →
      (∀ b, ac.id = some b → ∃ o' p, st.heap[b]? = some (some o') ∧ M[b]? = some p ∧ pl.nil = p.nil ∧ pl.blk = p.blk ∧ (ac.own = true → o'.own = true) ∧ (ac.whole = true → pl = p)) →
      NoneOk M ac pl → RelT (M1 ++ [pl]) ts a → Told M st B w a (acts ++ [ac]) (M1 ++ [pl]) ⟨ts, st1.heap ++ [some ⟨.drow ⟨e, l⟩, own, pin⟩]⟩ := by
    intro pl ts h1 h2 hpin h4 h5 h6
    refine t.add hH h1 h2.symm (fun b hb => ⟨?_, h4 b hb⟩) hpin h5 (fun _ => rfl) h6
    unfold actFresh at hf
    rw [hb] at hf
    rw [h2]
    exact hf
  have same : ∀ (b : Nat) (d : EKs) (o : Bool) (op : Option Nat), st.heap[b]? = some (some ⟨.drow d, o, op⟩) → (own = true → o = true) → pinOk chk pin op true = true → castE e d = some l → ac = ⟨some b, true, own, true⟩ →
      ∃ pl, M[b]? = some pl ∧ ∀ ts, RelT (M1 ++ [pl]) ts a → Told M st B w a (acts ++ [ac]) (M1 ++ [pl]) ⟨ts, st1.heap ++ [some ⟨.drow ⟨e, l⟩, own, pin⟩]⟩ := by
    rintro b d o op hob ho hpk hce rfl
    have := castE_spec hce
    subst this
    obtain ⟨pl, hpl, hok⟩ := hH.obj b _ hob
    exact ⟨pl, hpl, fun ts h => add pl ts (monoK hok ho) rfl (pin_sound hH hB hob hpl hpk (fun _ => rfl)) (fun b' hb' => (by cases hb'; exact ⟨_, pl, hob, hpl, rfl, rfl, ho, fun _ => rfl⟩)) ⟨fun h => (by cases h), fun k ob h => ⟨b, pl, hpl, h⟩⟩ h⟩
  -- a value
  have val : ∀ (x : AV) (v : Value), RelV M x v → (match (some x : Option AV) with
      | some .nils => if pinOk chk pin none true = true then some ((⟨none, true, own, true⟩ : Act), ([] : List e.den)) else none
      | some (.sl b _ _ s c) => if s = e.w ∧ (own = true → c = .own) ∧ isWhole c = true then
          match st.heap[b]? with
          | some (some ⟨.drow d, o, op⟩) => if (own = true → o = true) ∧ pinOk chk pin op true = true then (match castE e d with | some l => some (⟨some b, true, own, true⟩, l) | none => none) else none
          | _ => none
        else none
      | _ => none) = some (ac, l) →
      ∃ pl, RelV (M1 ++ [pl]) (.sl st1.heap.length 0 (div1 (mul1 l.length e.w) e.w) e.w (if own then .own else .whole)) v ∧ ∀ ts, RelT (M1 ++ [pl]) ts a → Told M st B w a (acts ++ [ac]) (M1 ++ [pl]) ⟨ts, st1.heap ++ [some ⟨.drow ⟨e, l⟩, own, pin⟩]⟩ := by
    intro x v hx hq
    split at hq
    · rename_i hxn
      cases hxn
      split at hq
      case isFalse => cases hq
      rename_i hpk
      cases hq
      have hv : v = .slice none 0 0 := by simpa [RelV, RelX] using hx
      subst hv
      refine ⟨⟨true, 0, 0, 0, 0, noFz⟩, ?_, fun ts h => add _ ts (.inl ⟨rfl, rfl, by simp [RelO]⟩) rfl ?_ (fun b hb => (by cases hb)) ⟨fun _ => ⟨fun _ => rfl, fun h => by cases h⟩, fun k ob h => by cases h⟩ h⟩
      · rw [div_len (n := mul1 ([] : List e.den).length e.w) (len := 0) (by simp [mul1_eq]) hw]
        simp only [RelV, RelX]
        exact ⟨⟨true, 0, 0, 0, 0, noFz⟩, none, 0, by rw [t.heap.len]; simp, rfl, by simp, Nat.le_refl _, fun _ => ⟨fun _ => rfl, rfl⟩, fun h => (by cases h), fun hf => (by cases own <;> simp at hf), fun _ => ⟨trivial, rfl, by simp, by simp⟩, fun _ => ⟨trivial, by simp⟩, by rw [has_iff]; simp [loB, hiB]⟩
      · rintro k' rfl
        simp only [pinOk, Bool.and_eq_true, Bool.or_eq_true, Bool.not_eq_true', decide_eq_true_eq] at hpk
        rcases hpk with ⟨_, h2 | h2⟩
        · exact hB h2 _ _
        · cases h2
    · rename_i b off len s c hxs
      cases hxs
      split at hq
      case isFalse => cases hq
      rename_i hcond
      obtain ⟨rfl, hco, hwh⟩ := hcond
      split at hq
      · rename_i d o op hob
        split at hq
        case isFalse => cases hq
        rename_i hoo
        split at hq
        · rename_i l' hce
          cases hq
          obtain ⟨pl, hpl, hadd⟩ := same b d o op hob hoo.1 hoo.2 hce rfl
          refine ⟨pl, ?_, hadd⟩
          have := castE_spec hce
          subst this
          simp only [RelV, RelX] at hx
          obtain ⟨pl', A, cap, hpl', hv, hb, hcap, hnil, hnn, hfull, hown, hwhole, hhas⟩ := hx
          rw [hpl] at hpl'
          cases hpl'
          have h0 : off = 0 ∧ len * e.w = pl.n := by
            cases c <;> simp [isWhole] at hwh
            · exact ⟨(hown rfl).1, (hown rfl).2.2.1⟩
            · exact hwhole rfl
          have hlen : l.length = len := by
            have h1 := row_len hH hob rfl hpl
            unfold rowLen at h1
            rw [hob] at h1
            simp only [mul1_eq] at h1
            rw [← h0.2] at h1
            exact Nat.eq_of_mul_eq_mul_right hw h1
          rw [div_len (n := mul1 l.length e.w) (len := len) (by rw [mul1_eq, hlen]) hw]
          obtain ⟨rfl, h0⟩ := h0
          simp only [RelV, RelX]
          refine ⟨pl, A, cap, by rw [t.heap.len]; simp, hv, hb, hcap, fun hn => ⟨fun hf => (hnil hn).1 (hco (by cases own with | true => rfl | false => simp at hf)), (hnil hn).2⟩, fun hn => ⟨(hnn hn).1, fun hq => ?_⟩, fun hf => (by cases own <;> simp at hf), fun hf => ?_, fun _ => ⟨trivial, h0⟩, hhas⟩
          · rcases hq with hq | hq
            · exact (hnn hn).2 (.inl hq)
            · have : own = true := by cases own with | true => rfl | false => simp at hq
              exact (hnn hn).2 (.inr (hco this))
          · have : own = true := by cases own with | true => rfl | false => simp at hf
            exact ⟨trivial, (hown (hco this)).2⟩
        · cases hq
      · cases hq
    · cases hq
  have deep : ∀ (src' : Src), setSrc st1.tmps src' st1.heap.length (mul1 l.length e.w) e.w own = st1.tmps → (∀ v, drowSrc st chk e src' own pin = (match valAt st src' with
      | some .nils => if pinOk chk pin none true = true then some ((⟨none, true, own, true⟩ : Act), ([] : List e.den)) else none
      | some (.sl b _ _ s c) => if s = e.w ∧ (own = true → c = .own) ∧ isWhole c = true then
          match st.heap[b]? with
          | some (some ⟨.drow d, o, op⟩) => if (own = true → o = true) ∧ pinOk chk pin op true = true then (match castE e d with | some l => some (⟨some b, true, own, true⟩, l) | none => none) else none
          | _ => none
        else none
      | _ => none) ∨ v = ()) → drowSrc st chk e src' own pin = some (ac, l) →
      ∃ pl, Told M st B w a (acts ++ [ac]) (M1 ++ [pl]) ⟨setSrc st1.tmps src' st1.heap.length (mul1 l.length e.w) e.w own, st1.heap ++ [some ⟨.drow ⟨e, l⟩, own, pin⟩]⟩ := by
    intro src' hset _ hq
    have hq' : (match valAt st src' with
      | some .nils => if pinOk chk pin none true = true then some ((⟨none, true, own, true⟩ : Act), ([] : List e.den)) else none
      | some (.sl b _ _ s c) => if s = e.w ∧ (own = true → c = .own) ∧ isWhole c = true then
          match st.heap[b]? with
          | some (some ⟨.drow d, o, op⟩) => if (own = true → o = true) ∧ pinOk chk pin op true = true then (match castE e d with | some l => some (⟨some b, true, own, true⟩, l) | none => none) else none
          | _ => none
        else none
      | _ => none) = some (ac, l) ∨ ∃ b, src' = .same b := by
      cases src' with
      | same b => exact .inr ⟨b, rfl⟩
      | _ => exact .inl hq
    rcases hq' with hq' | ⟨b, rfl⟩
    · cases hx : valAt st src' with
      | none => rw [hx] at hq'; cases hq'
      | some x =>
        rw [hx] at hq'
        obtain ⟨vs, hvs⟩ := valAt_rel ht hH hx
        have : ∃ v, vs = [v] := by
          have hl := RelX_length hvs
          have : width x = 1 := by
            cases x <;> first | rfl | (cases hq')
          rw [this] at hl
          exact List.length_eq_one_iff.1 hl
        obtain ⟨v, rfl⟩ := this
        obtain ⟨pl, _, h2⟩ := val _ _ hvs hq'
        rw [hset]
        exact ⟨pl, h2 _ (t.tmps.mono (hE pl))⟩
    · simp only [drowSrc] at hq
      split at hq
      · rename_i d o op hob
        split at hq
        case isFalse => cases hq
        rename_i hoo
        split at hq
        · rename_i l' hce
          cases hq
          obtain ⟨pl, _, hadd⟩ := same b d o op hob hoo.1 hoo.2 hce rfl
          exact ⟨pl, hadd _ (t.tmps.mono (hE pl))⟩
        · cases hq
      · cases hq
  cases src with
  | same b => exact deep _ rfl (fun _ => .inr rfl) h
  | slot t' =>
    obtain ⟨pl, h1, h2⟩ := val _ _ (ht.2 t') h
    refine ⟨pl, h2 _ ?_⟩
    have g1 := (t.tmps.mono (hE pl)).put h1 t'
    have g2 := congrArg Act.tmps (put_self (a := ⟨a, []⟩) (d := t'))
    simp only [Go.Act.put] at g2
    rw [g2] at g1
    exact g1
  | cell p j => exact deep _ rfl (fun _ => .inr rfl) h
  | cap p j => exact deep _ rfl (fun _ => .inr rfl) h
  | part p j => exact deep _ rfl (fun _ => .inr rfl) h

theorem extI_sound {M : List Place} {st : St} {B : Base} {w : World} {a : Array Value} (ht : RelT M st.tmps a) (hH : RelH M st.heap B w) {chk : Bool} (hB : chk = false → ∀ k pl, B.pin k pl) : ∀ {its : List Item} {acc : List Ty} {rest : D acc} {acts : List Act} {d : D (tysI its acc)} {M1 : List Place} {st1 : St},
    Told M st B w a acts M1 st1 → extI st chk its acc rest acts = some d → (∃ M2, Told M st B w a (acts ++ actsI st chk its) M2 (bldI its acc d st1).1) ∧ (bldI its acc d st1).2 = rest
  | [], acc, rest, acts, d, M1, st1, t, h => by
    simp only [extI, Option.some.injEq] at h
    subst h
    exact ⟨⟨M1, by simpa [actsI, bldI] using t⟩, rfl⟩
  | it :: its, acc, rest, acts, d, M1, st1, t, h => by
    have keepT : ∀ (t' : Nat) (x : AV), RelV M1 x (a.getD t' undef) → Told M st B w a acts M1 ⟨st1.tmps.set t' x, st1.heap⟩ := by
      intro t' x hx
      have h1 := t.tmps.put hx t'
      have h2 := congrArg Go.Act.tmps (put_self (a := ⟨a, []⟩) (d := t'))
      simp only [Go.Act.put] at h2
      rw [h2] at h1
      exact ⟨h1, t.heap, t.len, t.act, t.fz, t.zf⟩
    cases it with
    | row k sz src own pin =>
      simp only [extI] at h
      split at h
      · rename_i ac l hr
        split at h
        · rename_i hc
          obtain ⟨hs, hf⟩ := hc
          split at h
          · rename_i d' hd
            cases h
            obtain ⟨pl, t2⟩ := rowSrc_sound ht hH hB t hr hs hf
            have r := extI_sound (its := its) ht hH hB t2 hd
            simp only [bldI, actsI, hr]
            rw [List.append_assoc] at r
            exact r
          · cases h
        · cases h
      · cases h
    | drow e src own pin =>
      simp only [extI] at h
      split at h
      · rename_i ac l hr
        split at h
        · rename_i hf
          split at h
          · rename_i d' hd
            cases h
            obtain ⟨pl, t2⟩ := drowSrc_sound ht hH hB t hr hf
            have r := extI_sound (its := its) ht hH hB t2 hd
            simp only [bldI, actsI, hr]
            rw [List.append_assoc] at r
            exact r
          · cases h
        · cases h
      · cases h
    | segs cs src own pin =>
      simp only [extI] at h
      split at h
      · rename_i b hb
        split at h
        · rename_i xs o op hob
          split at h
          · rename_i hc
            obtain ⟨ho, hf, hpk⟩ := hc
            split at h
            · rename_i d' hd
              obtain ⟨pl, hpl, hok⟩ := hH.obj b _ hob
              have hE : Ext M1 (M1 ++ [pl]) := Ext.snoc M1 _
              have hvs : ∃ vs, RelC M xs vs ∧ (∀ xs', RelC M1 xs' vs → ObjOk M1 ⟨.segs xs', own, pin⟩ pl B w) := by
                rcases hok with ⟨n1, n2, n3⟩ | ⟨n1, cs', el, fz, g1, g2, g3, g4, g5⟩
                · exact ⟨_, n3, fun xs' hx' => .inl ⟨n1, n2, hx'⟩⟩
                · exact ⟨_, g4, fun xs' hx' => .inr ⟨n1, cs', el, fz, g1, g2, g3, hx', fun h => g5 (ho h)⟩⟩
              obtain ⟨vs, hv1, hv2⟩ := hvs
              obtain ⟨c1, c2⟩ := extC_sound t h hv1
              have t2 := t.add hH (ac := ⟨some b, true, own, false⟩) (hv2 _ c1) rfl (fun b' hb' => (by cases hb'; exact ⟨hf, _, pl, hob, hpl, rfl, rfl, ho, fun _ => rfl⟩)) (pin_sound hH hB hob hpl hpk (fun _ => rfl)) ⟨fun h => (by cases h), fun k ob h => ⟨b, pl, hpl, h⟩⟩ (fun h => (by cases h)) (t.tmps.mono hE)
              have r := extI_sound (its := its) ht hH hB t2 hd
              simp only [bldI, actsI, hb]
              rw [c2]
              rw [List.append_assoc] at r
              exact r
            · cases h
          · cases h
        · cases h
      · cases h
    | drop =>
      simp only [extI] at h
      have hE : Ext M1 (M1 ++ [⟨true, 0, 0, 0, 0, noFz⟩]) := Ext.snoc M1 _
      have t2 : Told M st B w a (acts ++ [⟨none, false, false, false⟩]) (M1 ++ [⟨true, 0, 0, 0, 0, noFz⟩]) ⟨st1.tmps, st1.heap ++ [none]⟩ := by
        have hlen := t.len
        have hlen1 := t.heap.len
        refine ⟨t.tmps.mono hE, t.heap.addNone _ (fun k ob h => by cases h), by simp [hlen], fun i ac' hac => ?_, fun k ob h => (t.fz k ob h).left _, fun k ob h => t.zf k ob (FzAt.snoc rfl h)⟩
        rw [List.getElem?_append] at hac
        split at hac
        · obtain ⟨p1, hp1, h1, h2, h3, h4⟩ := t.act i ac' hac
          refine ⟨p1, by rw [List.getElem?_append_left (by omega)]; exact hp1, h1, h2, fun oi hoi => ?_, fun hr => ?_⟩
          · rw [List.getElem?_append_left (by omega)] at hoi
            exact h3 oi hoi
          · obtain ⟨c', o', pn', ho', hc'⟩ := h4 hr
            exact ⟨c', o', pn', by rw [List.getElem?_append_left (by omega)]; exact ho', hc'⟩
        · have h0 : i - acts.length = 0 := by
            rcases Nat.eq_zero_or_pos (i - acts.length) with h | h
            · exact h
            · rw [List.getElem?_eq_none (by simp; omega)] at hac; cases hac
          rw [h0] at hac
          simp at hac
          subst hac
          have hi : i = M1.length := by omega
          subst hi
          refine ⟨_, by simp, fun b hb => (by cases hb), ⟨fun _ => ⟨fun _ => rfl, fun h => by cases h⟩, fun k ob h => by cases h⟩, fun oi hoi => ?_, fun hr => (by cases hr)⟩
          rw [← hlen1] at hoi
          simp at hoi
      have r := extI_sound (its := its) ht hH hB t2 h
      simp only [bldI, actsI]
      rw [List.append_assoc] at r
      exact r
    | slot t' ty =>
      simp only [extI] at h
      split at h
      · rename_i v d' hv hd
        cases h
        have r := extI_sound (its := its) ht hH hB (keepT t' _ (getT_rel (fun _ => t.fz) hv (ht.2 t'))) hd
        simp only [bldI, actsI]
        exact r
      · cases h
    | const t' x =>
      simp only [extI] at h
      split at h
      · rename_i hs
        have r := extI_sound (its := its) ht hH hB (keepT t' _ (sameA_rel hs (ht.2 t'))) h
        simp only [bldI, actsI]
        exact r
      · cases h
    | sl t' b sz c =>
      simp only [extI, Bool.and_eq_true, decide_eq_true_eq] at h
      split at h
      · rename_i hs
        have r := extI_sound (its := its) ht hH hB (keepT t' _ (slOk_sound t hs.1 hs.2 (ht.2 t'))) h
        simp only [bldI, actsI]
        exact r
      · cases h
    | ptr t' b wd =>
      simp only [extI] at h
      split at h
      · rename_i hs
        have r := extI_sound (its := its) ht hH hB (keepT t' _ (ptrOk_sound t hs (ht.2 t'))) h
        simp only [bldI, actsI]
        exact r
      · cases h
    | cells t' cs =>
      simp only [extI] at h
      split at h
      · rename_i xs hf
        split at h
        · rename_i d' hd
          have hx := ht.2 t'
          rw [hf] at hx
          obtain ⟨us, hv, hc⟩ := RelX_agg.1 hx
          obtain ⟨c1, c2⟩ := extC_sound t h hc
          have hx2 : RelV M1 (.agg (bldC st1.heap cs (tysI its acc) d).1) (a.getD t' undef) := RelX_agg.2 ⟨us, hv, c1⟩
          have r := extI_sound (its := its) ht hH hB (keepT t' _ hx2) hd
          simp only [bldI, actsI]
          rw [c2]
          exact r
        · cases h
      · cases h
    | fn t' f cs =>
      simp only [extI] at h
      split at h
      · rename_i f' caps hf
        split at h
        · rename_i hff
          subst hff
          split at h
          · rename_i d' hd
            have hx := ht.2 t'
            rw [hf] at hx
            simp only [RelV, RelX] at hx
            obtain ⟨x, y, hv, h1, h2⟩ := hx
            obtain ⟨c1, c2⟩ := extL_sound t h h2
            have hx2 : RelV M1 (.fn f' [] (bldC st1.heap cs (tysI its acc) d).1) (a.getD t' undef) := by
              simp only [RelV, RelX]
              exact ⟨x, y, hv, by rw [RelL_nil] at h1 ⊢; exact h1, c1⟩
            have r := extI_sound (its := its) ht hH hB (keepT t' _ hx2) hd
            simp only [bldI, actsI]
            rw [c2]
            exact r
          · cases h
        · cases h
      · cases h

end Go.AE

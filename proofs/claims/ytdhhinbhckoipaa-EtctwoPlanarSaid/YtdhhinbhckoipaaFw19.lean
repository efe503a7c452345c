/- The framework AE, part 19: tables of told functions and of told loops. -/
import Derived.Test.YtdhhinbhckoipaaFw18
set_option linter.unusedVariables false
set_option linter.unusedSimpArgs false
namespace Go.AE
open Go Go.RowKit

/-- A function that is told. -/
structure ToldF where
  f : FuncId
  n : Nat
  ins : List Item
  os : List Out
  F : D (tysI ins []) → Option (D (tysO os))

def ToldF.ok (P : Program) (t : ToldF) : Prop := FnSpec P t.f t.n t.ins t.os t.F

def toldAny : List ToldF → FuncId → Bool
  | [], _ => false
  | t :: r, f => if t.f = f then true else toldAny r f

/-- A call by the first told function whose arguments fit. -/
def smTry {ρ : Type} : List ToldF → FuncId → List AV → Heap → (AV → Heap → Option ρ) → Option ρ
  | [], _, _, _, _ => none
  | t :: r, f, args, H, K => if t.f = f then
      match extA t.n t.ins args H with
      | some _ => smRun t.n t.ins t.os t.F args H K
      | none => smTry r f args H K
    else smTry r f args H K

def toldAnyQ : List ToldF → FuncId → Bool
  | [], _ => false
  | t :: r, f => if t.f = f ∧ allTy t.os = true ∧ noOwn t.ins = true then true else toldAnyQ r f

def smTryQ {ρ : Type} : List ToldF → FuncId → List AV → Heap → (AV → Option ρ) → Option ρ
  | [], _, _, _, _ => none
  | t :: r, f, args, H, K => if t.f = f ∧ allTy t.os = true ∧ noOwn t.ins = true then
      match extA t.n t.ins args H with
      | some _ => smQRun t.n t.ins t.os t.F args H K
      | none => smTryQ r f args H K
    else smTryQ r f args H K

def envOf (l : List ToldF) (ρ : Type) : Env ρ :=
  ⟨fun f => if toldAny l f = true then some (smTry l f) else none, fun f => if toldAnyQ l f = true then some (smTryQ l f) else none⟩

def AllOk (P : Program) : List ToldF → Prop
  | [] => True
  | t :: r => t.ok P ∧ AllOk P r

theorem smTry_ok {P : Program} {ρ : Type} : ∀ {l : List ToldF}, AllOk P l → ∀ f, CalAt (ρ := ρ) P f (smTry l f)
  | [], _, f => fun args H K r h => by cases h
  | t :: l, hl, f => by
    intro args H K r h
    unfold smTry at h
    split at h
    · rename_i hf
      subst hf
      split at h
      · exact smRun_ok hl.1 args H K r h
      · exact smTry_ok hl.2 t.f args H K r h
    · exact smTry_ok hl.2 f args H K r h

theorem smTryQ_ok {P : Program} {ρ : Type} : ∀ {l : List ToldF}, AllOk P l → ∀ f, QCalAt (ρ := ρ) P f (smTryQ l f)
  | [], _, f => fun args H K r h => by cases h
  | t :: l, hl, f => by
    intro args H K r h
    unfold smTryQ at h
    split at h
    · rename_i hf
      obtain ⟨rfl, ha, hn⟩ := hf
      split at h
      · exact smQRun_ok hl.1 hn ha args H K r h
      · exact smTryQ_ok hl.2 t.f args H K r h
    · exact smTryQ_ok hl.2 f args H K r h

theorem envOf_ok {P : Program} {l : List ToldF} (h : AllOk P l) (ρ : Type) : EnvOk P (envOf l ρ) := by
  refine ⟨fun f s hs => ?_, fun f s hs => ?_⟩
  · simp only [envOf] at hs
    split at hs
    · cases hs; exact smTry_ok h f
    · cases hs
  · simp only [envOf] at hs
    split at hs
    · cases hs; exact smTryQ_ok h f
    · cases hs

/-- The calls by a table. -/
abbrev calT (P : Program) (l : List ToldF) : Cals := fun σ => evFn P (envOf l σ) 40
abbrev qcalT (l : List ToldF) : QCals := fun σ => qof (envOf l σ)

theorem calT_ok {P : Program} (hP : Callable P) {l : List ToldF} (h : AllOk P l) (σ : Type) (f : FuncId) : CalAt P f (calT P l σ f) := evFn_ok hP (envOf_ok h σ) 40 f
theorem qcalT_ok {P : Program} {l : List ToldF} (h : AllOk P l) (σ : Type) (f : FuncId) : QCalAt P f (qcalT l σ f) := qof_ok (envOf_ok h σ) f

/-! ### loops -/

def annOf {ρ : Type} : List (Nat × Ann ρ) → Nat → Option (Ann ρ)
  | [], _ => none
  | (i, a) :: r, id => if id = i then some a else annOf r id

/-- The told loops of a code. -/
def AnnsOk {ρ : Type} (P : Program) (c : Code) (l : List (Nat × Ann ρ)) : Prop :=
  ∀ (B : Base) (w : World) (id : Nat) (an : Ann ρ) (c' : Code), annOf l id = some an → (id, c') ∈ blocks c → AnnAt P false B w (.block id c') an

theorem annsOk_nil {ρ : Type} (P : Program) (c : Code) : AnnsOk (ρ := ρ) P c [] := fun _ _ _ _ _ h => by cases h

def blocksAt (c : Code) (id : Nat) : List Code := ((blocks c).filter fun p => p.1 == id).map (·.2)

theorem annsOk_cons {ρ : Type} {P : Program} {c body : Code} {id : Nat} {an : Ann ρ} {l : List (Nat × Ann ρ)} (hb : blocksAt c id = [.loop body])
    (h : ∀ B w, AnnAt P false B w (.block id (.loop body)) an) (hl : AnnsOk P c l) : AnnsOk P c ((id, an) :: l) := by
  intro B w id' an' c' ha hc
  unfold annOf at ha
  split at ha
  · rename_i hid
    subst hid
    cases ha
    have : c' ∈ blocksAt c id' := by
      unfold blocksAt
      rw [List.mem_map]
      exact ⟨(id', c'), by simp [hc], rfl⟩
    rw [hb, List.mem_singleton] at this
    subst this
    exact h B w
  · exact hl B w id' an' c' ha hc

/-- The loop in a block of a code. -/
def loopAt (c : Code) (id : Nat) : Code := match blocksAt c id with
  | [.loop b] => b
  | _ => .skip

def bodyOf (fn : Func) : Code := match fn.body with
  | some c => c
  | none => .skip

/-- The told function is what its body comes to. -/
theorem toldF_ok {P : Program} (hP : Callable P) {l : List ToldF} (hl : AllOk P l) {fn : Func} {t : ToldF} {anns : List (Nat × Ann (D (tysO t.os)))} (hf : P.funcs[t.f]? = some fn) (ha : AnnsOk P (bodyOf fn) anns)
    (h : ∀ d, evBody P (calT P l _) (qcalT l _) (annOf anns) t.f (bldS t.n t.ins d).tmps (bldS t.n t.ins d).heap (endO t.os) = t.F d) : t.ok P := by
  refine fnSpec_of hP (calT_ok hP hl) (qcalT_ok hl) (ann := annOf anns) (fun fn' c h1 h2 id an c' h3 h4 B w => ?_) h
  rw [hf] at h1
  cases h1
  unfold bodyOf at ha
  rw [h2] at ha
  exact ha B w id an c' h3 h4

theorem toldS_ok {P : Program} (hP : Callable P) {l : List ToldF} (hl : AllOk P l) {nt : Nat} {ins outs : List Item} {id : Nat} {body : Code}
    {L : Nat → D (tysI ins []) → Option (D (tysI outs []))} {anns : List (Nat × Ann (D (tysI outs [])))} (ha : AnnsOk P body anns) (h0 : ∀ d, L 0 d = none)
    (hs : ∀ k d, evCode P (calT P l _) (qcalT l _) (annOf anns) body (bldS nt ins d) (kS nt ins outs id (L k)) = L (k + 1) d) (F : Nat) {ρ : Type} (B : Base) (w : World) :
    AnnAt (ρ := ρ) P false B w (.block id (.loop body)) (annS nt ins outs (L F)) :=
  annS_ok hP (calT_ok hP hl) (qcalT_ok hl) (ann := annOf anns) (fun id an c' h1 h2 => ha B w id an c' h1 h2) h0 hs F

theorem toldX_ok {P : Program} (hP : Callable P) {l : List ToldF} (hl : AllOk P l) {nt : Nat} {ins outX outs : List Item} {e2 : Exit} {id : Nat} {body : Code}
    {L : Nat → D (tysI ins []) → Option (D (tysI outX []) ⊕ D (tysI outs []))} {anns : List (Nat × Ann (D (tysI outX []) ⊕ D (tysI outs [])))} (ha : AnnsOk P body anns) (h0 : ∀ d, L 0 d = none)
    (hs : ∀ k d, evCode P (calT P l _) (qcalT l _) (annOf anns) body (bldS nt ins d) (kX nt ins outX outs id e2 (L k)) = L (k + 1) d) (he : e2 = .ret ∨ ∃ j, e2 = .exit j ∧ j ≠ id) (F : Nat) {ρ : Type} (B : Base) (w : World) :
    AnnAt (ρ := ρ) P false B w (.block id (.loop body)) (annX nt ins outX outs e2 (L F)) :=
  annX_ok hP (calT_ok hP hl) (qcalT_ok hl) (ann := annOf anns) (fun id an c' h1 h2 => ha B w id an c' h1 h2) h0 hs he F

end Go.AE

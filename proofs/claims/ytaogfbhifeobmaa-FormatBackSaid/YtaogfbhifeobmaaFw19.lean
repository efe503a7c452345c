/- The framework AE, part 19: tables of told functions and of told loops. -/
import Derived.Test.YtaogfbhifeobmaaFw18
set_option linter.unusedVariables false
set_option linter.unusedSimpArgs false
namespace Go.AE
open Go Go.RowKit

/-- A function that is told. -/
structure ToldF where
  f : FuncId
  n : Nat
  ins : List Item
  os : List Out
  F : D (tysI ins []) → Option (D (tysO os))

def ToldF.ok (P : Program) (t : ToldF) : Prop := FnSpec P t.f t.n t.ins t.os t.F

def toldAny : List ToldF → FuncId → Bool
  | [], _ => false
  | t :: r, f => if t.f = f then true else toldAny r f

/-- A call by the first told function whose arguments fit. -/
def smTry {ρ : Type} : List ToldF → FuncId → List AV → Heap → (AV → Heap → Option ρ) → Option ρ
  | [], _, _, _, _ => none
  | t :: r, f, args, H, K => if t.f = f then
      match extA t.n t.ins args H with
      | some _ => smRun t.n t.ins t.os t.F args H K
      | none => smTry r f args H K
    else smTry r f args H K

def toldAnyQ : List ToldF → FuncId → Bool
  | [], _ => false
  | t :: r, f => if t.f = f ∧ allTy t.os = true ∧ noOwn t.ins = true then true else toldAnyQ r f

def smTryQ {ρ : Type} : List ToldF → FuncId → List AV → Heap → (AV → Option ρ) → Option ρ
  | [], _, _, _, _ => none
  | t :: r, f, args, H, K => if t.f = f ∧ allTy t.os = true ∧ noOwn t.ins = true then
      match extA t.n t.ins args H with
      | some _ => smQRun t.n t.ins t.os t.F args H K
      | none => smTryQ r f args H K
    else smTryQ r f args H K

def envOf (l : List ToldF) (ρ : Type) : Env ρ :=
  ⟨fun f => if toldAny l f = true then some (smTry l f) else none, fun f => if toldAnyQ l f = true then some (smTryQ l f) else none⟩

def AllOk (P : Program) : List ToldF → Prop
  | [] => True
  | t :: r => t.ok P ∧ AllOk P r

theorem smTry_ok {P : Program} {ρ : Type} : ∀ {l : List ToldF}, AllOk P l → ∀ f, CalAt (ρ := ρ) P f (smTry l f)
  | [], _, f => fun args H K r h => by cases h
  | t :: l, hl, f => by
    intro args H K r h
    unfold smTry at h
    split at h
    · rename_i hf
      subst hf
      split at h
      · exact smRun_ok hl.1 args H K r h
      · exact smTry_ok hl.2 t.f args H K r h
    · exact smTry_ok hl.2 f args H K r h

theorem smTryQ_ok {P : Program} {ρ : Type} : ∀ {l : List ToldF}, AllOk P l → ∀ f, QCalAt (ρ := ρ) P f (smTryQ l f)
  | [], _, f => fun args H K r h => by cases h
  | t :: l, hl, f => by
    intro args H K r h
    unfold smTryQ at h
    split at h
    · rename_i hf
      obtain ⟨rfl, ha, hn⟩ := hf
      split at h
      · exact smQRun_ok hl.1 hn ha args H K r h
      · exact smTryQ_ok hl.2 t.f args H K r h
    · exact smTryQ_ok hl.2 f args H K r h

theorem envOf_ok {P : Program} {l : List ToldF} (h : AllOk P l) (ρ : Type) : EnvOk P (envOf l ρ) := by
  refine ⟨fun f s hs => ?_, fun f s hs => ?_⟩
  · simp only [envOf] at hs
    split at hs
    · cases hs; exact smTry_ok h f
    · cases hs
  · simp only [envOf] at hs
    split at hs
    · cases hs; exact smTryQ_ok h f
    · cases hs

/-- The calls by a table. -/
abbrev calT (P : Program) (l : List ToldF) : Cals := fun σ => evFn P (envOf l σ) 40
abbrev qcalT (l : List ToldF) : QCals := fun σ => qof (envOf l σ)

theorem calT_ok {P : Program} (hP : Callable P) {l : List ToldF} (h : AllOk P l) (σ : Type) (f : FuncId) : CalAt P f (calT P l σ f) := evFn_ok hP (envOf_ok h σ) 40 f
theorem qcalT_ok {P : Program} {l : List ToldF} (h : AllOk P l) (σ : Type) (f : FuncId) : QCalAt P f (qcalT l σ f) := qof_ok (envOf_ok h σ) f

/-! ### loops -/

def annOf {ρ : Type} : List (Nat × Ann ρ) → Nat → Option (Ann ρ)
  | [], _ => none
  | (i, a) :: r, id => if id = i then some a else annOf r id

/-- The told loops of a code. -/
def AnnsOk {ρ : Type} (P : Program) (c : Code) (l : List (Nat × Ann ρ)) : Prop :=
  ∀ (B : Base) (w : World) (id : Nat) (an : Ann ρ) (c' : Code), annOf l id = some an → (id, c') ∈ blocks c → AnnAt P false B w (.block id c') an

theorem annsOk_nil {ρ : Type} (P : Program) (c : Code) : AnnsOk (ρ := ρ) P c [] := fun _ _ _ _ _ h => by cases h

def blocksAt (c : Code) (id : Nat) : List Code := ((blocks c).filter fun p => p.1 == id).map (·.2)

theorem annsOk_cons {ρ : Type} {P : Program} {c body : Code} {id : Nat} {an : Ann ρ} {l : List (Nat × Ann ρ)} (hb : blocksAt c id = [.loop body])
    (h : ∀ B w, AnnAt P false B w (.block id (.loop body)) an) (hl : AnnsOk P c l) : AnnsOk P c ((id, an) :: l) := by
  intro B w id' an' c' ha hc
  unfold annOf at ha
  split at ha
  · rename_i hid
    subst hid
    cases ha
    have : c' ∈ blocksAt c id' := by
      unfold blocksAt
      rw [List.mem_map]
      exact ⟨(id', c'), by simp [hc], rfl⟩
    rw [hb, List.mem_singleton] at this
    subst this
    exact h B w
  · exact hl B w id' an' c' ha hc

/-- The loop in a block of a code. -/
def loopAt (c : Code) (id : Nat) : Code := match blocksAt c id with
  | [.loop b] => b
  | _ => .skip

def bodyOf (fn : Func) : Code := match fn.body with
  | some c => c
  | none => .skip

/-- The told function is what its body comes to. -/
theorem toldF_ok {P : Program} (hP : Callable P) {l : List ToldF} (hl : AllOk P l) {fn : Func} {t : ToldF} {anns : List (Nat × Ann (D (tysO t.os)))} (hf : P.funcs[t.f]? = some fn) (ha : AnnsOk P (bodyOf fn) anns)
    (h : ∀ d, evBody P (calT P l _) (qcalT l _) (annOf anns) t.f (bldS t.n t.ins d).tmps (bldS t.n t.ins d).heap (endO t.os) = t.F d) : t.ok P := by
  refine fnSpec_of hP (calT_ok hP hl) (qcalT_ok hl) (ann := annOf anns) (fun fn' c h1 h2 id an c' h3 h4 B w => ?_) h
  rw [hf] at h1
  cases h1
  unfold bodyOf at ha
  rw [h2] at ha
  exact ha B w id an c' h3 h4

theorem toldS_ok {P : Program} (hP : Callable P) {l : List ToldF} (hl : AllOk P l) {nt : Nat} {ins outs : List Item} {id : Nat} {body : Code}
    {L : Nat → D (tysI ins []) → Option (D (tysI outs []))} {anns : List (Nat × Ann (D (tysI outs [])))} (ha : AnnsOk P body anns) (h0 : ∀ d, L 0 d = none)
    (hs : ∀ k d, evCode P (calT P l _) (qcalT l _) (annOf anns) body (bldS nt ins d) (kS nt ins outs id (L k)) = L (k + 1) d) (F : Nat) {ρ : Type} (B : Base) (w : World) :
    AnnAt (ρ := ρ) P false B w (.block id (.loop body)) (annS nt ins outs (L F)) :=
  annS_ok hP (calT_ok hP hl) (qcalT_ok hl) (ann := annOf anns) (fun id an c' h1 h2 => ha B w id an c' h1 h2) h0 hs F

theorem toldX_ok {P : Program} (hP : Callable P) {l : List ToldF} (hl : AllOk P l) {nt : Nat} {ins outX outs : List Item} {e2 : Exit} {id : Nat} {body : Code}
    {L : Nat → D (tysI ins []) → Option (D (tysI outX []) ⊕ D (tysI outs []))} {anns : List (Nat × Ann (D (tysI outX []) ⊕ D (tysI outs [])))} (ha : AnnsOk P body anns) (h0 : ∀ d, L 0 d = none)
    (hs : ∀ k d, evCode P (calT P l _) (qcalT l _) (annOf anns) body (bldS nt ins d) (kX nt ins outX outs id e2 (L k)) = L (k + 1) d) (he : e2 = .ret ∨ ∃ j, e2 = .exit j ∧ j ≠ id) (F : Nat) {ρ : Type} (B : Base) (w : World) :
    AnnAt (ρ := ρ) P false B w (.block id (.loop body)) (annX nt ins outX outs e2 (L F)) :=
  annX_ok hP (calT_ok hP hl) (qcalT_ok hl) (ann := annOf anns) (fun id an c' h1 h2 => ha B w id an c' h1 h2) h0 hs he F

/-! ### the same in few words -/

@[reducible] def u0 {R U : Type} (f : R) (_ : U) : R := f
@[reducible] def u1 {R U A0 : Type} (f : A0 → R) (d : A0 × U) : R := u0 (f d.1) d.2
@[reducible] def u2 {R U A0 A1 : Type} (f : A0 → A1 → R) (d : A0 × A1 × U) : R := u1 (f d.1) d.2
@[reducible] def u3 {R U A0 A1 A2 : Type} (f : A0 → A1 → A2 → R) (d : A0 × A1 × A2 × U) : R := u2 (f d.1) d.2
@[reducible] def u4 {R U A0 A1 A2 A3 : Type} (f : A0 → A1 → A2 → A3 → R) (d : A0 × A1 × A2 × A3 × U) : R := u3 (f d.1) d.2
@[reducible] def u5 {R U A0 A1 A2 A3 A4 : Type} (f : A0 → A1 → A2 → A3 → A4 → R) (d : A0 × A1 × A2 × A3 × A4 × U) : R := u4 (f d.1) d.2
@[reducible] def u6 {R U A0 A1 A2 A3 A4 A5 : Type} (f : A0 → A1 → A2 → A3 → A4 → A5 → R) (d : A0 × A1 × A2 × A3 × A4 × A5 × U) : R := u5 (f d.1) d.2
@[reducible] def u7 {R U A0 A1 A2 A3 A4 A5 A6 : Type} (f : A0 → A1 → A2 → A3 → A4 → A5 → A6 → R) (d : A0 × A1 × A2 × A3 × A4 × A5 × A6 × U) : R := u6 (f d.1) d.2
@[reducible] def u8 {R U A0 A1 A2 A3 A4 A5 A6 A7 : Type} (f : A0 → A1 → A2 → A3 → A4 → A5 → A6 → A7 → R) (d : A0 × A1 × A2 × A3 × A4 × A5 × A6 × A7 × U) : R := u7 (f d.1) d.2
@[reducible] def u9 {R U A0 A1 A2 A3 A4 A5 A6 A7 A8 : Type} (f : A0 → A1 → A2 → A3 → A4 → A5 → A6 → A7 → A8 → R) (d : A0 × A1 × A2 × A3 × A4 × A5 × A6 × A7 × A8 × U) : R := u8 (f d.1) d.2
@[reducible] def u10 {R U A0 A1 A2 A3 A4 A5 A6 A7 A8 A9 : Type} (f : A0 → A1 → A2 → A3 → A4 → A5 → A6 → A7 → A8 → A9 → R) (d : A0 × A1 × A2 × A3 × A4 × A5 × A6 × A7 × A8 × A9 × U) : R := u9 (f d.1) d.2
@[reducible] def u11 {R U A0 A1 A2 A3 A4 A5 A6 A7 A8 A9 A10 : Type} (f : A0 → A1 → A2 → A3 → A4 → A5 → A6 → A7 → A8 → A9 → A10 → R) (d : A0 × A1 × A2 × A3 × A4 × A5 × A6 × A7 × A8 × A9 × A10 × U) : R := u10 (f d.1) d.2
@[reducible] def u12 {R U A0 A1 A2 A3 A4 A5 A6 A7 A8 A9 A10 A11 : Type} (f : A0 → A1 → A2 → A3 → A4 → A5 → A6 → A7 → A8 → A9 → A10 → A11 → R) (d : A0 × A1 × A2 × A3 × A4 × A5 × A6 × A7 × A8 × A9 × A10 × A11 × U) : R := u11 (f d.1) d.2
@[reducible] def u13 {R U A0 A1 A2 A3 A4 A5 A6 A7 A8 A9 A10 A11 A12 : Type} (f : A0 → A1 → A2 → A3 → A4 → A5 → A6 → A7 → A8 → A9 → A10 → A11 → A12 → R) (d : A0 × A1 × A2 × A3 × A4 × A5 × A6 × A7 × A8 × A9 × A10 × A11 × A12 × U) : R := u12 (f d.1) d.2
@[reducible] def u14 {R U A0 A1 A2 A3 A4 A5 A6 A7 A8 A9 A10 A11 A12 A13 : Type} (f : A0 → A1 → A2 → A3 → A4 → A5 → A6 → A7 → A8 → A9 → A10 → A11 → A12 → A13 → R) (d : A0 × A1 × A2 × A3 × A4 × A5 × A6 × A7 × A8 × A9 × A10 × A11 × A12 × A13 × U) : R := u13 (f d.1) d.2
@[reducible] def u15 {R U A0 A1 A2 A3 A4 A5 A6 A7 A8 A9 A10 A11 A12 A13 A14 : Type} (f : A0 → A1 → A2 → A3 → A4 → A5 → A6 → A7 → A8 → A9 → A10 → A11 → A12 → A13 → A14 → R) (d : A0 × A1 × A2 × A3 × A4 × A5 × A6 × A7 × A8 × A9 × A10 × A11 × A12 × A13 × A14 × U) : R := u14 (f d.1) d.2
@[reducible] def u16 {R U A0 A1 A2 A3 A4 A5 A6 A7 A8 A9 A10 A11 A12 A13 A14 A15 : Type} (f : A0 → A1 → A2 → A3 → A4 → A5 → A6 → A7 → A8 → A9 → A10 → A11 → A12 → A13 → A14 → A15 → R) (d : A0 × A1 × A2 × A3 × A4 × A5 × A6 × A7 × A8 × A9 × A10 × A11 × A12 × A13 × A14 × A15 × U) : R := u15 (f d.1) d.2
@[reducible] def u17 {R U A0 A1 A2 A3 A4 A5 A6 A7 A8 A9 A10 A11 A12 A13 A14 A15 A16 : Type} (f : A0 → A1 → A2 → A3 → A4 → A5 → A6 → A7 → A8 → A9 → A10 → A11 → A12 → A13 → A14 → A15 → A16 → R) (d : A0 × A1 × A2 × A3 × A4 × A5 × A6 × A7 × A8 × A9 × A10 × A11 × A12 × A13 × A14 × A15 × A16 × U) : R := u16 (f d.1) d.2
@[reducible] def u18 {R U A0 A1 A2 A3 A4 A5 A6 A7 A8 A9 A10 A11 A12 A13 A14 A15 A16 A17 : Type} (f : A0 → A1 → A2 → A3 → A4 → A5 → A6 → A7 → A8 → A9 → A10 → A11 → A12 → A13 → A14 → A15 → A16 → A17 → R) (d : A0 × A1 × A2 × A3 × A4 × A5 × A6 × A7 × A8 × A9 × A10 × A11 × A12 × A13 × A14 × A15 × A16 × A17 × U) : R := u17 (f d.1) d.2
@[reducible] def u19 {R U A0 A1 A2 A3 A4 A5 A6 A7 A8 A9 A10 A11 A12 A13 A14 A15 A16 A17 A18 : Type} (f : A0 → A1 → A2 → A3 → A4 → A5 → A6 → A7 → A8 → A9 → A10 → A11 → A12 → A13 → A14 → A15 → A16 → A17 → A18 → R) (d : A0 × A1 × A2 × A3 × A4 × A5 × A6 × A7 × A8 × A9 × A10 × A11 × A12 × A13 × A14 × A15 × A16 × A17 × A18 × U) : R := u18 (f d.1) d.2
@[reducible] def u20 {R U A0 A1 A2 A3 A4 A5 A6 A7 A8 A9 A10 A11 A12 A13 A14 A15 A16 A17 A18 A19 : Type} (f : A0 → A1 → A2 → A3 → A4 → A5 → A6 → A7 → A8 → A9 → A10 → A11 → A12 → A13 → A14 → A15 → A16 → A17 → A18 → A19 → R) (d : A0 × A1 × A2 × A3 × A4 × A5 × A6 × A7 × A8 × A9 × A10 × A11 × A12 × A13 × A14 × A15 × A16 × A17 × A18 × A19 × U) : R := u19 (f d.1) d.2
@[reducible] def u21 {R U A0 A1 A2 A3 A4 A5 A6 A7 A8 A9 A10 A11 A12 A13 A14 A15 A16 A17 A18 A19 A20 : Type} (f : A0 → A1 → A2 → A3 → A4 → A5 → A6 → A7 → A8 → A9 → A10 → A11 → A12 → A13 → A14 → A15 → A16 → A17 → A18 → A19 → A20 → R) (d : A0 × A1 × A2 × A3 × A4 × A5 × A6 × A7 × A8 × A9 × A10 × A11 × A12 × A13 × A14 × A15 × A16 × A17 × A18 × A19 × A20 × U) : R := u20 (f d.1) d.2
@[reducible] def u22 {R U A0 A1 A2 A3 A4 A5 A6 A7 A8 A9 A10 A11 A12 A13 A14 A15 A16 A17 A18 A19 A20 A21 : Type} (f : A0 → A1 → A2 → A3 → A4 → A5 → A6 → A7 → A8 → A9 → A10 → A11 → A12 → A13 → A14 → A15 → A16 → A17 → A18 → A19 → A20 → A21 → R) (d : A0 × A1 × A2 × A3 × A4 × A5 × A6 × A7 × A8 × A9 × A10 × A11 × A12 × A13 × A14 × A15 × A16 × A17 × A18 × A19 × A20 × A21 × U) : R := u21 (f d.1) d.2
@[reducible] def u23 {R U A0 A1 A2 A3 A4 A5 A6 A7 A8 A9 A10 A11 A12 A13 A14 A15 A16 A17 A18 A19 A20 A21 A22 : Type} (f : A0 → A1 → A2 → A3 → A4 → A5 → A6 → A7 → A8 → A9 → A10 → A11 → A12 → A13 → A14 → A15 → A16 → A17 → A18 → A19 → A20 → A21 → A22 → R) (d : A0 × A1 × A2 × A3 × A4 × A5 × A6 × A7 × A8 × A9 × A10 × A11 × A12 × A13 × A14 × A15 × A16 × A17 × A18 × A19 × A20 × A21 × A22 × U) : R := u22 (f d.1) d.2
@[reducible] def u24 {R U A0 A1 A2 A3 A4 A5 A6 A7 A8 A9 A10 A11 A12 A13 A14 A15 A16 A17 A18 A19 A20 A21 A22 A23 : Type} (f : A0 → A1 → A2 → A3 → A4 → A5 → A6 → A7 → A8 → A9 → A10 → A11 → A12 → A13 → A14 → A15 → A16 → A17 → A18 → A19 → A20 → A21 → A22 → A23 → R) (d : A0 × A1 × A2 × A3 × A4 × A5 × A6 × A7 × A8 × A9 × A10 × A11 × A12 × A13 × A14 × A15 × A16 × A17 × A18 × A19 × A20 × A21 × A22 × A23 × U) : R := u23 (f d.1) d.2
@[reducible] def u25 {R U A0 A1 A2 A3 A4 A5 A6 A7 A8 A9 A10 A11 A12 A13 A14 A15 A16 A17 A18 A19 A20 A21 A22 A23 A24 : Type} (f : A0 → A1 → A2 → A3 → A4 → A5 → A6 → A7 → A8 → A9 → A10 → A11 → A12 → A13 → A14 → A15 → A16 → A17 → A18 → A19 → A20 → A21 → A22 → A23 → A24 → R) (d : A0 × A1 × A2 × A3 × A4 × A5 × A6 × A7 × A8 × A9 × A10 × A11 × A12 × A13 × A14 × A15 × A16 × A17 × A18 × A19 × A20 × A21 × A22 × A23 × A24 × U) : R := u24 (f d.1) d.2
@[reducible] def u26 {R U A0 A1 A2 A3 A4 A5 A6 A7 A8 A9 A10 A11 A12 A13 A14 A15 A16 A17 A18 A19 A20 A21 A22 A23 A24 A25 : Type} (f : A0 → A1 → A2 → A3 → A4 → A5 → A6 → A7 → A8 → A9 → A10 → A11 → A12 → A13 → A14 → A15 → A16 → A17 → A18 → A19 → A20 → A21 → A22 → A23 → A24 → A25 → R) (d : A0 × A1 × A2 × A3 × A4 × A5 × A6 × A7 × A8 × A9 × A10 × A11 × A12 × A13 × A14 × A15 × A16 × A17 × A18 × A19 × A20 × A21 × A22 × A23 × A24 × A25 × U) : R := u25 (f d.1) d.2
@[reducible] def u27 {R U A0 A1 A2 A3 A4 A5 A6 A7 A8 A9 A10 A11 A12 A13 A14 A15 A16 A17 A18 A19 A20 A21 A22 A23 A24 A25 A26 : Type} (f : A0 → A1 → A2 → A3 → A4 → A5 → A6 → A7 → A8 → A9 → A10 → A11 → A12 → A13 → A14 → A15 → A16 → A17 → A18 → A19 → A20 → A21 → A22 → A23 → A24 → A25 → A26 → R) (d : A0 × A1 × A2 × A3 × A4 × A5 × A6 × A7 × A8 × A9 × A10 × A11 × A12 × A13 × A14 × A15 × A16 × A17 × A18 × A19 × A20 × A21 × A22 × A23 × A24 × A25 × A26 × U) : R := u26 (f d.1) d.2
@[reducible] def u28 {R U A0 A1 A2 A3 A4 A5 A6 A7 A8 A9 A10 A11 A12 A13 A14 A15 A16 A17 A18 A19 A20 A21 A22 A23 A24 A25 A26 A27 : Type} (f : A0 → A1 → A2 → A3 → A4 → A5 → A6 → A7 → A8 → A9 → A10 → A11 → A12 → A13 → A14 → A15 → A16 → A17 → A18 → A19 → A20 → A21 → A22 → A23 → A24 → A25 → A26 → A27 → R) (d : A0 × A1 × A2 × A3 × A4 × A5 × A6 × A7 × A8 × A9 × A10 × A11 × A12 × A13 × A14 × A15 × A16 × A17 × A18 × A19 × A20 × A21 × A22 × A23 × A24 × A25 × A26 × A27 × U) : R := u27 (f d.1) d.2
@[reducible] def u29 {R U A0 A1 A2 A3 A4 A5 A6 A7 A8 A9 A10 A11 A12 A13 A14 A15 A16 A17 A18 A19 A20 A21 A22 A23 A24 A25 A26 A27 A28 : Type} (f : A0 → A1 → A2 → A3 → A4 → A5 → A6 → A7 → A8 → A9 → A10 → A11 → A12 → A13 → A14 → A15 → A16 → A17 → A18 → A19 → A20 → A21 → A22 → A23 → A24 → A25 → A26 → A27 → A28 → R) (d : A0 × A1 × A2 × A3 × A4 × A5 × A6 × A7 × A8 × A9 × A10 × A11 × A12 × A13 × A14 × A15 × A16 × A17 × A18 × A19 × A20 × A21 × A22 × A23 × A24 × A25 × A26 × A27 × A28 × U) : R := u28 (f d.1) d.2
@[reducible] def u30 {R U A0 A1 A2 A3 A4 A5 A6 A7 A8 A9 A10 A11 A12 A13 A14 A15 A16 A17 A18 A19 A20 A21 A22 A23 A24 A25 A26 A27 A28 A29 : Type} (f : A0 → A1 → A2 → A3 → A4 → A5 → A6 → A7 → A8 → A9 → A10 → A11 → A12 → A13 → A14 → A15 → A16 → A17 → A18 → A19 → A20 → A21 → A22 → A23 → A24 → A25 → A26 → A27 → A28 → A29 → R) (d : A0 × A1 × A2 × A3 × A4 × A5 × A6 × A7 × A8 × A9 × A10 × A11 × A12 × A13 × A14 × A15 × A16 × A17 × A18 × A19 × A20 × A21 × A22 × A23 × A24 × A25 × A26 × A27 × A28 × A29 × U) : R := u29 (f d.1) d.2
@[reducible] def u31 {R U A0 A1 A2 A3 A4 A5 A6 A7 A8 A9 A10 A11 A12 A13 A14 A15 A16 A17 A18 A19 A20 A21 A22 A23 A24 A25 A26 A27 A28 A29 A30 : Type} (f : A0 → A1 → A2 → A3 → A4 → A5 → A6 → A7 → A8 → A9 → A10 → A11 → A12 → A13 → A14 → A15 → A16 → A17 → A18 → A19 → A20 → A21 → A22 → A23 → A24 → A25 → A26 → A27 → A28 → A29 → A30 → R) (d : A0 × A1 × A2 × A3 × A4 × A5 × A6 × A7 × A8 × A9 × A10 × A11 × A12 × A13 × A14 × A15 × A16 × A17 × A18 × A19 × A20 × A21 × A22 × A23 × A24 × A25 × A26 × A27 × A28 × A29 × A30 × U) : R := u30 (f d.1) d.2
@[reducible] def u32 {R U A0 A1 A2 A3 A4 A5 A6 A7 A8 A9 A10 A11 A12 A13 A14 A15 A16 A17 A18 A19 A20 A21 A22 A23 A24 A25 A26 A27 A28 A29 A30 A31 : Type} (f : A0 → A1 → A2 → A3 → A4 → A5 → A6 → A7 → A8 → A9 → A10 → A11 → A12 → A13 → A14 → A15 → A16 → A17 → A18 → A19 → A20 → A21 → A22 → A23 → A24 → A25 → A26 → A27 → A28 → A29 → A30 → A31 → R) (d : A0 × A1 × A2 × A3 × A4 × A5 × A6 × A7 × A8 × A9 × A10 × A11 × A12 × A13 × A14 × A15 × A16 × A17 × A18 × A19 × A20 × A21 × A22 × A23 × A24 × A25 × A26 × A27 × A28 × A29 × A30 × A31 × U) : R := u31 (f d.1) d.2
@[reducible] def u33 {R U A0 A1 A2 A3 A4 A5 A6 A7 A8 A9 A10 A11 A12 A13 A14 A15 A16 A17 A18 A19 A20 A21 A22 A23 A24 A25 A26 A27 A28 A29 A30 A31 A32 : Type} (f : A0 → A1 → A2 → A3 → A4 → A5 → A6 → A7 → A8 → A9 → A10 → A11 → A12 → A13 → A14 → A15 → A16 → A17 → A18 → A19 → A20 → A21 → A22 → A23 → A24 → A25 → A26 → A27 → A28 → A29 → A30 → A31 → A32 → R) (d : A0 × A1 × A2 × A3 × A4 × A5 × A6 × A7 × A8 × A9 × A10 × A11 × A12 × A13 × A14 × A15 × A16 × A17 × A18 × A19 × A20 × A21 × A22 × A23 × A24 × A25 × A26 × A27 × A28 × A29 × A30 × A31 × A32 × U) : R := u32 (f d.1) d.2
@[reducible] def u34 {R U A0 A1 A2 A3 A4 A5 A6 A7 A8 A9 A10 A11 A12 A13 A14 A15 A16 A17 A18 A19 A20 A21 A22 A23 A24 A25 A26 A27 A28 A29 A30 A31 A32 A33 : Type} (f : A0 → A1 → A2 → A3 → A4 → A5 → A6 → A7 → A8 → A9 → A10 → A11 → A12 → A13 → A14 → A15 → A16 → A17 → A18 → A19 → A20 → A21 → A22 → A23 → A24 → A25 → A26 → A27 → A28 → A29 → A30 → A31 → A32 → A33 → R) (d : A0 × A1 × A2 × A3 × A4 × A5 × A6 × A7 × A8 × A9 × A10 × A11 × A12 × A13 × A14 × A15 × A16 × A17 × A18 × A19 × A20 × A21 × A22 × A23 × A24 × A25 × A26 × A27 × A28 × A29 × A30 × A31 × A32 × A33 × U) : R := u33 (f d.1) d.2
@[reducible] def u35 {R U A0 A1 A2 A3 A4 A5 A6 A7 A8 A9 A10 A11 A12 A13 A14 A15 A16 A17 A18 A19 A20 A21 A22 A23 A24 A25 A26 A27 A28 A29 A30 A31 A32 A33 A34 : Type} (f : A0 → A1 → A2 → A3 → A4 → A5 → A6 → A7 → A8 → A9 → A10 → A11 → A12 → A13 → A14 → A15 → A16 → A17 → A18 → A19 → A20 → A21 → A22 → A23 → A24 → A25 → A26 → A27 → A28 → A29 → A30 → A31 → A32 → A33 → A34 → R) (d : A0 × A1 × A2 × A3 × A4 × A5 × A6 × A7 × A8 × A9 × A10 × A11 × A12 × A13 × A14 × A15 × A16 × A17 × A18 × A19 × A20 × A21 × A22 × A23 × A24 × A25 × A26 × A27 × A28 × A29 × A30 × A31 × A32 × A33 × A34 × U) : R := u34 (f d.1) d.2
@[reducible] def u36 {R U A0 A1 A2 A3 A4 A5 A6 A7 A8 A9 A10 A11 A12 A13 A14 A15 A16 A17 A18 A19 A20 A21 A22 A23 A24 A25 A26 A27 A28 A29 A30 A31 A32 A33 A34 A35 : Type} (f : A0 → A1 → A2 → A3 → A4 → A5 → A6 → A7 → A8 → A9 → A10 → A11 → A12 → A13 → A14 → A15 → A16 → A17 → A18 → A19 → A20 → A21 → A22 → A23 → A24 → A25 → A26 → A27 → A28 → A29 → A30 → A31 → A32 → A33 → A34 → A35 → R) (d : A0 × A1 × A2 × A3 × A4 × A5 × A6 × A7 × A8 × A9 × A10 × A11 × A12 × A13 × A14 × A15 × A16 × A17 × A18 × A19 × A20 × A21 × A22 × A23 × A24 × A25 × A26 × A27 × A28 × A29 × A30 × A31 × A32 × A33 × A34 × A35 × U) : R := u35 (f d.1) d.2
@[reducible] def u37 {R U A0 A1 A2 A3 A4 A5 A6 A7 A8 A9 A10 A11 A12 A13 A14 A15 A16 A17 A18 A19 A20 A21 A22 A23 A24 A25 A26 A27 A28 A29 A30 A31 A32 A33 A34 A35 A36 : Type} (f : A0 → A1 → A2 → A3 → A4 → A5 → A6 → A7 → A8 → A9 → A10 → A11 → A12 → A13 → A14 → A15 → A16 → A17 → A18 → A19 → A20 → A21 → A22 → A23 → A24 → A25 → A26 → A27 → A28 → A29 → A30 → A31 → A32 → A33 → A34 → A35 → A36 → R) (d : A0 × A1 × A2 × A3 × A4 × A5 × A6 × A7 × A8 × A9 × A10 × A11 × A12 × A13 × A14 × A15 × A16 × A17 × A18 × A19 × A20 × A21 × A22 × A23 × A24 × A25 × A26 × A27 × A28 × A29 × A30 × A31 × A32 × A33 × A34 × A35 × A36 × U) : R := u36 (f d.1) d.2
@[reducible] def u38 {R U A0 A1 A2 A3 A4 A5 A6 A7 A8 A9 A10 A11 A12 A13 A14 A15 A16 A17 A18 A19 A20 A21 A22 A23 A24 A25 A26 A27 A28 A29 A30 A31 A32 A33 A34 A35 A36 A37 : Type} (f : A0 → A1 → A2 → A3 → A4 → A5 → A6 → A7 → A8 → A9 → A10 → A11 → A12 → A13 → A14 → A15 → A16 → A17 → A18 → A19 → A20 → A21 → A22 → A23 → A24 → A25 → A26 → A27 → A28 → A29 → A30 → A31 → A32 → A33 → A34 → A35 → A36 → A37 → R) (d : A0 × A1 × A2 × A3 × A4 × A5 × A6 × A7 × A8 × A9 × A10 × A11 × A12 × A13 × A14 × A15 × A16 × A17 × A18 × A19 × A20 × A21 × A22 × A23 × A24 × A25 × A26 × A27 × A28 × A29 × A30 × A31 × A32 × A33 × A34 × A35 × A36 × A37 × U) : R := u37 (f d.1) d.2
@[reducible] def u39 {R U A0 A1 A2 A3 A4 A5 A6 A7 A8 A9 A10 A11 A12 A13 A14 A15 A16 A17 A18 A19 A20 A21 A22 A23 A24 A25 A26 A27 A28 A29 A30 A31 A32 A33 A34 A35 A36 A37 A38 : Type} (f : A0 → A1 → A2 → A3 → A4 → A5 → A6 → A7 → A8 → A9 → A10 → A11 → A12 → A13 → A14 → A15 → A16 → A17 → A18 → A19 → A20 → A21 → A22 → A23 → A24 → A25 → A26 → A27 → A28 → A29 → A30 → A31 → A32 → A33 → A34 → A35 → A36 → A37 → A38 → R) (d : A0 × A1 × A2 × A3 × A4 × A5 × A6 × A7 × A8 × A9 × A10 × A11 × A12 × A13 × A14 × A15 × A16 × A17 × A18 × A19 × A20 × A21 × A22 × A23 × A24 × A25 × A26 × A27 × A28 × A29 × A30 × A31 × A32 × A33 × A34 × A35 × A36 × A37 × A38 × U) : R := u38 (f d.1) d.2
@[reducible] def u40 {R U A0 A1 A2 A3 A4 A5 A6 A7 A8 A9 A10 A11 A12 A13 A14 A15 A16 A17 A18 A19 A20 A21 A22 A23 A24 A25 A26 A27 A28 A29 A30 A31 A32 A33 A34 A35 A36 A37 A38 A39 : Type} (f : A0 → A1 → A2 → A3 → A4 → A5 → A6 → A7 → A8 → A9 → A10 → A11 → A12 → A13 → A14 → A15 → A16 → A17 → A18 → A19 → A20 → A21 → A22 → A23 → A24 → A25 → A26 → A27 → A28 → A29 → A30 → A31 → A32 → A33 → A34 → A35 → A36 → A37 → A38 → A39 → R) (d : A0 × A1 × A2 × A3 × A4 × A5 × A6 × A7 × A8 × A9 × A10 × A11 × A12 × A13 × A14 × A15 × A16 × A17 × A18 × A19 × A20 × A21 × A22 × A23 × A24 × A25 × A26 × A27 × A28 × A29 × A30 × A31 × A32 × A33 × A34 × A35 × A36 × A37 × A38 × A39 × U) : R := u39 (f d.1) d.2
@[reducible] def u41 {R U A0 A1 A2 A3 A4 A5 A6 A7 A8 A9 A10 A11 A12 A13 A14 A15 A16 A17 A18 A19 A20 A21 A22 A23 A24 A25 A26 A27 A28 A29 A30 A31 A32 A33 A34 A35 A36 A37 A38 A39 A40 : Type} (f : A0 → A1 → A2 → A3 → A4 → A5 → A6 → A7 → A8 → A9 → A10 → A11 → A12 → A13 → A14 → A15 → A16 → A17 → A18 → A19 → A20 → A21 → A22 → A23 → A24 → A25 → A26 → A27 → A28 → A29 → A30 → A31 → A32 → A33 → A34 → A35 → A36 → A37 → A38 → A39 → A40 → R) (d : A0 × A1 × A2 × A3 × A4 × A5 × A6 × A7 × A8 × A9 × A10 × A11 × A12 × A13 × A14 × A15 × A16 × A17 × A18 × A19 × A20 × A21 × A22 × A23 × A24 × A25 × A26 × A27 × A28 × A29 × A30 × A31 × A32 × A33 × A34 × A35 × A36 × A37 × A38 × A39 × A40 × U) : R := u40 (f d.1) d.2
@[reducible] def u42 {R U A0 A1 A2 A3 A4 A5 A6 A7 A8 A9 A10 A11 A12 A13 A14 A15 A16 A17 A18 A19 A20 A21 A22 A23 A24 A25 A26 A27 A28 A29 A30 A31 A32 A33 A34 A35 A36 A37 A38 A39 A40 A41 : Type} (f : A0 → A1 → A2 → A3 → A4 → A5 → A6 → A7 → A8 → A9 → A10 → A11 → A12 → A13 → A14 → A15 → A16 → A17 → A18 → A19 → A20 → A21 → A22 → A23 → A24 → A25 → A26 → A27 → A28 → A29 → A30 → A31 → A32 → A33 → A34 → A35 → A36 → A37 → A38 → A39 → A40 → A41 → R) (d : A0 × A1 × A2 × A3 × A4 × A5 × A6 × A7 × A8 × A9 × A10 × A11 × A12 × A13 × A14 × A15 × A16 × A17 × A18 × A19 × A20 × A21 × A22 × A23 × A24 × A25 × A26 × A27 × A28 × A29 × A30 × A31 × A32 × A33 × A34 × A35 × A36 × A37 × A38 × A39 × A40 × A41 × U) : R := u41 (f d.1) d.2
@[reducible] def u43 {R U A0 A1 A2 A3 A4 A5 A6 A7 A8 A9 A10 A11 A12 A13 A14 A15 A16 A17 A18 A19 A20 A21 A22 A23 A24 A25 A26 A27 A28 A29 A30 A31 A32 A33 A34 A35 A36 A37 A38 A39 A40 A41 A42 : Type} (f : A0 → A1 → A2 → A3 → A4 → A5 → A6 → A7 → A8 → A9 → A10 → A11 → A12 → A13 → A14 → A15 → A16 → A17 → A18 → A19 → A20 → A21 → A22 → A23 → A24 → A25 → A26 → A27 → A28 → A29 → A30 → A31 → A32 → A33 → A34 → A35 → A36 → A37 → A38 → A39 → A40 → A41 → A42 → R) (d : A0 × A1 × A2 × A3 × A4 × A5 × A6 × A7 × A8 × A9 × A10 × A11 × A12 × A13 × A14 × A15 × A16 × A17 × A18 × A19 × A20 × A21 × A22 × A23 × A24 × A25 × A26 × A27 × A28 × A29 × A30 × A31 × A32 × A33 × A34 × A35 × A36 × A37 × A38 × A39 × A40 × A41 × A42 × U) : R := u42 (f d.1) d.2
@[reducible] def u44 {R U A0 A1 A2 A3 A4 A5 A6 A7 A8 A9 A10 A11 A12 A13 A14 A15 A16 A17 A18 A19 A20 A21 A22 A23 A24 A25 A26 A27 A28 A29 A30 A31 A32 A33 A34 A35 A36 A37 A38 A39 A40 A41 A42 A43 : Type} (f : A0 → A1 → A2 → A3 → A4 → A5 → A6 → A7 → A8 → A9 → A10 → A11 → A12 → A13 → A14 → A15 → A16 → A17 → A18 → A19 → A20 → A21 → A22 → A23 → A24 → A25 → A26 → A27 → A28 → A29 → A30 → A31 → A32 → A33 → A34 → A35 → A36 → A37 → A38 → A39 → A40 → A41 → A42 → A43 → R) (d : A0 × A1 × A2 × A3 × A4 × A5 × A6 × A7 × A8 × A9 × A10 × A11 × A12 × A13 × A14 × A15 × A16 × A17 × A18 × A19 × A20 × A21 × A22 × A23 × A24 × A25 × A26 × A27 × A28 × A29 × A30 × A31 × A32 × A33 × A34 × A35 × A36 × A37 × A38 × A39 × A40 × A41 × A42 × A43 × U) : R := u43 (f d.1) d.2

/-- A told loop. -/
structure TL where
  nt : Nat
  ins : List Item
  outs : List Item
  id : Nat
  L : Nat → D (tysI ins []) → Option (D (tysI outs []))
  S : Nat → D (tysI ins []) → Option (D (tysI outs []))
def TL.ann (t : TL) (F : Nat) {ρ : Type} : Ann ρ := annS t.nt t.ins t.outs (t.L F)
def TL.ok (P : Program) (fn : Func) (t : TL) (F : Nat) : Prop := ∀ {ρ : Type} (B : Base) (w : World), AnnAt (ρ := ρ) P false B w (.block t.id (.loop (loopAt (bodyOf fn) t.id))) (t.ann F)

/-- A told loop with another way out. -/
structure TX where
  nt : Nat
  ins : List Item
  outX : List Item
  outs : List Item
  e2 : Exit
  id : Nat
  L : Nat → D (tysI ins []) → Option (D (tysI outX []) ⊕ D (tysI outs []))
  S : Nat → D (tysI ins []) → Option (D (tysI outX []) ⊕ D (tysI outs []))
def TX.ann (t : TX) (F : Nat) {ρ : Type} : Ann ρ := annX t.nt t.ins t.outX t.outs t.e2 (t.L F)
def TX.ok (P : Program) (fn : Func) (t : TX) (F : Nat) : Prop := ∀ {ρ : Type} (B : Base) (w : World), AnnAt (ρ := ρ) P false B w (.block t.id (.loop (loopAt (bodyOf fn) t.id))) (t.ann F)

theorem aN {ρ : Type} {P : Program} {c : Code} : AnnsOk (ρ := ρ) P c [] := annsOk_nil P c
theorem aL {ρ : Type} {P : Program} {fn : Func} {c : Code} {t : TL} {F : Nat} {l : List (Nat × Ann ρ)} (hb : blocksAt c t.id = [.loop (loopAt (bodyOf fn) t.id)]) (h : t.ok P fn F) (hl : AnnsOk P c l) : AnnsOk P c ((t.id, t.ann F) :: l) :=
  annsOk_cons hb (fun B w => h B w) hl
theorem aX {ρ : Type} {P : Program} {fn : Func} {c : Code} {t : TX} {F : Nat} {l : List (Nat × Ann ρ)} (hb : blocksAt c t.id = [.loop (loopAt (bodyOf fn) t.id)]) (h : t.ok P fn F) (hl : AnnsOk P c l) : AnnsOk P c ((t.id, t.ann F) :: l) :=
  annsOk_cons hb (fun B w => h B w) hl

theorem okF {P : Program} (hP : Callable P) {l : List ToldF} (hl : AllOk P l) {fn : Func} {t : ToldF} (anns : List (Nat × Ann (D (tysO t.os)))) (hf : P.funcs[t.f]? = some fn) (ha : AnnsOk P (bodyOf fn) anns)
    (h : ∀ d, evBody P (calT P l _) (qcalT l _) (annOf anns) t.f (bldS t.n t.ins d).tmps (bldS t.n t.ins d).heap (endO t.os) = t.F d) : t.ok P :=
  toldF_ok hP hl hf ha h
theorem okL {P : Program} (hP : Callable P) {l : List ToldF} (hl : AllOk P l) {fn : Func} {t : TL} {F : Nat} (anns : List (Nat × Ann (D (tysI t.outs [])))) (ha : AnnsOk P (loopAt (bodyOf fn) t.id) anns)
    (h0 : ∀ d, t.L 0 d = none) (h1 : ∀ k d, t.S k d = t.L (k + 1) d)
    (hs : ∀ k d, evCode P (calT P l _) (qcalT l _) (annOf anns) (loopAt (bodyOf fn) t.id) (bldS t.nt t.ins d) (kS t.nt t.ins t.outs t.id (t.L k)) = t.S k d) : t.ok P fn F := by
  intro ρ B w
  exact toldS_ok hP hl ha h0 (fun k d => (hs k d).trans (h1 k d)) F B w
theorem okX {P : Program} (hP : Callable P) {l : List ToldF} (hl : AllOk P l) {fn : Func} {t : TX} {F : Nat} (anns : List (Nat × Ann (D (tysI t.outX []) ⊕ D (tysI t.outs [])))) (ha : AnnsOk P (loopAt (bodyOf fn) t.id) anns)
    (h0 : ∀ d, t.L 0 d = none) (h1 : ∀ k d, t.S k d = t.L (k + 1) d) (he : t.e2 = .ret ∨ ∃ j, t.e2 = .exit j ∧ j ≠ t.id)
    (hs : ∀ k d, evCode P (calT P l _) (qcalT l _) (annOf anns) (loopAt (bodyOf fn) t.id) (bldS t.nt t.ins d) (kX t.nt t.ins t.outX t.outs t.id t.e2 (t.L k)) = t.S k d) : t.ok P fn F := by
  intro ρ B w
  exact toldX_ok hP hl ha h0 (fun k d => (hs k d).trans (h1 k d)) he F B w
theorem eR {e : Exit} {id : Nat} (h : e = .ret) : e = .ret ∨ ∃ j, e = .exit j ∧ j ≠ id := .inl h
theorem eX {e : Exit} {id : Nat} (j : Nat) (h : e = .exit j) (hj : decide (j = id) = false) : e = .ret ∨ ∃ j, e = .exit j ∧ j ≠ id := .inr ⟨j, h, of_decide_eq_false hj⟩

end Go.AE

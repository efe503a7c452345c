/- The framework AE, part 17: a law that is walked to its end. -/
import Derived.Test.YtaogfbhifeobmaaFw16
set_option linter.unusedVariables false
set_option linter.unusedSimpArgs false
namespace Go.AE
open Go Go.RowKit

/-- The continuation of a law: its answer. -/
def ans : AV → Heap → Option Bool := fun x _ => match x with
  | .bool _ b => some b
  | _ => none

def emptyEnv (ρ : Type) : Env ρ := ⟨fun _ => none, fun _ => none⟩

theorem emptyEnv_ok (P : Program) (ρ : Type) : EnvOk P (emptyEnv ρ) := ⟨fun _ _ h => (by cases h), fun _ _ h => (by cases h)⟩

theorem law_walk {P : Program} (hP : Callable P) {E : Env Bool} (hE : EnvOk P E) {n : Nat} {f : FuncId} {args : List AV} {H : Heap} {b : Bool}
    (h : evFn P E n f args H ans = some b) {M : List Place} {B : Base} {w : World} {vs : Array Value} (hl : RelL M args vs.toList) (hH : RelH M H B w) :
    Calls P f vs w fun e w' => e = .returned (.bool b) ∧ Beneath B w w' := by
  refine (evFn_ok hP hE n f args H ans b h M B w vs hl hH).mono ?_
  rintro e w' ⟨v, av, H', M', rfl, hk, _, _, hb, hv⟩
  refine ⟨?_, hb⟩
  unfold ans at hk
  split at hk
  · rename_i l x
    cases hk
    simp only [RelX] at hv
    rw [show v = .bool _ from by simpa using hv.1]
  · cases hk

/-- Nothing is known of memory. -/
theorem relH_nil (w : World) : RelH [] [] (Base.at w.heap.size) w := ⟨rfl, fun k hk => ⟨hk, trivial⟩, fun i o h => (by simp at h), fun i j oi oj pi pj h => (by simp at h), fun i o pl k h => (by simp at h), fun i o pl h => (by simp at h), fun k ob h => absurd h FzAt.nil, fun i o pl h => (by simp at h), fun k hk h => absurd hk (Nat.not_le_of_lt h)⟩

abbrev M0 : List Place := [⟨true, 0, 0, 0, 0, noFz⟩]
abbrev H0 : Heap := [none]
/-- The same; and nothing stays as it is. -/
theorem relH_0 (w : World) : RelH M0 H0 (Base.at w.heap.size) w := (relH_nil w).addNone _ (fun k ob h => by cases h)
theorem noOwn_0 : ∀ (i : Nat) (o : AObj), H0[i]? = some (some o) → o.own = false := fun i o h => by cases i <;> simp [H0] at h

def callableB (P : Program) : Bool := P.funcs.toList.all fun fn => !(fn.body.isSome && decide (fn.name = "runtime.NumGoroutine"))

theorem callable_of {P : Program} (h : callableB P = true) : Callable P := by
  intro g fn hg hb e
  have h1 := List.all_eq_true.1 h fn (by
    have := Array.mem_of_getElem? hg
    simpa using this)
  simp [hb, e] at h1

theorem has_wf {k : IntKind} {x : Int} (h : (Lit.int k x).wf = true) : k.has x := by
  have : k.min ≤ x ∧ x ≤ k.max := by simpa [Lit.wf] using h
  exact this

theorem relL_int {M : List Place} {k : IntKind} {x : Int} (h : (Lit.int k x).wf = true) {l : List AV} {vs : List Value} (r : RelL M l vs) : RelL M (.int k none x :: l) (.int k x :: vs) :=
  RelL_cons.2 ⟨_, _, rfl, by
    simp only [RelX]
    exact ⟨trivial, has_wf h, fun m h => (by cases h)⟩, r⟩

theorem relL_intLit {M : List Place} {k : IntKind} {x : Int} (h : (Lit.int k x).wf = true) {l : List AV} {vs : List Value} (r : RelL M l vs) : RelL M (.int k (some x) x :: l) (.int k x :: vs) :=
  RelL_cons.2 ⟨_, _, rfl, by
    simp only [RelX]
    exact ⟨trivial, has_wf h, fun m h => (by cases h; rfl)⟩, r⟩

theorem relL_bool {M : List Place} {x : Bool} {l : List AV} {vs : List Value} (r : RelL M l vs) : RelL M (.bool none x :: l) (.bool x :: vs) :=
  RelL_cons.2 ⟨_, _, rfl, by
    simp only [RelX]
    exact ⟨trivial, fun m h => (by cases h)⟩, r⟩

end Go.AE

/- The given statement Rows.FormatBackSaid is proved: for every input the law answers true, and each argument reads as it did. No condition. Printed by row2.py in the form of the kit's printed row. -/
import Derived.Test.YtaogfbhifeobmaaRows
import Derived.Test.YtaogfbhifeobmaaA02defs
import Derived.Test.YtaogfbhifeobmaaA07defs
import Derived.Test.YtaogfbhifeobmaaA08defs
import Derived.Test.YtaogfbhifeobmaaB06defs
import Derived.Test.YtaogfbhifeobmaaB10defs
import Derived.Test.YtaogfbhifeobmaaC09defs
import Derived.Test.YtaogfbhifeobmaaC11defs
import Derived.Test.YtaogfbhifeobmaaA12defs
import Derived.Test.YtaogfbhifeobmaaE13defs
import Derived.Test.YtaogfbhifeobmaaE13certs
import Derived.Test.YtaogfbhifeobmaaPureLib
import Derived.Test.YtaogfbhifeobmaaPure13a
import Derived.Test.YtaogfbhifeobmaaFw22
import Derived.WalkKit
import Derived.ProofKit
import Derived.OpenShut
import Derived.ShutString
import Derived.ChangeOld
import Derived.Below
import Derived.SizedLaws
import Derived.Carry
import Derived.ChangeSlices
set_option linter.unusedSimpArgs false
namespace Go.Proofs.Ytaogfbhifeobmaa.formatBack
open Go Go.ChangeShapes Go.WideShapes Go.ChangeAt Go.RowKit Go.AE
open Go.ChangeMaps (open_string shut_string)
set_option linter.unusedVariables false
theorem own : ownKnob Try.prog.godebug = none := by kernel_rfl
theorem laidOut : laidOutB Try.prog = true := by kernel_rfl
set_option maxRecDepth 100000 in
theorem lifted (os : Os) (started : os.Started) (H : Type) (enc : TypeId × Value → H) :
    ReturnsInHanded {} Try.checked os 4 .any (Rows.formatBackSpec.pre6 enc Try.prog Try.f4 Rows.formatBackRow.domain false) (Rows.formatBackSpec.post enc Try.prog Try.f4 false true false false) := by
  refine returnsInHanded_of_change_sized (C := Try.checked) own started (by kernel_rfl) Try.func4
    (ChangeSpec.witness6 (enc := enc) (C := Try.checked) false ⟨#[], #[.int .i64 0, .int .i64 0], []⟩ 8 (by kernel_rfl) (by kernel_rfl) (by kernel_rfl) (by kernel_rfl)) ?_
  intro W base args ds gs before hval0 hW hcnd hsz0 _
  have hval : ∀ (j : Nat) t v, Try.f4.params[j]? = some t → args[j]? = some v → Value.okWide Try.prog W .any base t v := hval0
  have hW' := hW
  obtain ⟨p, q, hA0, hV, rfl, hfz, hnd⟩ := hW
  have hA : DataW.TrodAll enc Try.prog W 0 (fun _ => true) true Try.f4.params.toList args.toList ds p := hA0
  rw [Try.params4] at hA hval
  obtain ⟨v0, vs0, d0, ds0, p0, q0, hargs, rfl, rfl, h0, r0⟩ := trodAll_cons hA
  obtain ⟨v1, vs1, d1, ds1, p1, q1, rfl, rfl, rfl, h1, r1⟩ := trodAll_cons r0
  obtain ⟨rfl, rfl, rfl⟩ := trodAll_nil r1
  obtain rfl : args = #[v0, v1] := by cases args; simp_all
  obtain ⟨rfl, rfl⟩ := trodVars_none hV
  have R0 : RelH M0 H0 (Base.at W.heap.size) W := relH_0 W
  have N0 : ∀ (i : Nat) o, H0[i]? = some (some o) → o.own = false := noOwn_0
  obtain ⟨a0, rfl, rfl, rfl, w0⟩ := open_int Try.underlying3 (hval 0 3 v0 rfl rfl) h0
  obtain ⟨a1, rfl, rfl, rfl, w1⟩ := open_int Try.underlying3 (hval 1 3 v1 rfl rfl) h1
  obtain ⟨F, hF⟩ := Go.AE.Gn.law13_FormatBack_true a0 a1 (has_wf w0) (has_wf w1)
  refine (law_told (t := law13_FormatBack_told F) (law13_FormatBack_ok F) rfl (d := (a0, (a1, ()))) hF (M := M0) (relL_int w0 (relL_int w1 (RelL_nil.2 rfl))) R0).mono fun e W' ⟨he, bel⟩ => ?_
  subst he
  exact ⟨_, rfl, _, _, _, [], _, [], hW', trodAll_mk1 (shut_bool Try.underlying4 _), (trodAll_cons_mk (shut_int Try.underlying3 w0) (trodAll_cons_mk (shut_int Try.underlying3 w1) trodAll_mk0)), rfl, bel.frame _, fun h => by cases h⟩
theorem over : Rows.formatBackRow.holds Try.pinned (OpenSpec.ofChange Rows.formatBackSpec) :=
  OpenClaim.holds_of_wide 4 Try.f4 rfl rfl rfl rfl rfl rfl rfl ⟨rfl, rfl, rfl, rfl, rfl⟩ rfl rfl rfl rfl rfl (by kernel_rfl) Try.func4 (by kernel_rfl)
    (of_decide_eq_true (by kernel_rfl)) (by unfold Func.isWrapper; first | (rw [if_pos (by decide +kernel)]; kernel_rfl) | (rw [if_neg (by decide +kernel)]; exact ⟨rfl, rfl⟩))
    (fun os started H enc _ => lifted os started H enc)
end Go.Proofs.Ytaogfbhifeobmaa.formatBack
namespace Go.Proofs.Ytaogfbhifeobmaa
/-- The given statement. -/
theorem formatBack_holds : Rows.FormatBackSaid := formatBack.over
#print axioms formatBack_holds
end Go.Proofs.Ytaogfbhifeobmaa

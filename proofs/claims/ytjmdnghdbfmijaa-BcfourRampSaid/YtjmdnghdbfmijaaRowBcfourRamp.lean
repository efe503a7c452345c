/- The given statement Rows.BcfourRampSaid is proved: for every input the law answers true, and each argument reads as it did. No condition. Printed by row2.py in the form of the kit's printed row. -/
import Derived.Test.YtjmdnghdbfmijaaRows
import Derived.Test.YtjmdnghdbfmijaaA02defs
import Derived.Test.YtjmdnghdbfmijaaPureLib
import Derived.Test.YtjmdnghdbfmijaaPure02
import Derived.Test.YtjmdnghdbfmijaaPure02b
import Derived.Test.YtjmdnghdbfmijaaPureBits
import Derived.Test.YtjmdnghdbfmijaaPureLow
import Derived.Test.YtjmdnghdbfmijaaA07defs
import Derived.Test.YtjmdnghdbfmijaaA07certs
import Derived.Test.YtjmdnghdbfmijaaPure03
import Derived.Test.YtjmdnghdbfmijaaPure07
import Derived.Test.YtjmdnghdbfmijaaFw22
import Derived.WalkKit
import Derived.ProofKit
import Derived.OpenShut
import Derived.ShutString
import Derived.ChangeOld
import Derived.Below
import Derived.SizedLaws
import Derived.Carry
import Derived.ChangeSlices
set_option linter.unusedSimpArgs false
namespace Go.Proofs.Ytjmdnghdbfmijaa.bcfourRamp
open Go Go.ChangeShapes Go.WideShapes Go.ChangeAt Go.RowKit Go.AE
open Go.ChangeMaps (open_string shut_string)
set_option linter.unusedVariables false
theorem own : ownKnob Try.prog.godebug = none := by kernel_rfl
theorem laidOut : laidOutB Try.prog = true := by kernel_rfl
set_option maxRecDepth 100000 in
theorem lifted (os : Os) (started : os.Started) (H : Type) (enc : TypeId × Value → H) :
    ReturnsInHanded {} Try.checked os 12 .any (Rows.bcfourRampSpec.pre6 enc Try.prog Try.f12 Rows.bcfourRampRow.domain false) (Rows.bcfourRampSpec.post enc Try.prog Try.f12 false true false false) := by
  refine returnsInHanded_of_change_sized (C := Try.checked) own started (by kernel_rfl) Try.func12
    (ChangeSpec.witness6 (enc := enc) (C := Try.checked) false ⟨#[], #[.int .i64 0, .int .i64 0], []⟩ 8 (by kernel_rfl) (by kernel_rfl) (by kernel_rfl) (by kernel_rfl)) ?_
  intro W base args ds gs before hval0 hW hcnd hsz0 _
  have hval : ∀ (j : Nat) t v, Try.f12.params[j]? = some t → args[j]? = some v → Value.okWide Try.prog W .any base t v := hval0
  have hW' := hW
  obtain ⟨p, q, hA0, hV, rfl, hfz, hnd⟩ := hW
  have hA : DataW.TrodAll enc Try.prog W 0 (fun _ => true) true Try.f12.params.toList args.toList ds p := hA0
  rw [Try.params12] at hA hval
  obtain ⟨v0, vs0, d0, ds0, p0, q0, hargs, rfl, rfl, h0, r0⟩ := trodAll_cons hA
  obtain ⟨v1, vs1, d1, ds1, p1, q1, rfl, rfl, rfl, h1, r1⟩ := trodAll_cons r0
  obtain ⟨rfl, rfl, rfl⟩ := trodAll_nil r1
  obtain rfl : args = #[v0, v1] := by cases args; simp_all
  obtain ⟨rfl, rfl⟩ := trodVars_none hV
  have R0 : RelH ([] : List Go.AE.Place) ([] : Go.AE.Heap) (Base.at W.heap.size) W := relH_nil W
  have N0 : ∀ (i : Nat) o, ([] : Go.AE.Heap)[i]? = some (some o) → o.own = false := fun i o h => by simp at h
  obtain ⟨a0, rfl, rfl, rfl, w0⟩ := open_int Try.underlying3 (hval 0 3 v0 rfl rfl) h0
  obtain ⟨a1, rfl, rfl, rfl, w1⟩ := open_int Try.underlying3 (hval 1 3 v1 rfl rfl) h1
  obtain ⟨F, hF⟩ := Go.AE.Gn.law07_BcfourRamp_true a0 a1 (has_wf w0) (has_wf w1)
  refine (law_told (t := law07_BcfourRamp_told F) (law07_BcfourRamp_ok F) rfl (d := (a0, (a1, ()))) hF (M := ([] : List Go.AE.Place)) (relL_int w0 (relL_int w1 (RelL_nil.2 rfl))) R0).mono fun e W' ⟨he, bel⟩ => ?_
  subst he
  exact ⟨_, rfl, _, _, _, [], _, [], hW', trodAll_mk1 (shut_bool Try.underlying4 _), (trodAll_cons_mk (shut_int Try.underlying3 w0) (trodAll_cons_mk (shut_int Try.underlying3 w1) trodAll_mk0)), rfl, bel.frame _, fun h => by cases h⟩
theorem over : Rows.bcfourRampRow.holds Try.pinned (OpenSpec.ofChange Rows.bcfourRampSpec) :=
  OpenClaim.holds_of_wide 12 Try.f12 rfl rfl rfl rfl rfl rfl rfl ⟨rfl, rfl, rfl, rfl, rfl⟩ rfl rfl rfl rfl rfl (by kernel_rfl) Try.func12 (by kernel_rfl)
    (of_decide_eq_true (by kernel_rfl)) (by unfold Func.isWrapper; first | (rw [if_pos (by decide +kernel)]; kernel_rfl) | (rw [if_neg (by decide +kernel)]; exact ⟨rfl, rfl⟩))
    (fun os started H enc _ => lifted os started H enc)
end Go.Proofs.Ytjmdnghdbfmijaa.bcfourRamp
namespace Go.Proofs.Ytjmdnghdbfmijaa
/-- The given statement. -/
theorem bcfourRamp_holds : Rows.BcfourRampSaid := bcfourRamp.over
#print axioms bcfourRamp_holds
end Go.Proofs.Ytjmdnghdbfmijaa

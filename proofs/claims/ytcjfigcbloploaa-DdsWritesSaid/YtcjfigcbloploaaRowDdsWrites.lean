/- The given statement Rows.DdsWritesSaid is proved: for every input the law answers true, and each argument reads as it did. No condition. Printed by row2.py in the form of the kit's printed row. -/
import Derived.Test.YtcjfigcbloploaaRows
import Derived.Test.YtcjfigcbloploaaRowDdsWritesP6
import Derived.WalkKit
import Derived.ProofKit
import Derived.OpenShut
import Derived.ShutString
import Derived.ChangeOld
import Derived.Below
import Derived.SizedLaws
import Derived.Carry
import Derived.ChangeSlices
set_option linter.unusedSimpArgs false
namespace Go.Proofs.Ytcjfigcbloploaa.ddsWrites
open Go Go.ChangeShapes Go.WideShapes Go.ChangeAt Go.RowKit Go.AE
open Go.ChangeMaps (open_string shut_string)
set_option linter.unusedVariables false
theorem own : ownKnob Try.prog.godebug = none := by kernel_rfl
theorem laidOut : laidOutB Try.prog = true := by kernel_rfl
set_option maxRecDepth 100000 in
theorem lifted (os : Os) (started : os.Started) (H : Type) (enc : TypeId × Value → H) :
    ReturnsInHanded {} Try.checked os 7 .any (Rows.ddsWritesSpec.pre6 enc Try.prog Try.f7 Rows.ddsWritesRow.domain false) (Rows.ddsWritesSpec.post enc Try.prog Try.f7 false true false false) := by
  refine returnsInHanded_of_change_sized (C := Try.checked) own started (by kernel_rfl) Try.func7
    (ChangeSpec.witness6 (enc := enc) (C := Try.checked) false ⟨#[], #[(((Try.prog.info? 25).bind (·.zero)).getD (.tuple #[]))], []⟩ 8 (by kernel_rfl) (by kernel_rfl) (by kernel_rfl) (by kernel_rfl)) ?_
  intro W base args ds gs before hval0 hW hcnd hsz0 _
  have hval : ∀ (j : Nat) t v, Try.f7.params[j]? = some t → args[j]? = some v → Value.okWide Try.prog W .any base t v := hval0
  have hW' := hW
  obtain ⟨p, q, hA0, hV, rfl, hfz, hnd⟩ := hW
  have hA : DataW.TrodAll enc Try.prog W 0 (fun _ => true) true Try.f7.params.toList args.toList ds p := hA0
  rw [Try.params7] at hA hval
  obtain ⟨v0, vs0, d0, ds0, p0, q0, hargs, rfl, rfl, h0, r0⟩ := trodAll_cons hA
  obtain ⟨rfl, rfl, rfl⟩ := trodAll_nil r0
  obtain rfl : args = #[v0] := by cases args; simp_all
  obtain ⟨rfl, rfl⟩ := trodVars_none hV
  have R0 : RelH (MZ W) H0 (Base.at W.heap.size) W := relH_Z W
  have N0 : ∀ (i : Nat) o, H0[i]? = some (some o) → o.own = false := noOwn_0
  have k0 := h0
  have lt0 : ∀ x ∈ p0, x.block < W.heap.size := by obtain ⟨m, hm⟩ := k0; exact DataW.trod_lt m _ _ _ hm
  obtain ⟨a0, f0, g0⟩ := agg_in (n := 6) (cs := [.int .i64, .int .i64, .int .i64, .int .i64, .int .i64, .int .i64, .dsl (.row .u8 1), .dsl (.pair)]) (by kernel_rfl) (by kernel_rfl) (hval 0 25 v0 rfl rfl) k0
  obtain ⟨F, hF⟩ := Go.AE.Gn.law18_DdsWrites_true a0 f0
  refine (law_told (t := law18_DdsWrites_told F) (law18_DdsWrites_ok F) rfl (d := (a0, ())) hF (M := (MZ W)) (RelL_cons.2 ⟨_, _, rfl, g0, (RelL_nil.2 rfl)⟩) R0).mono fun e W' ⟨he, bel⟩ => ?_
  subst he
  exact ⟨_, rfl, _, _, _, [], _, [], hW', trodAll_mk1 (shut_bool Try.underlying4 _), (trodAll_cons_mk (Below.trod laidOut (by kernel_rfl) (of_decide_eq_true (by kernel_rfl)) k0 bel lt0) trodAll_mk0), rfl, bel.frame _, fun h => by cases h⟩
theorem over : Rows.ddsWritesRow.holds Try.pinned (OpenSpec.ofChange Rows.ddsWritesSpec) :=
  OpenClaim.holds_of_wide 7 Try.f7 rfl rfl rfl rfl rfl rfl rfl ⟨rfl, rfl, rfl, rfl, rfl⟩ rfl rfl rfl rfl rfl (by kernel_rfl) Try.func7 (by kernel_rfl)
    (of_decide_eq_true (by kernel_rfl)) (by unfold Func.isWrapper; first | (rw [if_pos (by decide +kernel)]; kernel_rfl) | (rw [if_neg (by decide +kernel)]; exact ⟨rfl, rfl⟩))
    (fun os started H enc _ => lifted os started H enc)
end Go.Proofs.Ytcjfigcbloploaa.ddsWrites
namespace Go.Proofs.Ytcjfigcbloploaa
/-- The given statement. -/
theorem ddsWrites_holds : Rows.DdsWritesSaid := ddsWrites.over
#print axioms ddsWrites_holds
end Go.Proofs.Ytcjfigcbloploaa

/- The given statement Rows.FormatTellsSaid is proved: for every input the law answers true, and each argument reads as it did. No condition. Printed by row2.py in the form of the kit's printed row. -/
import Derived.Test.YtaogfbhifeobmaaGreatRows
import Derived.Test.YtaogfbhifeobmaaGreatRowFormatTellsP4
import Derived.WalkKit
import Derived.ProofKit
import Derived.OpenShut
import Derived.ShutString
import Derived.ChangeOld
import Derived.Below
import Derived.SizedLaws
import Derived.Carry
import Derived.ChangeSlices
set_option linter.unusedSimpArgs false
namespace Go.Proofs.YtaogfbhifeobmaaGreat.formatTells
open Go Go.ChangeShapes Go.WideShapes Go.ChangeAt Go.RowKit Go.AE
open Go.ChangeMaps (open_string shut_string)
set_option linter.unusedVariables false
theorem own : ownKnob Tryz.prog.godebug = none := by kernel_rfl
theorem laidOut : laidOutB Tryz.prog = true := by kernel_rfl
set_option maxRecDepth 100000 in
theorem lifted (os : Os) (started : os.Started) (H : Type) (enc : TypeId × Value → H) :
    ReturnsInHanded {} Tryz.checked os 3 .any (Rows.formatTellsSpec.pre6 enc Tryz.prog Tryz.f3 Rows.formatTellsRow.domain false) (Rows.formatTellsSpec.post enc Tryz.prog Tryz.f3 false true false false) := by
  refine returnsInHanded_of_change_sized (C := Tryz.checked) own started (by kernel_rfl) Tryz.func3
    (ChangeSpec.witness6 (enc := enc) (C := Tryz.checked) false ⟨#[], #[(((Tryz.prog.info? 22).bind (·.zero)).getD (.tuple #[])), (((Tryz.prog.info? 9).bind (·.zero)).getD (.tuple #[]))], []⟩ 8 (by kernel_rfl) (by kernel_rfl) (by kernel_rfl) (by kernel_rfl)) ?_
  intro W base args ds gs before hval0 hW hcnd hsz0 _
  have hval : ∀ (j : Nat) t v, Tryz.f3.params[j]? = some t → args[j]? = some v → Value.okWide Tryz.prog W .any base t v := hval0
  have hW' := hW
  obtain ⟨p, q, hA0, hV, rfl, hfz, hnd⟩ := hW
  have hA : DataW.TrodAll enc Tryz.prog W 0 (fun _ => true) true Tryz.f3.params.toList args.toList ds p := hA0
  rw [Tryz.params3] at hA hval
  obtain ⟨v0, vs0, d0, ds0, p0, q0, hargs, rfl, rfl, h0, r0⟩ := trodAll_cons hA
  obtain ⟨v1, vs1, d1, ds1, p1, q1, rfl, rfl, rfl, h1, r1⟩ := trodAll_cons r0
  obtain ⟨rfl, rfl, rfl⟩ := trodAll_nil r1
  obtain rfl : args = #[v0, v1] := by cases args; simp_all
  obtain ⟨rfl, rfl⟩ := trodVars_none hV
  have R0 : RelH M0 H0 (Base.at W.heap.size) W := relH_0 W
  have N0 : ∀ (i : Nat) o, H0[i]? = some (some o) → o.own = false := noOwn_0
  have k0 := h0
  have lt0 : ∀ x ∈ p0, x.block < W.heap.size := by obtain ⟨m, hm⟩ := k0; exact DataW.trod_lt m _ _ _ hm
  obtain ⟨⟨a0, ⟨⟩⟩, f0, g0⟩ := agg_of (cs := [.is .i64 4]) (us := (Tryz.prog.cellTypes Tryz.prog.depth 22).getD []) (by kernel_rfl) (by kernel_rfl) (by kernel_rfl) (by kernel_rfl) (hval 0 22 v0 rfl rfl)
  obtain ⟨a1, rfl, rfl, rfl, w1⟩ := open_string Tryz.underlying9 (hval 1 9 v1 rfl rfl) h1
  obtain ⟨F, hF⟩ := Go.AE.Gn.law13_FormatTells_true a0 (bytesL a1) f0.1
  refine (law_told (t := law13_FormatTells_told F) (law13_FormatTells_ok F) rfl (d := (a0, ((bytesL a1), ()))) hF (M := M0) (RelL_cons.2 ⟨_, _, rfl, g0 _, (relL_str w1 (RelL_nil.2 rfl))⟩) R0).mono fun e W' ⟨he, bel⟩ => ?_
  subst he
  exact ⟨_, rfl, _, _, _, [], _, [], hW', trodAll_mk1 (shut_bool Tryz.underlying4 _), (trodAll_cons_mk (Below.trod laidOut (by kernel_rfl) (of_decide_eq_true (by kernel_rfl)) k0 bel lt0) (trodAll_cons_mk (shut_string Tryz.underlying9 w1) trodAll_mk0)), rfl, bel.frame _, fun h => by cases h⟩
theorem over : Rows.formatTellsRow.holds Tryz.pinned (OpenSpec.ofChange Rows.formatTellsSpec) :=
  OpenClaim.holds_of_wide 3 Tryz.f3 rfl rfl rfl rfl rfl rfl rfl ⟨rfl, rfl, rfl, rfl, rfl⟩ rfl rfl rfl rfl rfl (by kernel_rfl) Tryz.func3 (by kernel_rfl)
    (of_decide_eq_true (by kernel_rfl)) (by unfold Func.isWrapper; first | (rw [if_pos (by decide +kernel)]; kernel_rfl) | (rw [if_neg (by decide +kernel)]; exact ⟨rfl, rfl⟩))
    (fun os started H enc _ => lifted os started H enc)
end Go.Proofs.YtaogfbhifeobmaaGreat.formatTells
namespace Go.Proofs.YtaogfbhifeobmaaGreat
/-- The given statement. -/
theorem formatTells_holds : Rows.FormatTellsSaid := formatTells.over
#print axioms formatTells_holds
end Go.Proofs.YtaogfbhifeobmaaGreat

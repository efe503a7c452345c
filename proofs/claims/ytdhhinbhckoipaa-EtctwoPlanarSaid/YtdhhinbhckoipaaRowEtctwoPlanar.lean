/- The given statement Rows.EtctwoPlanarSaid is proved: for every input the law answers true, and each argument reads as it did. No condition. Printed by row2.py in the form of the kit's printed row. -/
import Derived.Test.YtdhhinbhckoipaaRows
import Derived.Test.YtdhhinbhckoipaaA02defs
import Derived.Test.YtdhhinbhckoipaaPureLib
import Derived.Test.YtdhhinbhckoipaaPure02
import Derived.Test.YtdhhinbhckoipaaPure02b
import Derived.Test.YtdhhinbhckoipaaPureBits
import Derived.Test.YtdhhinbhckoipaaA07defs
import Derived.Test.YtdhhinbhckoipaaPureLow
import Derived.Test.YtdhhinbhckoipaaPure03
import Derived.Test.YtdhhinbhckoipaaPure07
import Derived.Test.YtdhhinbhckoipaaPureLib2
import Derived.Test.YtdhhinbhckoipaaB10defs
import Derived.Test.YtdhhinbhckoipaaC11defs
import Derived.Test.YtdhhinbhckoipaaC11certs
import Derived.Test.YtdhhinbhckoipaaPure10
import Derived.Test.YtdhhinbhckoipaaPureTab
import Derived.Test.YtdhhinbhckoipaaPure11
import Derived.Test.YtdhhinbhckoipaaPure11b
import Derived.Test.YtdhhinbhckoipaaPure11c
import Derived.Test.YtdhhinbhckoipaaPure11d
import Derived.Test.YtdhhinbhckoipaaPure11e
import Derived.Test.YtdhhinbhckoipaaPure11f
import Derived.Test.YtdhhinbhckoipaaPure11g
import Derived.Test.YtdhhinbhckoipaaPure11h
import Derived.Test.YtdhhinbhckoipaaPure11i
import Derived.Test.YtdhhinbhckoipaaPure11j
import Derived.Test.YtdhhinbhckoipaaFw22
import Derived.WalkKit
import Derived.ProofKit
import Derived.OpenShut
import Derived.ShutString
import Derived.ChangeOld
import Derived.Below
import Derived.SizedLaws
import Derived.Carry
import Derived.ChangeSlices
set_option linter.unusedSimpArgs false
namespace Go.Proofs.Ytdhhinbhckoipaa.etctwoPlanar
open Go Go.ChangeShapes Go.WideShapes Go.ChangeAt Go.RowKit Go.AE
open Go.ChangeMaps (open_string shut_string)
set_option linter.unusedVariables false
theorem own : ownKnob Try.prog.godebug = none := by kernel_rfl
theorem laidOut : laidOutB Try.prog = true := by kernel_rfl
set_option maxRecDepth 100000 in
theorem lifted (os : Os) (started : os.Started) (H : Type) (enc : TypeId × Value → H) :
    ReturnsInHanded {} Try.checked os 8 .any (Rows.etctwoPlanarSpec.pre6 enc Try.prog Try.f8 Rows.etctwoPlanarRow.domain false) (Rows.etctwoPlanarSpec.post enc Try.prog Try.f8 false true false false) := by
  refine returnsInHanded_of_change_sized (C := Try.checked) own started (by kernel_rfl) Try.func8
    (ChangeSpec.witness6 (enc := enc) (C := Try.checked) false ⟨#[], #[(((Try.prog.info? 43).bind (·.zero)).getD (.tuple #[]))], []⟩ 8 (by kernel_rfl) (by kernel_rfl) (by kernel_rfl) (by kernel_rfl)) ?_
  intro W base args ds gs before hval0 hW hcnd hsz0 _
  have hval : ∀ (j : Nat) t v, Try.f8.params[j]? = some t → args[j]? = some v → Value.okWide Try.prog W .any base t v := hval0
  have hW' := hW
  obtain ⟨p, q, hA0, hV, rfl, hfz, hnd⟩ := hW
  have hA : DataW.TrodAll enc Try.prog W 0 (fun _ => true) true Try.f8.params.toList args.toList ds p := hA0
  rw [Try.params8] at hA hval
  obtain ⟨v0, vs0, d0, ds0, p0, q0, hargs, rfl, rfl, h0, r0⟩ := trodAll_cons hA
  obtain ⟨rfl, rfl, rfl⟩ := trodAll_nil r0
  obtain rfl : args = #[v0] := by cases args; simp_all
  obtain ⟨rfl, rfl⟩ := trodVars_none hV
  have R0 : RelH ([] : List Go.AE.Place) ([] : Go.AE.Heap) (Base.at W.heap.size) W := relH_nil W
  have N0 : ∀ (i : Nat) o, ([] : Go.AE.Heap)[i]? = some (some o) → o.own = false := fun i o h => by simp at h
  have k0 := h0
  have lt0 : ∀ x ∈ p0, x.block < W.heap.size := by obtain ⟨m, hm⟩ := k0; exact DataW.trod_lt m _ _ _ hm
  obtain ⟨⟨a0, ⟨⟩⟩, f0, g0⟩ := agg_of (cs := [.is .i64 9]) (us := (Try.prog.cellTypes Try.prog.depth 43).getD []) (by kernel_rfl) (by kernel_rfl) (by kernel_rfl) (by kernel_rfl) (hval 0 43 v0 rfl rfl)
  obtain ⟨F, hF⟩ := Go.AE.Gn.law11_EtctwoPlanar_true a0 f0.1
  refine (law_told (t := law11_EtctwoPlanar_told F) (law11_EtctwoPlanar_ok F) rfl (d := (a0, ())) hF (M := ([] : List Go.AE.Place)) (RelL_cons.2 ⟨_, _, rfl, g0 _, (RelL_nil.2 rfl)⟩) R0).mono fun e W' ⟨he, bel⟩ => ?_
  subst he
  exact ⟨_, rfl, _, _, _, [], _, [], hW', trodAll_mk1 (shut_bool Try.underlying4 _), (trodAll_cons_mk (Below.trod laidOut (by kernel_rfl) (of_decide_eq_true (by kernel_rfl)) k0 bel lt0) trodAll_mk0), rfl, bel.frame _, fun h => by cases h⟩
theorem over : Rows.etctwoPlanarRow.holds Try.pinned (OpenSpec.ofChange Rows.etctwoPlanarSpec) :=
  OpenClaim.holds_of_wide 8 Try.f8 rfl rfl rfl rfl rfl rfl rfl ⟨rfl, rfl, rfl, rfl, rfl⟩ rfl rfl rfl rfl rfl (by kernel_rfl) Try.func8 (by kernel_rfl)
    (of_decide_eq_true (by kernel_rfl)) (by unfold Func.isWrapper; first | (rw [if_pos (by decide +kernel)]; kernel_rfl) | (rw [if_neg (by decide +kernel)]; exact ⟨rfl, rfl⟩))
    (fun os started H enc _ => lifted os started H enc)
end Go.Proofs.Ytdhhinbhckoipaa.etctwoPlanar
namespace Go.Proofs.Ytdhhinbhckoipaa
/-- The given statement. -/
theorem etctwoPlanar_holds : Rows.EtctwoPlanarSaid := etctwoPlanar.over
#print axioms etctwoPlanar_holds
end Go.Proofs.Ytdhhinbhckoipaa

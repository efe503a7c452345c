/- The given statement Rows.BcsevenRampSaid is proved: for every input the law answers true, and each argument reads as it did. No condition. Printed by row2.py in the form of the kit's printed row. -/
import Derived.Test.YtdhhinbhckoipaaRows
import Derived.Test.YtdhhinbhckoipaaA02defs
import Derived.Test.YtdhhinbhckoipaaPureLib
import Derived.Test.YtdhhinbhckoipaaPure02
import Derived.Test.YtdhhinbhckoipaaPure02b
import Derived.Test.YtdhhinbhckoipaaPureBits
import Derived.Test.YtdhhinbhckoipaaA07defs
import Derived.Test.YtdhhinbhckoipaaPureLow
import Derived.Test.YtdhhinbhckoipaaPure03
import Derived.Test.YtdhhinbhckoipaaPureLib2
import Derived.Test.YtdhhinbhckoipaaA08defs
import Derived.Test.YtdhhinbhckoipaaC09defs
import Derived.Test.YtdhhinbhckoipaaC09certs
import Derived.Test.YtdhhinbhckoipaaPure09
import Derived.Test.YtdhhinbhckoipaaPure09b
import Derived.Test.YtdhhinbhckoipaaPure09c
import Derived.Test.YtdhhinbhckoipaaPure09d
import Derived.Test.YtdhhinbhckoipaaPure09e
import Derived.Test.YtdhhinbhckoipaaPure09f
import Derived.Test.YtdhhinbhckoipaaPure09g
import Derived.Test.YtdhhinbhckoipaaFw22
import Derived.WalkKit
import Derived.ProofKit
import Derived.OpenShut
import Derived.ShutString
import Derived.ChangeOld
import Derived.Below
import Derived.SizedLaws
import Derived.Carry
import Derived.ChangeSlices
set_option linter.unusedSimpArgs false
namespace Go.Proofs.Ytdhhinbhckoipaa.bcsevenRamp
open Go Go.ChangeShapes Go.WideShapes Go.ChangeAt Go.RowKit Go.AE
open Go.ChangeMaps (open_string shut_string)
set_option linter.unusedVariables false
theorem own : ownKnob Try.prog.godebug = none := by kernel_rfl
theorem laidOut : laidOutB Try.prog = true := by kernel_rfl
set_option maxRecDepth 100000 in
theorem lifted (os : Os) (started : os.Started) (H : Type) (enc : TypeId × Value → H) :
    ReturnsInHanded {} Try.checked os 11 .any (Rows.bcsevenRampSpec.pre6 enc Try.prog Try.f11 Rows.bcsevenRampRow.domain false) (Rows.bcsevenRampSpec.post enc Try.prog Try.f11 false true false false) := by
  refine returnsInHanded_of_change_sized (C := Try.checked) own started (by kernel_rfl) Try.func11
    (ChangeSpec.witness6 (enc := enc) (C := Try.checked) false ⟨#[], #[(((Try.prog.info? 60).bind (·.zero)).getD (.tuple #[])), (((Try.prog.info? 51).bind (·.zero)).getD (.tuple #[])), (((Try.prog.info? 52).bind (·.zero)).getD (.tuple #[]))], []⟩ 8 (by kernel_rfl) (by kernel_rfl) (by kernel_rfl) (by kernel_rfl)) ?_
  intro W base args ds gs before hval0 hW hcnd hsz0 _
  have hval : ∀ (j : Nat) t v, Try.f11.params[j]? = some t → args[j]? = some v → Value.okWide Try.prog W .any base t v := hval0
  have hW' := hW
  obtain ⟨p, q, hA0, hV, rfl, hfz, hnd⟩ := hW
  have hA : DataW.TrodAll enc Try.prog W 0 (fun _ => true) true Try.f11.params.toList args.toList ds p := hA0
  rw [Try.params11] at hA hval
  obtain ⟨v0, vs0, d0, ds0, p0, q0, hargs, rfl, rfl, h0, r0⟩ := trodAll_cons hA
  obtain ⟨v1, vs1, d1, ds1, p1, q1, rfl, rfl, rfl, h1, r1⟩ := trodAll_cons r0
  obtain ⟨v2, vs2, d2, ds2, p2, q2, rfl, rfl, rfl, h2, r2⟩ := trodAll_cons r1
  obtain ⟨rfl, rfl, rfl⟩ := trodAll_nil r2
  obtain rfl : args = #[v0, v1, v2] := by cases args; simp_all
  obtain ⟨rfl, rfl⟩ := trodVars_none hV
  have R0 : RelH ([] : List Go.AE.Place) ([] : Go.AE.Heap) (Base.at W.heap.size) W := relH_nil W
  have N0 : ∀ (i : Nat) o, ([] : Go.AE.Heap)[i]? = some (some o) → o.own = false := fun i o h => by simp at h
  have k0 := h0
  have lt0 : ∀ x ∈ p0, x.block < W.heap.size := by obtain ⟨m, hm⟩ := k0; exact DataW.trod_lt m _ _ _ hm
  obtain ⟨⟨a0, ⟨⟩⟩, f0, g0⟩ := agg_of (cs := [.is .i64 8]) (us := (Try.prog.cellTypes Try.prog.depth 60).getD []) (by kernel_rfl) (by kernel_rfl) (by kernel_rfl) (by kernel_rfl) (hval 0 60 v0 rfl rfl)
  have k1 := h1
  have lt1 : ∀ x ∈ p1, x.block < W.heap.size := by obtain ⟨m, hm⟩ := k1; exact DataW.trod_lt m _ _ _ hm
  obtain ⟨⟨a1, ⟨⟩⟩, f1, g1⟩ := agg_of (cs := [.is .i64 2]) (us := (Try.prog.cellTypes Try.prog.depth 51).getD []) (by kernel_rfl) (by kernel_rfl) (by kernel_rfl) (by kernel_rfl) (hval 1 51 v1 rfl rfl)
  have k2 := h2
  have lt2 : ∀ x ∈ p2, x.block < W.heap.size := by obtain ⟨m, hm⟩ := k2; exact DataW.trod_lt m _ _ _ hm
  obtain ⟨⟨a2, ⟨⟩⟩, f2, g2⟩ := agg_of (cs := [.is .i64 16]) (us := (Try.prog.cellTypes Try.prog.depth 52).getD []) (by kernel_rfl) (by kernel_rfl) (by kernel_rfl) (by kernel_rfl) (hval 2 52 v2 rfl rfl)
  obtain ⟨F, hF⟩ := Go.AE.Gn.law09_BcsevenRamp_true a0 a1 a2 f0.1 f1.1 f2.1
  refine (law_told (t := law09_BcsevenRamp_told F) (law09_BcsevenRamp_ok F) rfl (d := (a0, (a1, (a2, ())))) hF (M := ([] : List Go.AE.Place)) (RelL_cons.2 ⟨_, _, rfl, g0 _, (RelL_cons.2 ⟨_, _, rfl, g1 _, (RelL_cons.2 ⟨_, _, rfl, g2 _, (RelL_nil.2 rfl)⟩)⟩)⟩) R0).mono fun e W' ⟨he, bel⟩ => ?_
  subst he
  exact ⟨_, rfl, _, _, _, [], _, [], hW', trodAll_mk1 (shut_bool Try.underlying4 _), (trodAll_cons_mk (Below.trod laidOut (by kernel_rfl) (of_decide_eq_true (by kernel_rfl)) k0 bel lt0) (trodAll_cons_mk (Below.trod laidOut (by kernel_rfl) (of_decide_eq_true (by kernel_rfl)) k1 bel lt1) (trodAll_cons_mk (Below.trod laidOut (by kernel_rfl) (of_decide_eq_true (by kernel_rfl)) k2 bel lt2) trodAll_mk0))), rfl, bel.frame _, fun h => by cases h⟩
theorem over : Rows.bcsevenRampRow.holds Try.pinned (OpenSpec.ofChange Rows.bcsevenRampSpec) :=
  OpenClaim.holds_of_wide 11 Try.f11 rfl rfl rfl rfl rfl rfl rfl ⟨rfl, rfl, rfl, rfl, rfl⟩ rfl rfl rfl rfl rfl (by kernel_rfl) Try.func11 (by kernel_rfl)
    (of_decide_eq_true (by kernel_rfl)) (by unfold Func.isWrapper; first | (rw [if_pos (by decide +kernel)]; kernel_rfl) | (rw [if_neg (by decide +kernel)]; exact ⟨rfl, rfl⟩))
    (fun os started H enc _ => lifted os started H enc)
end Go.Proofs.Ytdhhinbhckoipaa.bcsevenRamp
namespace Go.Proofs.Ytdhhinbhckoipaa
/-- The given statement. -/
theorem bcsevenRamp_holds : Rows.BcsevenRampSaid := bcsevenRamp.over
#print axioms bcsevenRamp_holds
end Go.Proofs.Ytdhhinbhckoipaa

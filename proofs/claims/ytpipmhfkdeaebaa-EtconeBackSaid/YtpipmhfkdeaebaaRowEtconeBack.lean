/- The given statement Rows.EtconeBackSaid is proved: for every input the law answers true, and each argument reads as it did. No condition. Printed by row2.py in the form of the kit's printed row. -/
import Derived.Test.YtpipmhfkdeaebaaRows
import Derived.Test.YtpipmhfkdeaebaaA02defs
import Derived.Test.YtpipmhfkdeaebaaPureLib
import Derived.Test.YtpipmhfkdeaebaaPure02
import Derived.Test.YtpipmhfkdeaebaaPure02b
import Derived.Test.YtpipmhfkdeaebaaPureBits
import Derived.Test.YtpipmhfkdeaebaaA07defs
import Derived.Test.YtpipmhfkdeaebaaPureLow
import Derived.Test.YtpipmhfkdeaebaaPure03
import Derived.Test.YtpipmhfkdeaebaaPure07
import Derived.Test.YtpipmhfkdeaebaaPureLib2
import Derived.Test.YtpipmhfkdeaebaaB10defs
import Derived.Test.YtpipmhfkdeaebaaB10certs
import Derived.Test.YtpipmhfkdeaebaaPure10
import Derived.Test.YtpipmhfkdeaebaaPure10b
import Derived.Test.YtpipmhfkdeaebaaPure10c
import Derived.Test.YtpipmhfkdeaebaaFw22
import Derived.WalkKit
import Derived.ProofKit
import Derived.OpenShut
import Derived.ShutString
import Derived.ChangeOld
import Derived.Below
import Derived.SizedLaws
import Derived.Carry
import Derived.ChangeSlices
set_option linter.unusedSimpArgs false
namespace Go.Proofs.Ytpipmhfkdeaebaa.etconeBack
open Go Go.ChangeShapes Go.WideShapes Go.ChangeAt Go.RowKit Go.AE
open Go.ChangeMaps (open_string shut_string)
set_option linter.unusedVariables false
theorem own : ownKnob Try.prog.godebug = none := by kernel_rfl
theorem laidOut : laidOutB Try.prog = true := by kernel_rfl
set_option maxRecDepth 100000 in
theorem lifted (os : Os) (started : os.Started) (H : Type) (enc : TypeId × Value → H) :
    ReturnsInHanded {} Try.checked os 9 .any (Rows.etconeBackSpec.pre6 enc Try.prog Try.f9 Rows.etconeBackRow.domain false) (Rows.etconeBackSpec.post enc Try.prog Try.f9 false true false false) := by
  refine returnsInHanded_of_change_sized (C := Try.checked) own started (by kernel_rfl) Try.func9
    (ChangeSpec.witness6 (enc := enc) (C := Try.checked) false ⟨#[], #[.slice none 0 0, (((Try.prog.info? 50).bind (·.zero)).getD (.tuple #[]))], []⟩ 8 (by kernel_rfl) (by kernel_rfl) (by kernel_rfl) (by kernel_rfl)) ?_
  intro W base args ds gs before hval0 hW hcnd hsz0 _
  have hval : ∀ (j : Nat) t v, Try.f9.params[j]? = some t → args[j]? = some v → Value.okWide Try.prog W .any base t v := hval0
  have hW' := hW
  obtain ⟨p, q, hA0, hV, rfl, hfz, hnd⟩ := hW
  have hA : DataW.TrodAll enc Try.prog W 0 (fun _ => true) true Try.f9.params.toList args.toList ds p := hA0
  rw [Try.params9] at hA hval
  obtain ⟨v0, vs0, d0, ds0, p0, q0, hargs, rfl, rfl, h0, r0⟩ := trodAll_cons hA
  obtain ⟨v1, vs1, d1, ds1, p1, q1, rfl, rfl, rfl, h1, r1⟩ := trodAll_cons r0
  obtain ⟨rfl, rfl, rfl⟩ := trodAll_nil r1
  obtain rfl : args = #[v0, v1] := by cases args; simp_all
  obtain ⟨rfl, rfl⟩ := trodVars_none hV
  have R0 : RelH ([] : List Go.AE.Place) ([] : Go.AE.Heap) (Base.at W.heap.size) W := relH_nil W
  have N0 : ∀ (i : Nat) o, ([] : Go.AE.Heap)[i]? = some (some o) → o.own = false := fun i o h => by simp at h
  obtain ⟨a0, len0, cap0, rfl⟩ := okWide_slice Try.underlying32 (hval 0 32 v0 rfl rfl)
  have k0 := h0
  have lt0 : ∀ x ∈ p0, x.block < W.heap.size := by obtain ⟨m, hm⟩ := k0; exact DataW.trod_lt m _ _ _ hm
  obtain ⟨z0, w0⟩ : ∃ zs, IsRowV .u8 W a0 len0 cap0 zs := by
    obtain ⟨fuel, hf⟩ := h0
    rcases open_ints Try.underlying32 Try.underlying5 (by kernel_rfl) hf with ⟨hcs, _⟩ | ⟨x, l, c, zs, hcs, _, hl, hm, hz, _, hcell, hwz⟩
    · simp [Value.cells] at hcs
      obtain ⟨rfl, rfl, rfl⟩ := hcs
      exact ⟨[], .inl ⟨rfl, rfl, rfl, rfl⟩⟩
    · simp [Value.cells] at hcs
      obtain ⟨rfl, rfl, rfl⟩ := hcs
      exact ⟨zs, .inr ⟨_, rfl, hl, hm, by simpa using hz, hcell, hwz⟩⟩
  obtain ⟨pl0, R1, g0⟩ := add_slice R0 N0 w0 (isRowV_has w0)
  have N1 : ∀ (j : Nat) o, (([] : Go.AE.Heap) ++ [some ⟨.row .u8 (z0.take len0), false, none⟩])[j]? = some (some o) → o.own = false := noOwn_snoc N0 rfl
  have k1 := h1
  have lt1 : ∀ x ∈ p1, x.block < W.heap.size := by obtain ⟨m, hm⟩ := k1; exact DataW.trod_lt m _ _ _ hm
  obtain ⟨a1, f1, g1⟩ := agg_of (cs := [.bool, .bool, .is .i64 3, .is .i64 3, .is .i64 2, .is .i64 16]) (us := (Try.prog.cellTypes Try.prog.depth 50).getD []) (by kernel_rfl) (by kernel_rfl) (by kernel_rfl) (by kernel_rfl) (hval 1 50 v1 rfl rfl)
  obtain ⟨F, hF⟩ := Go.AE.Gn.law10_EtconeBack_true (z0.take len0) a1 (isRowV_facts w0).2 f1
  refine (law_told (t := law10_EtconeBack_told F) (law10_EtconeBack_ok F) rfl (d := ((z0.take len0), (a1, ()))) hF (M := (([] : List Go.AE.Place) ++ [pl0])) (RelL_cons.2 ⟨_, _, rfl, g0, (RelL_cons.2 ⟨_, _, rfl, g1 _, (RelL_nil.2 rfl)⟩)⟩) R1).mono fun e W' ⟨he, bel⟩ => ?_
  subst he
  exact ⟨_, rfl, _, _, _, [], _, [], hW', trodAll_mk1 (shut_bool Try.underlying4 _), (trodAll_cons_mk (Below.trod laidOut (by kernel_rfl) (of_decide_eq_true (by kernel_rfl)) k0 bel lt0) (trodAll_cons_mk (Below.trod laidOut (by kernel_rfl) (of_decide_eq_true (by kernel_rfl)) k1 bel lt1) trodAll_mk0)), rfl, bel.frame _, fun h => by cases h⟩
theorem over : Rows.etconeBackRow.holds Try.pinned (OpenSpec.ofChange Rows.etconeBackSpec) :=
  OpenClaim.holds_of_wide 9 Try.f9 rfl rfl rfl rfl rfl rfl rfl ⟨rfl, rfl, rfl, rfl, rfl⟩ rfl rfl rfl rfl rfl (by kernel_rfl) Try.func9 (by kernel_rfl)
    (of_decide_eq_true (by kernel_rfl)) (by unfold Func.isWrapper; first | (rw [if_pos (by decide +kernel)]; kernel_rfl) | (rw [if_neg (by decide +kernel)]; exact ⟨rfl, rfl⟩))
    (fun os started H enc _ => lifted os started H enc)
end Go.Proofs.Ytpipmhfkdeaebaa.etconeBack
namespace Go.Proofs.Ytpipmhfkdeaebaa
/-- The given statement. -/
theorem etconeBack_holds : Rows.EtconeBackSaid := etconeBack.over
#print axioms etconeBack_holds
end Go.Proofs.Ytpipmhfkdeaebaa

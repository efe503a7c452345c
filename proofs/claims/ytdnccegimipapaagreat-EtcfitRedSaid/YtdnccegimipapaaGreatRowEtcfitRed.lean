/- The given statement Rows.EtcfitRedSaid is proved: for every input the law answers true, and each argument reads as it did. No condition. Printed by row2.py in the form of the kit's printed row. -/
import Derived.Test.YtdnccegimipapaaGreatRows
import Derived.Test.YtdnccegimipapaaGreatRowEtcfitRedP7
import Derived.WalkKit
import Derived.ProofKit
import Derived.OpenShut
import Derived.ShutString
import Derived.ChangeOld
import Derived.Below
import Derived.SizedLaws
import Derived.Carry
import Derived.ChangeSlices
set_option linter.unusedSimpArgs false
namespace Go.Proofs.YtdnccegimipapaaGreat.etcfitRed
open Go Go.ChangeShapes Go.WideShapes Go.ChangeAt Go.RowKit Go.AE
open Go.ChangeMaps (open_string shut_string)
set_option linter.unusedVariables false
theorem own:ownKnob Tryz.prog.godebug=none:=by kernel_rfl
theorem laidOut:laidOutB Tryz.prog=true:=by kernel_rfl
set_option maxRecDepth 100000 in
theorem lifted(os:Os)(started:os.Started)(H:Type)(enc:TypeId×Value→H):
  ReturnsInHanded {} Tryz.checked os 6 .any (Rows.etcfitRedSpec.pre6 enc Tryz.prog Tryz.f6 Rows.etcfitRedRow.domain false) (Rows.etcfitRedSpec.post enc Tryz.prog Tryz.f6 false true false false):=by
 refine returnsInHanded_of_change_sized (C:=Tryz.checked) own started (by kernel_rfl) Tryz.func6
  (ChangeSpec.witness6 (enc:=enc) (C:=Tryz.checked) false ⟨#[],#[.int .i64 0],[]⟩ 8 (by kernel_rfl) (by kernel_rfl) (by kernel_rfl) (by kernel_rfl)) ?_
 intro W base args ds gs before hval0 hW hcnd hsz0 _
 have hval:∀(j:Nat) t v,Tryz.f6.params[j]? =some t→args[j]? =some v→Value.okWide Tryz.prog W .any base t v:=hval0
 have hW' :=hW
 obtain⟨p,q,hA0,hV,rfl,hfz,hnd⟩:=hW
 have hA:DataW.TrodAll enc Tryz.prog W 0 (fun _=>true) true Tryz.f6.params.toList args.toList ds p:=hA0
 rw[Tryz.params6]at hA hval
 obtain⟨v0,vs0,d0,ds0,p0,q0,hargs,rfl,rfl,h0,r0⟩:=trodAll_cons hA
 obtain⟨rfl,rfl,rfl⟩:=trodAll_nil r0
 obtain rfl:args= #[v0]:=by cases args;simp_all
 obtain⟨rfl,rfl⟩:=trodVars_none hV
 have R0:RelH M0 H0 (Base.at W.heap.size) W:=relH_0 W
 have N0:∀(i:Nat) o,H0[i]? =some (some o)→o.own=false:=noOwn_0
 obtain⟨a0,rfl,rfl,rfl,w0⟩:=open_int Tryz.underlying3 (hval 0 3 v0 rfl rfl) h0
 obtain⟨F,hF⟩:=Go.AE.Gn.law16_EtcfitRed_true a0 (has_wf w0)
 refine(law_told (t:=qgq F) (qyd F) rfl (d:=(a0,())) hF (M:=M0) (relL_int w0 (RelL_nil.2 rfl)) R0).mono fun e W' ⟨he,bel⟩=> ?_
 subst he
 exact⟨_,rfl,_,_,_,[],_,[],hW',trodAll_mk1 (shut_bool Tryz.underlying4 _),(trodAll_cons_mk (shut_int Tryz.underlying3 w0) trodAll_mk0),rfl,bel.frame _,fun h=>by cases h⟩
theorem over:Rows.etcfitRedRow.holds Tryz.pinned (OpenSpec.ofChange Rows.etcfitRedSpec):=
 OpenClaim.holds_of_wide 6 Tryz.f6 rfl rfl rfl rfl rfl rfl rfl ⟨rfl,rfl,rfl,rfl,rfl⟩ rfl rfl rfl rfl rfl (by kernel_rfl) Tryz.func6 (by kernel_rfl)
  (of_decide_eq_true (by kernel_rfl)) (by unfold Func.isWrapper;first|(rw[iP (by decide+kernel)];kernel_rfl)|(rw[iN (by decide+kernel)];exact⟨rfl,rfl⟩))
  (fun os started H enc _=>lifted os started H enc)
end Go.Proofs.YtdnccegimipapaaGreat.etcfitRed
namespace Go.Proofs.YtdnccegimipapaaGreat
/-- The given statement. -/
theorem etcfitRed_holds:Rows.EtcfitRedSaid:=etcfitRed.over
#print axioms etcfitRed_holds
end Go.Proofs.YtdnccegimipapaaGreat

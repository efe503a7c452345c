/- The given statement Rows.EtcfitHeldSaid is proved: for every input the law answers true, and each argument reads as it did. No condition. Printed by row2.py in the form of the kit's printed row. -/
import Derived.Test.YtdnccegimipapaaGreatRows
import Derived.Test.YtdnccegimipapaaGreatRowEtcfitHeldP7
import Derived.WalkKit
import Derived.ProofKit
import Derived.OpenShut
import Derived.ShutString
import Derived.ChangeOld
import Derived.Below
import Derived.SizedLaws
import Derived.Carry
import Derived.ChangeSlices
set_option linter.unusedSimpArgs false
namespace Go.Proofs.YtdnccegimipapaaGreat.etcfitHeld
open Go Go.ChangeShapes Go.WideShapes Go.ChangeAt Go.RowKit Go.AE
open Go.ChangeMaps (open_string shut_string)
set_option linter.unusedVariables false
theorem own:ownKnob Tryz.prog.godebug=none:=by kernel_rfl
theorem laidOut:laidOutB Tryz.prog=true:=by kernel_rfl
set_option maxRecDepth 100000 in
theorem lifted(os:Os)(started:os.Started)(H:Type)(enc:TypeId×Value→H):
  ReturnsInHanded {} Tryz.checked os 5 .any (Rows.etcfitHeldSpec.pre6 enc Tryz.prog Tryz.f5 Rows.etcfitHeldRow.domain false) (Rows.etcfitHeldSpec.post enc Tryz.prog Tryz.f5 false true false false):=by
 refine returnsInHanded_of_change_sized (C:=Tryz.checked) own started (by kernel_rfl) Tryz.func5
  (ChangeSpec.witness6 (enc:=enc) (C:=Tryz.checked) false ⟨#[],#[(((Tryz.prog.info? 43).bind (·.zero)).getD (.tuple #[])),.int .i64 0,.int .i64 0],[]⟩ 8 (by kernel_rfl) (by kernel_rfl) (by kernel_rfl) (by kernel_rfl)) ?_
 intro W base args ds gs before hval0 hW hcnd hsz0 _
 have hval:∀(j:Nat) t v,Tryz.f5.params[j]? =some t→args[j]? =some v→Value.okWide Tryz.prog W .any base t v:=hval0
 have hW' :=hW
 obtain⟨p,q,hA0,hV,rfl,hfz,hnd⟩:=hW
 have hA:DataW.TrodAll enc Tryz.prog W 0 (fun _=>true) true Tryz.f5.params.toList args.toList ds p:=hA0
 rw[Tryz.params5]at hA hval
 obtain⟨v0,vs0,d0,ds0,p0,q0,hargs,rfl,rfl,h0,r0⟩:=trodAll_cons hA
 obtain⟨v1,vs1,d1,ds1,p1,q1,rfl,rfl,rfl,h1,r1⟩:=trodAll_cons r0
 obtain⟨v2,vs2,d2,ds2,p2,q2,rfl,rfl,rfl,h2,r2⟩:=trodAll_cons r1
 obtain⟨rfl,rfl,rfl⟩:=trodAll_nil r2
 obtain rfl:args= #[v0,v1,v2]:=by cases args;simp_all
 obtain⟨rfl,rfl⟩:=trodVars_none hV
 have R0:RelH M0 H0 (Base.at W.heap.size) W:=relH_0 W
 have N0:∀(i:Nat) o,H0[i]? =some (some o)→o.own=false:=noOwn_0
 have k0:=h0
 have lt0:∀x∈p0,x.block<W.heap.size:=by obtain⟨m,hm⟩:=k0;exact DataW.trod_lt m _ _ _ hm
 obtain⟨⟨a0,⟨⟩⟩,f0,g0⟩:=agg_of (cs:=[.is .i64 3]) (us:=(Tryz.prog.cellTypes Tryz.prog.depth 43).getD []) (by kernel_rfl) (by kernel_rfl) (by kernel_rfl) (by kernel_rfl) (hval 0 43 v0 rfl rfl)
 obtain⟨a1,rfl,rfl,rfl,w1⟩:=open_int Tryz.underlying3 (hval 1 3 v1 rfl rfl) h1
 obtain⟨a2,rfl,rfl,rfl,w2⟩:=open_int Tryz.underlying3 (hval 2 3 v2 rfl rfl) h2
 obtain⟨F,hF⟩:=Go.AE.Gn.law16_EtcfitHeld_true a0 a1 a2 f0.1 (zp8 w1) (zp8 w2)
 refine(law_told (t:=qfn F) (qwn F) rfl (d:=(a0,a1,a2,())) hF (M:=M0) (RelL_cons.2 ⟨_,_,rfl,g0 _,(zlm w1 (zlm w2 (RelL_nil.2 rfl)))⟩) R0).mono fun e W' ⟨he,bel⟩=> ?_
 subst he
 exact⟨_,rfl,_,_,_,[],_,[],hW',trodAll_mk1 (shut_bool Tryz.underlying4 _),(trodAll_cons_mk (Below.trod laidOut (by kernel_rfl) (of_decide_eq_true (by kernel_rfl)) k0 bel lt0) (trodAll_cons_mk (shut_int Tryz.underlying3 w1) (trodAll_cons_mk (shut_int Tryz.underlying3 w2) trodAll_mk0))),rfl,bel.frame _,fun h=>by cases h⟩
theorem over:Rows.etcfitHeldRow.holds Tryz.pinned (OpenSpec.ofChange Rows.etcfitHeldSpec):=
 OpenClaim.holds_of_wide 5 Tryz.f5 rfl rfl rfl rfl rfl rfl rfl ⟨rfl,rfl,rfl,rfl,rfl⟩ rfl rfl rfl rfl rfl (by kernel_rfl) Tryz.func5 (by kernel_rfl)
  (of_decide_eq_true (by kernel_rfl)) (by unfold Func.isWrapper;first|(rw[iP (by decide+kernel)];kernel_rfl)|(rw[iN (by decide+kernel)];exact⟨rfl,rfl⟩))
  (fun os started H enc _=>lifted os started H enc)
end Go.Proofs.YtdnccegimipapaaGreat.etcfitHeld
namespace Go.Proofs.YtdnccegimipapaaGreat
/-- The given statement. -/
theorem etcfitHeld_holds:Rows.EtcfitHeldSaid:=etcfitHeld.over
#print axioms etcfitHeld_holds
end Go.Proofs.YtdnccegimipapaaGreat

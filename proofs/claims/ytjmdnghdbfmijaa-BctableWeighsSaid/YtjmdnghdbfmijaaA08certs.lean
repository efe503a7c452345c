/- Printed by a program of mine (gen.py): the Go functions of this part come to what is told. -/
import Derived.Test.YtjmdnghdbfmijaaRows
import Derived.KernelRfl
import Derived.Test.YtjmdnghdbfmijaaA08defs
set_option linter.unusedSimpArgs false
set_option maxRecDepth 100000
set_option linter.unusedVariables false
namespace Go.Proofs.Ytjmdnghdbfmijaa
open Go Go.AE Go.AE.Gn
theorem callable : Callable Try.prog := callable_of (by kernel_rfl)
def bctable_in_tab (F : Nat) : List ToldF := []
theorem bctable_in_all (F : Nat) : AllOk Try.prog (bctable_in_tab F) := trivial

def bctable_in_told (F : Nat) : ToldF := ⟨52, 2, [.slot 0 (.int .i64), .slot 1 (.int .i64)], [.ty (.bool)], fun d => bctable_in F d.1 d.2.1⟩
theorem bctable_in_ok (F : Nat) : (bctable_in_told F).ok Try.prog :=
  toldF_ok callable (bctable_in_all F) (fn := Try.f52) (t := bctable_in_told F) (anns := []) (by kernel_rfl) (annsOk_nil _ _)
    (fun d => (by kernel_rfl : evBody Try.prog (calT Try.prog (bctable_in_tab F) _) (qcalT (bctable_in_tab F) _) (annOf []) 52 (bldS 2 (bctable_in_told F).ins d).tmps (bldS 2 (bctable_in_told F).ins d).heap (fun l H' => exO H' (bctable_in_told F).os l []) = bctable_in F d.1 d.2.1)) rfl

def bctable_three_tab (F : Nat) : List ToldF := []
theorem bctable_three_all (F : Nat) : AllOk Try.prog (bctable_three_tab F) := trivial

def bctable_three_told (F : Nat) : ToldF := ⟨53, 0, [], [.ty (.is .u32 64)], fun d => bctable_three F⟩
theorem bctable_three_ok (F : Nat) : (bctable_three_told F).ok Try.prog :=
  toldF_ok callable (bctable_three_all F) (fn := Try.f53) (t := bctable_three_told F) (anns := []) (by kernel_rfl) (annsOk_nil _ _)
    (fun d => (by kernel_rfl : evBody Try.prog (calT Try.prog (bctable_three_tab F) _) (qcalT (bctable_three_tab F) _) (annOf []) 53 (bldS 0 (bctable_three_told F).ins d).tmps (bldS 0 (bctable_three_told F).ins d).heap (fun l H' => exO H' (bctable_three_told F).os l []) = bctable_three F)) rfl

def bctable_two_tab (F : Nat) : List ToldF := []
theorem bctable_two_all (F : Nat) : AllOk Try.prog (bctable_two_tab F) := trivial

def bctable_two_told (F : Nat) : ToldF := ⟨54, 0, [], [.ty (.is .u16 64)], fun d => bctable_two F⟩
theorem bctable_two_ok (F : Nat) : (bctable_two_told F).ok Try.prog :=
  toldF_ok callable (bctable_two_all F) (fn := Try.f54) (t := bctable_two_told F) (anns := []) (by kernel_rfl) (annsOk_nil _ _)
    (fun d => (by kernel_rfl : evBody Try.prog (calT Try.prog (bctable_two_tab F) _) (qcalT (bctable_two_tab F) _) (annOf []) 54 (bldS 0 (bctable_two_told F).ins d).tmps (bldS 0 (bctable_two_told F).ins d).heap (fun l H' => exO H' (bctable_two_told F).os l []) = bctable_two F)) rfl

def bctable_Part_tab (F : Nat) : List ToldF := [bctable_two_told F, bctable_three_told F, bctable_in_told F]
theorem bctable_Part_all (F : Nat) : AllOk Try.prog (bctable_Part_tab F) := ⟨bctable_two_ok F, ⟨bctable_three_ok F, ⟨bctable_in_ok F, trivial⟩⟩⟩

def bctable_Part_told (F : Nat) : ToldF := ⟨19, 3, [.slot 0 (.int .i64), .slot 1 (.int .i64), .slot 2 (.int .i64)], [.ty (.int .i64)], fun d => bctable_Part F d.1 d.2.1 d.2.2.1⟩
theorem bctable_Part_ok (F : Nat) : (bctable_Part_told F).ok Try.prog :=
  toldF_ok callable (bctable_Part_all F) (fn := Try.f19) (t := bctable_Part_told F) (anns := []) (by kernel_rfl) (annsOk_nil _ _)
    (fun d => (by kernel_rfl : evBody Try.prog (calT Try.prog (bctable_Part_tab F) _) (qcalT (bctable_Part_tab F) _) (annOf []) 19 (bldS 3 (bctable_Part_told F).ins d).tmps (bldS 3 (bctable_Part_told F).ins d).heap (fun l H' => exO H' (bctable_Part_told F).os l []) = bctable_Part F d.1 d.2.1 d.2.2.1)) rfl

def ref08_two_tab (F : Nat) : List ToldF := []
theorem ref08_two_all (F : Nat) : AllOk Try.prog (ref08_two_tab F) := trivial

def ref08_two_told (F : Nat) : ToldF := ⟨55, 0, [], [.row .i64 1], fun d => ref08_two F⟩
theorem ref08_two_ok (F : Nat) : (ref08_two_told F).ok Try.prog :=
  toldF_ok callable (ref08_two_all F) (fn := Try.f55) (t := ref08_two_told F) (anns := []) (by kernel_rfl) (annsOk_nil _ _)
    (fun d => (by kernel_rfl : evBody Try.prog (calT Try.prog (ref08_two_tab F) _) (qcalT (ref08_two_tab F) _) (annOf []) 55 (bldS 0 (ref08_two_told F).ins d).tmps (bldS 0 (ref08_two_told F).ins d).heap (fun l H' => exO H' (ref08_two_told F).os l []) = ref08_two F)) rfl

def ref08_three_tab (F : Nat) : List ToldF := []
theorem ref08_three_all (F : Nat) : AllOk Try.prog (ref08_three_tab F) := trivial

def ref08_three_told (F : Nat) : ToldF := ⟨56, 0, [], [.row .i64 1], fun d => ref08_three F⟩
theorem ref08_three_ok (F : Nat) : (ref08_three_told F).ok Try.prog :=
  toldF_ok callable (ref08_three_all F) (fn := Try.f56) (t := ref08_three_told F) (anns := []) (by kernel_rfl) (annsOk_nil _ _)
    (fun d => (by kernel_rfl : evBody Try.prog (calT Try.prog (ref08_three_tab F) _) (qcalT (ref08_three_tab F) _) (annOf []) 56 (bldS 0 (ref08_three_told F).ins d).tmps (bldS 0 (ref08_three_told F).ins d).heap (fun l H' => exO H' (ref08_three_told F).os l []) = ref08_three F)) rfl

def ref08_Part_tab (F : Nat) : List ToldF := [ref08_three_told F, ref08_two_told F]
theorem ref08_Part_all (F : Nat) : AllOk Try.prog (ref08_Part_tab F) := ⟨ref08_three_ok F, ⟨ref08_two_ok F, trivial⟩⟩

abbrev ref08_Part_l0_ins : List Go.AE.Item := [.slot 2 (.int .i64), .slot 7 (.int .i64), .slot 8 (.int .i64), .slot 9 (.int .i64)]
abbrev ref08_Part_l0_outs : List Go.AE.Item := [.slot 7 (.int .i64), .slot 8 (.int .i64)]
def ref08_Part_l0_ann (F : Nat) {ρ : Type} : Ann ρ := annS 53 ref08_Part_l0_ins ref08_Part_l0_outs fun d => ref08_Part_l0 F F d.1 d.2.1 d.2.2.1 d.2.2.2.1
theorem ref08_Part_l0_ok (F : Nat) {ρ : Type} (B : Nat) (w : World) : AnnAt (ρ := ρ) Try.prog false B w (.block 0 (.loop (loopAt (bodyOf Try.f20) 0))) (ref08_Part_l0_ann F) :=
  toldS_ok callable (ref08_Part_all F) (ins := ref08_Part_l0_ins) (outs := ref08_Part_l0_outs) (anns := []) (L := fun k d => ref08_Part_l0 F k d.1 d.2.1 d.2.2.1 d.2.2.2.1) (annsOk_nil _ _) (fun d => rfl)
    (fun k d => (by kernel_rfl : evCode Try.prog (calT Try.prog (ref08_Part_tab F) _) (qcalT (ref08_Part_tab F) _) (annOf []) (loopAt (bodyOf Try.f20) 0) (bldS 53 ref08_Part_l0_ins d) (kS 53 ref08_Part_l0_ins ref08_Part_l0_outs 0 fun d => ref08_Part_l0 F k d.1 d.2.1 d.2.2.1 d.2.2.2.1) = ref08_Part_l0S F (ref08_Part_l0 F k) d.1 d.2.1 d.2.2.1 d.2.2.2.1)) F B w

def ref08_Part_told (F : Nat) : ToldF := ⟨20, 3, [.slot 0 (.int .i64), .slot 1 (.int .i64), .slot 2 (.int .i64)], [.ty (.int .i64)], fun d => ref08_Part F d.1 d.2.1 d.2.2.1⟩
theorem ref08_Part_ok (F : Nat) : (ref08_Part_told F).ok Try.prog :=
  toldF_ok callable (ref08_Part_all F) (fn := Try.f20) (t := ref08_Part_told F) (anns := [(0, ref08_Part_l0_ann F)]) (by kernel_rfl) (annsOk_cons (by kernel_rfl) (fun B w => ref08_Part_l0_ok F B w) (annsOk_nil _ _))
    (fun d => (by kernel_rfl : evBody Try.prog (calT Try.prog (ref08_Part_tab F) _) (qcalT (ref08_Part_tab F) _) (annOf [(0, ref08_Part_l0_ann F)]) 20 (bldS 3 (ref08_Part_told F).ins d).tmps (bldS 3 (ref08_Part_told F).ins d).heap (fun l H' => exO H' (ref08_Part_told F).os l []) = ref08_Part F d.1 d.2.1 d.2.2.1)) rfl

def bctable_anchors_tab (F : Nat) : List ToldF := []
theorem bctable_anchors_all (F : Nat) : AllOk Try.prog (bctable_anchors_tab F) := trivial

def bctable_anchors_told (F : Nat) : ToldF := ⟨57, 1, [.slot 0 (.agg [.int .i64, .int .i64])], [.row .u8 1], fun d => bctable_anchors F d.1⟩
theorem bctable_anchors_ok (F : Nat) : (bctable_anchors_told F).ok Try.prog :=
  toldF_ok callable (bctable_anchors_all F) (fn := Try.f57) (t := bctable_anchors_told F) (anns := []) (by kernel_rfl) (annsOk_nil _ _)
    (fun d => (by kernel_rfl : evBody Try.prog (calT Try.prog (bctable_anchors_tab F) _) (qcalT (bctable_anchors_tab F) _) (annOf []) 57 (bldS 1 (bctable_anchors_told F).ins d).tmps (bldS 1 (bctable_anchors_told F).ins d).heap (fun l H' => exO H' (bctable_anchors_told F).os l []) = bctable_anchors F d.1)) rfl

def bctable_Anchor_tab (F : Nat) : List ToldF := [bctable_in_told F, bctable_anchors_told F]
theorem bctable_Anchor_all (F : Nat) : AllOk Try.prog (bctable_Anchor_tab F) := ⟨bctable_in_ok F, ⟨bctable_anchors_ok F, trivial⟩⟩

def bctable_Anchor_told (F : Nat) : ToldF := ⟨21, 3, [.slot 0 (.int .i64), .slot 1 (.int .i64), .slot 2 (.int .i64)], [.ty (.int .i64)], fun d => bctable_Anchor F d.1 d.2.1 d.2.2.1⟩
theorem bctable_Anchor_ok (F : Nat) : (bctable_Anchor_told F).ok Try.prog :=
  toldF_ok callable (bctable_Anchor_all F) (fn := Try.f21) (t := bctable_Anchor_told F) (anns := []) (by kernel_rfl) (annsOk_nil _ _)
    (fun d => (by kernel_rfl : evBody Try.prog (calT Try.prog (bctable_Anchor_tab F) _) (qcalT (bctable_Anchor_tab F) _) (annOf []) 21 (bldS 3 (bctable_Anchor_told F).ins d).tmps (bldS 3 (bctable_Anchor_told F).ins d).heap (fun l H' => exO H' (bctable_Anchor_told F).os l []) = bctable_Anchor F d.1 d.2.1 d.2.2.1)) rfl

def ref08_anchors_tab (F : Nat) : List ToldF := []
theorem ref08_anchors_all (F : Nat) : AllOk Try.prog (ref08_anchors_tab F) := trivial

def ref08_anchors_told (F : Nat) : ToldF := ⟨58, 1, [.slot 0 (.int .i64)], [.row .i64 1], fun d => ref08_anchors F d.1⟩
theorem ref08_anchors_ok (F : Nat) : (ref08_anchors_told F).ok Try.prog :=
  toldF_ok callable (ref08_anchors_all F) (fn := Try.f58) (t := ref08_anchors_told F) (anns := []) (by kernel_rfl) (annsOk_nil _ _)
    (fun d => (by kernel_rfl : evBody Try.prog (calT Try.prog (ref08_anchors_tab F) _) (qcalT (ref08_anchors_tab F) _) (annOf []) 58 (bldS 1 (ref08_anchors_told F).ins d).tmps (bldS 1 (ref08_anchors_told F).ins d).heap (fun l H' => exO H' (ref08_anchors_told F).os l []) = ref08_anchors F d.1)) rfl

def ref08_Anchor_tab (F : Nat) : List ToldF := [ref08_anchors_told F]
theorem ref08_Anchor_all (F : Nat) : AllOk Try.prog (ref08_Anchor_tab F) := ⟨ref08_anchors_ok F, trivial⟩

def ref08_Anchor_told (F : Nat) : ToldF := ⟨22, 3, [.slot 0 (.int .i64), .slot 1 (.int .i64), .slot 2 (.int .i64)], [.ty (.int .i64)], fun d => ref08_Anchor F d.1 d.2.1 d.2.2.1⟩
theorem ref08_Anchor_ok (F : Nat) : (ref08_Anchor_told F).ok Try.prog :=
  toldF_ok callable (ref08_Anchor_all F) (fn := Try.f22) (t := ref08_Anchor_told F) (anns := []) (by kernel_rfl) (annsOk_nil _ _)
    (fun d => (by kernel_rfl : evBody Try.prog (calT Try.prog (ref08_Anchor_tab F) _) (qcalT (ref08_Anchor_tab F) _) (annOf []) 22 (bldS 3 (ref08_Anchor_told F).ins d).tmps (bldS 3 (ref08_Anchor_told F).ins d).heap (fun l H' => exO H' (ref08_Anchor_told F).os l []) = ref08_Anchor F d.1 d.2.1 d.2.2.1)) rfl

def bctable_Weights_tab (F : Nat) : List ToldF := []
theorem bctable_Weights_all (F : Nat) : AllOk Try.prog (bctable_Weights_tab F) := trivial

def bctable_Weights_told (F : Nat) : ToldF := ⟨17, 1, [.slot 0 (.int .i64)], [.row .i64 1], fun d => bctable_Weights F d.1⟩
theorem bctable_Weights_ok (F : Nat) : (bctable_Weights_told F).ok Try.prog :=
  toldF_ok callable (bctable_Weights_all F) (fn := Try.f17) (t := bctable_Weights_told F) (anns := []) (by kernel_rfl) (annsOk_nil _ _)
    (fun d => (by kernel_rfl : evBody Try.prog (calT Try.prog (bctable_Weights_tab F) _) (qcalT (bctable_Weights_tab F) _) (annOf []) 17 (bldS 1 (bctable_Weights_told F).ins d).tmps (bldS 1 (bctable_Weights_told F).ins d).heap (fun l H' => exO H' (bctable_Weights_told F).os l []) = bctable_Weights F d.1)) rfl

def ref08_Weights_tab (F : Nat) : List ToldF := []
theorem ref08_Weights_all (F : Nat) : AllOk Try.prog (ref08_Weights_tab F) := trivial

def ref08_Weights_told (F : Nat) : ToldF := ⟨18, 1, [.slot 0 (.int .i64)], [.row .i64 1], fun d => ref08_Weights F d.1⟩
theorem ref08_Weights_ok (F : Nat) : (ref08_Weights_told F).ok Try.prog :=
  toldF_ok callable (ref08_Weights_all F) (fn := Try.f18) (t := ref08_Weights_told F) (anns := []) (by kernel_rfl) (annsOk_nil _ _)
    (fun d => (by kernel_rfl : evBody Try.prog (calT Try.prog (ref08_Weights_tab F) _) (qcalT (ref08_Weights_tab F) _) (annOf []) 18 (bldS 1 (ref08_Weights_told F).ins d).tmps (bldS 1 (ref08_Weights_told F).ins d).heap (fun l H' => exO H' (ref08_Weights_told F).os l []) = ref08_Weights F d.1)) rfl

def law08_awake_tab (F : Nat) : List ToldF := [bctable_Anchor_told F, bctable_Part_told F, bctable_Weights_told F]
theorem law08_awake_all (F : Nat) : AllOk Try.prog (law08_awake_tab F) := ⟨bctable_Anchor_ok F, ⟨bctable_Part_ok F, ⟨bctable_Weights_ok F, trivial⟩⟩⟩

def law08_awake_told (F : Nat) : ToldF := ⟨14, 0, [], [.ty (.bool)], fun d => law08_awake F⟩
theorem law08_awake_ok (F : Nat) : (law08_awake_told F).ok Try.prog :=
  toldF_ok callable (law08_awake_all F) (fn := Try.f14) (t := law08_awake_told F) (anns := []) (by kernel_rfl) (annsOk_nil _ _)
    (fun d => (by kernel_rfl : evBody Try.prog (calT Try.prog (law08_awake_tab F) _) (qcalT (law08_awake_tab F) _) (annOf []) 14 (bldS 0 (law08_awake_told F).ins d).tmps (bldS 0 (law08_awake_told F).ins d).heap (fun l H' => exO H' (law08_awake_told F).os l []) = law08_awake F)) rfl

def law08_Tells_tab (F : Nat) : List ToldF := [ref08_Anchor_told F, bctable_Anchor_told F, ref08_Part_told F, bctable_Part_told F, ref08_Weights_told F, bctable_Weights_told F, law08_awake_told F]
theorem law08_Tells_all (F : Nat) : AllOk Try.prog (law08_Tells_tab F) := ⟨ref08_Anchor_ok F, ⟨bctable_Anchor_ok F, ⟨ref08_Part_ok F, ⟨bctable_Part_ok F, ⟨ref08_Weights_ok F, ⟨bctable_Weights_ok F, ⟨law08_awake_ok F, trivial⟩⟩⟩⟩⟩⟩⟩

abbrev law08_Tells_l2_ins : List Go.AE.Item := [.slot 0 (.int .i64), .slot 1 (.int .i64), .slot 2 (.int .i64), .slot 7 (.bool), .row .i64 1 (.slot 10) true, .row .i64 1 (.slot 11) true, .slot 14 (.int .i64)]
abbrev law08_Tells_l2_outs : List Go.AE.Item := [.slot 0 (.int .i64), .slot 1 (.int .i64), .slot 2 (.int .i64), .slot 7 (.bool)]
abbrev law08_Tells_l2_outX : List Go.AE.Item := [.const 6 (.bool (some false) false)]
def law08_Tells_l2_ann (F : Nat) {ρ : Type} : Ann ρ := annX 108 law08_Tells_l2_ins law08_Tells_l2_outX law08_Tells_l2_outs .ret fun d => law08_Tells_l2 F F d.1 d.2.1 d.2.2.1 d.2.2.2.1 d.2.2.2.2.1 d.2.2.2.2.2.1 d.2.2.2.2.2.2.1
theorem law08_Tells_l2_ok (F : Nat) {ρ : Type} (B : Nat) (w : World) : AnnAt (ρ := ρ) Try.prog false B w (.block 2 (.loop (loopAt (bodyOf Try.f3) 2))) (law08_Tells_l2_ann F) :=
  toldX_ok callable (law08_Tells_all F) (ins := law08_Tells_l2_ins) (outX := law08_Tells_l2_outX) (outs := law08_Tells_l2_outs) (anns := []) (L := fun k d => law08_Tells_l2 F k d.1 d.2.1 d.2.2.1 d.2.2.2.1 d.2.2.2.2.1 d.2.2.2.2.2.1 d.2.2.2.2.2.2.1) (annsOk_nil _ _) (fun d => rfl)
    (fun k d => (by kernel_rfl : evCode Try.prog (calT Try.prog (law08_Tells_tab F) _) (qcalT (law08_Tells_tab F) _) (annOf []) (loopAt (bodyOf Try.f3) 2) (bldS 108 law08_Tells_l2_ins d) (kX 108 law08_Tells_l2_ins law08_Tells_l2_outX law08_Tells_l2_outs 2 .ret fun d => law08_Tells_l2 F k d.1 d.2.1 d.2.2.1 d.2.2.2.1 d.2.2.2.2.1 d.2.2.2.2.2.1 d.2.2.2.2.2.2.1) = law08_Tells_l2S F (law08_Tells_l2 F k) d.1 d.2.1 d.2.2.1 d.2.2.2.1 d.2.2.2.2.1 d.2.2.2.2.2.1 d.2.2.2.2.2.2.1)) (by first | exact .inl rfl | exact .inr ⟨_, rfl, by decide⟩) F B w

def law08_Tells_told (F : Nat) : ToldF := ⟨3, 3, [.slot 0 (.int .i64), .slot 1 (.int .i64), .slot 2 (.int .i64)], [.ty (.bool)], fun d => law08_Tells F d.1 d.2.1 d.2.2.1⟩
theorem law08_Tells_ok (F : Nat) : (law08_Tells_told F).ok Try.prog :=
  toldF_ok callable (law08_Tells_all F) (fn := Try.f3) (t := law08_Tells_told F) (anns := [(2, law08_Tells_l2_ann F)]) (by kernel_rfl) (annsOk_cons (by kernel_rfl) (fun B w => law08_Tells_l2_ok F B w) (annsOk_nil _ _))
    (fun d => (by kernel_rfl : evBody Try.prog (calT Try.prog (law08_Tells_tab F) _) (qcalT (law08_Tells_tab F) _) (annOf [(2, law08_Tells_l2_ann F)]) 3 (bldS 3 (law08_Tells_told F).ins d).tmps (bldS 3 (law08_Tells_told F).ins d).heap (fun l H' => exO H' (law08_Tells_told F).os l []) = law08_Tells F d.1 d.2.1 d.2.2.1)) rfl

def law08_Deals_tab (F : Nat) : List ToldF := [law08_awake_told F]
theorem law08_Deals_all (F : Nat) : AllOk Try.prog (law08_Deals_tab F) := ⟨law08_awake_ok F, trivial⟩

def law08_Deals_told (F : Nat) : ToldF := ⟨4, 1, [.slot 0 (.int .i64)], [.ty (.bool)], fun d => law08_Deals F d.1⟩
theorem law08_Deals_ok (F : Nat) : (law08_Deals_told F).ok Try.prog :=
  toldF_ok callable (law08_Deals_all F) (fn := Try.f4) (t := law08_Deals_told F) (anns := []) (by kernel_rfl) (annsOk_nil _ _)
    (fun d => (by kernel_rfl : evBody Try.prog (calT Try.prog (law08_Deals_tab F) _) (qcalT (law08_Deals_tab F) _) (annOf []) 4 (bldS 1 (law08_Deals_told F).ins d).tmps (bldS 1 (law08_Deals_told F).ins d).heap (fun l H' => exO H' (law08_Deals_told F).os l []) = law08_Deals F d.1)) rfl

def law08_Weighs_tab (F : Nat) : List ToldF := [bctable_Weights_told F, law08_awake_told F]
theorem law08_Weighs_all (F : Nat) : AllOk Try.prog (law08_Weighs_tab F) := ⟨bctable_Weights_ok F, ⟨law08_awake_ok F, trivial⟩⟩

abbrev law08_Weighs_l0_ins : List Go.AE.Item := [.slot 0 (.int .i64), .slot 3 (.bool), .row .i64 1 (.slot 4) true, .slot 5 (.int .i64), .slot 6 (.int .i64)]
abbrev law08_Weighs_l0_outs : List Go.AE.Item := [.slot 3 (.bool), .row .i64 1 (.slot 4) true, .slot 5 (.int .i64)]
def law08_Weighs_l0_ann (F : Nat) {ρ : Type} : Ann ρ := annS 75 law08_Weighs_l0_ins law08_Weighs_l0_outs fun d => law08_Weighs_l0 F F d.1 d.2.1 d.2.2.1 d.2.2.2.1 d.2.2.2.2.1
theorem law08_Weighs_l0_ok (F : Nat) {ρ : Type} (B : Nat) (w : World) : AnnAt (ρ := ρ) Try.prog false B w (.block 0 (.loop (loopAt (bodyOf Try.f5) 0))) (law08_Weighs_l0_ann F) :=
  toldS_ok callable (law08_Weighs_all F) (ins := law08_Weighs_l0_ins) (outs := law08_Weighs_l0_outs) (anns := []) (L := fun k d => law08_Weighs_l0 F k d.1 d.2.1 d.2.2.1 d.2.2.2.1 d.2.2.2.2.1) (annsOk_nil _ _) (fun d => rfl)
    (fun k d => (by kernel_rfl : evCode Try.prog (calT Try.prog (law08_Weighs_tab F) _) (qcalT (law08_Weighs_tab F) _) (annOf []) (loopAt (bodyOf Try.f5) 0) (bldS 75 law08_Weighs_l0_ins d) (kS 75 law08_Weighs_l0_ins law08_Weighs_l0_outs 0 fun d => law08_Weighs_l0 F k d.1 d.2.1 d.2.2.1 d.2.2.2.1 d.2.2.2.2.1) = law08_Weighs_l0S F (law08_Weighs_l0 F k) d.1 d.2.1 d.2.2.1 d.2.2.2.1 d.2.2.2.2.1)) F B w

abbrev law08_Weighs_l2_ins : List Go.AE.Item := [.slot 3 (.bool), .row .i64 1 (.slot 4) true, .slot 5 (.int .i64), .slot 7 (.int .i64)]
abbrev law08_Weighs_l2_outs : List Go.AE.Item := [.slot 3 (.bool), .row .i64 1 (.slot 4) true]
abbrev law08_Weighs_l2_outX : List Go.AE.Item := [.const 2 (.bool (some false) false)]
def law08_Weighs_l2_ann (F : Nat) {ρ : Type} : Ann ρ := annX 75 law08_Weighs_l2_ins law08_Weighs_l2_outX law08_Weighs_l2_outs .ret fun d => law08_Weighs_l2 F F d.1 d.2.1 d.2.2.1 d.2.2.2.1
theorem law08_Weighs_l2_ok (F : Nat) {ρ : Type} (B : Nat) (w : World) : AnnAt (ρ := ρ) Try.prog false B w (.block 2 (.loop (loopAt (bodyOf Try.f5) 2))) (law08_Weighs_l2_ann F) :=
  toldX_ok callable (law08_Weighs_all F) (ins := law08_Weighs_l2_ins) (outX := law08_Weighs_l2_outX) (outs := law08_Weighs_l2_outs) (anns := []) (L := fun k d => law08_Weighs_l2 F k d.1 d.2.1 d.2.2.1 d.2.2.2.1) (annsOk_nil _ _) (fun d => rfl)
    (fun k d => (by kernel_rfl : evCode Try.prog (calT Try.prog (law08_Weighs_tab F) _) (qcalT (law08_Weighs_tab F) _) (annOf []) (loopAt (bodyOf Try.f5) 2) (bldS 75 law08_Weighs_l2_ins d) (kX 75 law08_Weighs_l2_ins law08_Weighs_l2_outX law08_Weighs_l2_outs 2 .ret fun d => law08_Weighs_l2 F k d.1 d.2.1 d.2.2.1 d.2.2.2.1) = law08_Weighs_l2S F (law08_Weighs_l2 F k) d.1 d.2.1 d.2.2.1 d.2.2.2.1)) (by first | exact .inl rfl | exact .inr ⟨_, rfl, by decide⟩) F B w

def law08_Weighs_told (F : Nat) : ToldF := ⟨5, 1, [.slot 0 (.int .i64)], [.ty (.bool)], fun d => law08_Weighs F d.1⟩
theorem law08_Weighs_ok (F : Nat) : (law08_Weighs_told F).ok Try.prog :=
  toldF_ok callable (law08_Weighs_all F) (fn := Try.f5) (t := law08_Weighs_told F) (anns := [(0, law08_Weighs_l0_ann F), (2, law08_Weighs_l2_ann F)]) (by kernel_rfl) (annsOk_cons (by kernel_rfl) (fun B w => law08_Weighs_l0_ok F B w) (annsOk_cons (by kernel_rfl) (fun B w => law08_Weighs_l2_ok F B w) (annsOk_nil _ _)))
    (fun d => (by kernel_rfl : evBody Try.prog (calT Try.prog (law08_Weighs_tab F) _) (qcalT (law08_Weighs_tab F) _) (annOf [(0, law08_Weighs_l0_ann F), (2, law08_Weighs_l2_ann F)]) 5 (bldS 1 (law08_Weighs_told F).ins d).tmps (bldS 1 (law08_Weighs_told F).ins d).heap (fun l H' => exO H' (law08_Weighs_told F).os l []) = law08_Weighs F d.1)) rfl

end Go.Proofs.Ytjmdnghdbfmijaa

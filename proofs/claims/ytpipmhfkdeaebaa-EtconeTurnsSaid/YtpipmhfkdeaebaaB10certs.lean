/- Printed by a program of mine (gen.py): the Go functions of this part come to what is told. -/
import Derived.Test.YtpipmhfkdeaebaaRows
import Derived.KernelRfl
import Derived.Test.YtpipmhfkdeaebaaB10defs
set_option linter.unusedSimpArgs false
set_option maxRecDepth 100000
set_option linter.unusedVariables false
namespace Go.Proofs.Ytpipmhfkdeaebaa
open Go Go.AE Go.AE.Gn
theorem callable : Callable Try.prog := callable_of (by kernel_rfl)
def bits_room_tab (F : Nat) : List ToldF := []
theorem bits_room_all (F : Nat) : AllOk Try.prog (bits_room_tab F) := trivial

def bits_room_told (F : Nat) : ToldF := ⟨77, 3, [.row .u8 1 (.slot 0) false, .slot 1 (.int .i64), .slot 2 (.int .i64)], [.ty (.bool)], fun d => bits_room F d.1 d.2.1 d.2.2.1⟩
theorem bits_room_ok (F : Nat) : (bits_room_told F).ok Try.prog :=
  toldF_ok callable (bits_room_all F) (fn := Try.f77) (t := bits_room_told F) (anns := []) (by kernel_rfl) (annsOk_nil _ _)
    (fun d => (by kernel_rfl : evBody Try.prog (calT Try.prog (bits_room_tab F) _) (qcalT (bits_room_tab F) _) (annOf []) 77 (bldS 3 (bits_room_told F).ins d).tmps (bldS 3 (bits_room_told F).ins d).heap (endO (bits_room_told F).os) = bits_room F d.1 d.2.1 d.2.2.1))

def bits_check_tab (F : Nat) : List ToldF := [bits_room_told F]
theorem bits_check_all (F : Nat) : AllOk Try.prog (bits_check_tab F) := ⟨bits_room_ok F, trivial⟩

def bits_check_told (F : Nat) : ToldF := ⟨85, 3, [.row .u8 1 (.slot 0) false, .slot 1 (.int .i64), .slot 2 (.int .i64)], [.ty (.int .i64)], fun d => bits_check F d.1 d.2.1 d.2.2.1⟩
theorem bits_check_ok (F : Nat) : (bits_check_told F).ok Try.prog :=
  toldF_ok callable (bits_check_all F) (fn := Try.f85) (t := bits_check_told F) (anns := []) (by kernel_rfl) (annsOk_nil _ _)
    (fun d => (by kernel_rfl : evBody Try.prog (calT Try.prog (bits_check_tab F) _) (qcalT (bits_check_tab F) _) (annOf []) 85 (bldS 3 (bits_check_told F).ins d).tmps (bldS 3 (bits_check_told F).ins d).heap (endO (bits_check_told F).os) = bits_check F d.1 d.2.1 d.2.2.1))

def bits_fits_tab (F : Nat) : List ToldF := [bits_check_told F]
theorem bits_fits_all (F : Nat) : AllOk Try.prog (bits_fits_tab F) := ⟨bits_check_ok F, trivial⟩

def bits_fits_told (F : Nat) : ToldF := ⟨80, 4, [.row .u8 1 (.slot 0) false, .slot 1 (.int .i64), .slot 2 (.int .i64), .slot 3 (.int .u64)], [.ty (.int .i64)], fun d => bits_fits F d.1 d.2.1 d.2.2.1 d.2.2.2.1⟩
theorem bits_fits_ok (F : Nat) : (bits_fits_told F).ok Try.prog :=
  toldF_ok callable (bits_fits_all F) (fn := Try.f80) (t := bits_fits_told F) (anns := []) (by kernel_rfl) (annsOk_nil _ _)
    (fun d => (by kernel_rfl : evBody Try.prog (calT Try.prog (bits_fits_tab F) _) (qcalT (bits_fits_tab F) _) (annOf []) 80 (bldS 4 (bits_fits_told F).ins d).tmps (bldS 4 (bits_fits_told F).ins d).heap (endO (bits_fits_told F).os) = bits_fits F d.1 d.2.1 d.2.2.1 d.2.2.2.1))

def slices_Clone_byte_byte_told (F : Nat) : ToldF := ⟨81, 1, [.row .u8 1 (.slot 0) false], [.row .u8 1], fun d => slices_Clone_byte_byte F d.1⟩
theorem slices_Clone_byte_byte_ok (F : Nat) : (slices_Clone_byte_byte_told F).ok Try.prog :=
  clone_spec callable (fn := Try.f81) (f := 81) (k := .u8) (sz := 1) (R0 := cloneR0 (bodyOf Try.f81)) (X := cloneX (bodyOf Try.f81)) (REST := cloneRest (bodyOf Try.f81)) (o3 := cloneO3 (bodyOf Try.f81)) (o4 := cloneO4 (bodyOf Try.f81)) (t := 32) (t' := 32) (e := 5) (i1 := 1) (by kernel_rfl) (by kernel_rfl) (by kernel_rfl) (by kernel_rfl) (by kernel_rfl) (by kernel_rfl) (by kernel_rfl)
    (cloneS1 1 .u8) (cloneS2 1 .u8)
    (fun l => by kernel_rfl) (fun l => by kernel_rfl) (fun l => ⟨rfl, rfl⟩) (fun l => by simp [cloneS2]) (fun l => by kernel_rfl) (fun l => by kernel_rfl)

def bits_set_tab (F : Nat) : List ToldF := []
theorem bits_set_all (F : Nat) : AllOk Try.prog (bits_set_tab F) := trivial

def bits_set_told (F : Nat) : ToldF := ⟨82, 3, [.slot 0 (.int .u8), .slot 1 (.int .i64), .slot 2 (.int .u64)], [.ty (.int .u8)], fun d => bits_set F d.1 d.2.1 d.2.2.1⟩
theorem bits_set_ok (F : Nat) : (bits_set_told F).ok Try.prog :=
  toldF_ok callable (bits_set_all F) (fn := Try.f82) (t := bits_set_told F) (anns := []) (by kernel_rfl) (annsOk_nil _ _)
    (fun d => (by kernel_rfl : evBody Try.prog (calT Try.prog (bits_set_tab F) _) (qcalT (bits_set_tab F) _) (annOf []) 82 (bldS 3 (bits_set_told F).ins d).tmps (bldS 3 (bits_set_told F).ins d).heap (endO (bits_set_told F).os) = bits_set F d.1 d.2.1 d.2.2.1))

def bits_SetHigh_tab (F : Nat) : List ToldF := [bits_fits_told F, slices_Clone_byte_byte_told F, bits_set_told F]
theorem bits_SetHigh_all (F : Nat) : AllOk Try.prog (bits_SetHigh_tab F) := ⟨bits_fits_ok F, ⟨slices_Clone_byte_byte_ok F, ⟨bits_set_ok F, trivial⟩⟩⟩

abbrev bits_SetHigh_l0_ins : List Go.AE.Item := [.slot 1 (.int .i64), .slot 2 (.int .i64), .slot 3 (.int .u64), .row .u8 1 (.slot 11) true, .slot 24 (.int .i64), .slot 25 (.int .i64)]
abbrev bits_SetHigh_l0_outs : List Go.AE.Item := [.row .u8 1 (.slot 11) true]
def bits_SetHigh_l0_ann (F : Nat) {ρ : Type} : Ann ρ := annS 52 bits_SetHigh_l0_ins bits_SetHigh_l0_outs fun d => bits_SetHigh_l0 F F d.1 d.2.1 d.2.2.1 d.2.2.2.1 d.2.2.2.2.1 d.2.2.2.2.2.1
theorem bits_SetHigh_l0_ok (F : Nat) {ρ : Type} (B : Base) (w : World) : AnnAt (ρ := ρ) Try.prog false B w (.block 0 (.loop (loopAt (bodyOf Try.f59) 0))) (bits_SetHigh_l0_ann F) :=
  toldS_ok callable (bits_SetHigh_all F) (ins := bits_SetHigh_l0_ins) (outs := bits_SetHigh_l0_outs) (anns := []) (L := fun k d => bits_SetHigh_l0 F k d.1 d.2.1 d.2.2.1 d.2.2.2.1 d.2.2.2.2.1 d.2.2.2.2.2.1) (annsOk_nil _ _) (fun d => rfl)
    (fun k d => (by kernel_rfl : evCode Try.prog (calT Try.prog (bits_SetHigh_tab F) _) (qcalT (bits_SetHigh_tab F) _) (annOf []) (loopAt (bodyOf Try.f59) 0) (bldS 52 bits_SetHigh_l0_ins d) (kS 52 bits_SetHigh_l0_ins bits_SetHigh_l0_outs 0 fun d => bits_SetHigh_l0 F k d.1 d.2.1 d.2.2.1 d.2.2.2.1 d.2.2.2.2.1 d.2.2.2.2.2.1) = bits_SetHigh_l0S F (bits_SetHigh_l0 F k) d.1 d.2.1 d.2.2.1 d.2.2.2.1 d.2.2.2.2.1 d.2.2.2.2.2.1)) F B w

def bits_SetHigh_told (F : Nat) : ToldF := ⟨59, 4, [.row .u8 1 (.slot 0) false, .slot 1 (.int .i64), .slot 2 (.int .i64), .slot 3 (.int .u64)], [.row .u8 1, .ty (.int .i64)], fun d => bits_SetHigh F d.1 d.2.1 d.2.2.1 d.2.2.2.1⟩
theorem bits_SetHigh_ok (F : Nat) : (bits_SetHigh_told F).ok Try.prog :=
  toldF_ok callable (bits_SetHigh_all F) (fn := Try.f59) (t := bits_SetHigh_told F) (anns := [(0, bits_SetHigh_l0_ann F)]) (by kernel_rfl) (annsOk_cons (by kernel_rfl) (fun B w => bits_SetHigh_l0_ok F B w) (annsOk_nil _ _))
    (fun d => (by kernel_rfl : evBody Try.prog (calT Try.prog (bits_SetHigh_tab F) _) (qcalT (bits_SetHigh_tab F) _) (annOf [(0, bits_SetHigh_l0_ann F)]) 59 (bldS 4 (bits_SetHigh_told F).ins d).tmps (bldS 4 (bits_SetHigh_told F).ins d).heap (endO (bits_SetHigh_told F).os) = bits_SetHigh F d.1 d.2.1 d.2.2.1 d.2.2.2.1))

def etcone_Join_c1_tab (F : Nat) : List ToldF := [bits_SetHigh_told F]
theorem etcone_Join_c1_all (F : Nat) : AllOk Try.prog (etcone_Join_c1_tab F) := ⟨bits_SetHigh_ok F, trivial⟩

def etcone_Join_c1_told (F : Nat) : ToldF := ⟨58, 5, [.slot 0 (.int .i64), .slot 1 (.int .i64), .slot 2 (.int .i64), .row .u8 1 (.cell (.slot 3) 0) false, .segs [.sl 0 1 .whole] (.slot 3) true (some 1), .ptr 3 1 1, .segs [.hole (.bool)] (.slot 4) true (some 2), .ptr 4 2 1], [.psegs 1 [.row .u8 1 false], .psegs 2 [.hole (.bool)]], fun d => etcone_Join_c1 F d.1 d.2.1 d.2.2.1 d.2.2.2.1 d.2.2.2.2.1⟩
theorem etcone_Join_c1_ok (F : Nat) : (etcone_Join_c1_told F).ok Try.prog :=
  toldF_ok callable (etcone_Join_c1_all F) (fn := Try.f58) (t := etcone_Join_c1_told F) (anns := []) (by kernel_rfl) (annsOk_nil _ _)
    (fun d => (by kernel_rfl : evBody Try.prog (calT Try.prog (etcone_Join_c1_tab F) _) (qcalT (etcone_Join_c1_tab F) _) (annOf []) 58 (bldS 5 (etcone_Join_c1_told F).ins d).tmps (bldS 5 (etcone_Join_c1_told F).ins d).heap (endO (etcone_Join_c1_told F).os) = etcone_Join_c1 F d.1 d.2.1 d.2.2.1 d.2.2.2.1 d.2.2.2.2.1))

def etcone_truth_tab (F : Nat) : List ToldF := []
theorem etcone_truth_all (F : Nat) : AllOk Try.prog (etcone_truth_tab F) := trivial

def etcone_truth_told (F : Nat) : ToldF := ⟨60, 1, [.slot 0 (.bool)], [.ty (.int .i64)], fun d => etcone_truth F d.1⟩
theorem etcone_truth_ok (F : Nat) : (etcone_truth_told F).ok Try.prog :=
  toldF_ok callable (etcone_truth_all F) (fn := Try.f60) (t := etcone_truth_told F) (anns := []) (by kernel_rfl) (annsOk_nil _ _)
    (fun d => (by kernel_rfl : evBody Try.prog (calT Try.prog (etcone_truth_tab F) _) (qcalT (etcone_truth_tab F) _) (annOf []) 60 (bldS 1 (etcone_truth_told F).ins d).tmps (bldS 1 (etcone_truth_told F).ins d).heap (endO (etcone_truth_told F).os) = etcone_truth F d.1))

def etcone_column_tab (F : Nat) : List ToldF := []
theorem etcone_column_all (F : Nat) : AllOk Try.prog (etcone_column_tab F) := trivial

def etcone_column_told (F : Nat) : ToldF := ⟨54, 1, [.slot 0 (.int .i64)], [.ty (.int .i64)], fun d => etcone_column F d.1⟩
theorem etcone_column_ok (F : Nat) : (etcone_column_told F).ok Try.prog :=
  toldF_ok callable (etcone_column_all F) (fn := Try.f54) (t := etcone_column_told F) (anns := []) (by kernel_rfl) (annsOk_nil _ _)
    (fun d => (by kernel_rfl : evBody Try.prog (calT Try.prog (etcone_column_tab F) _) (qcalT (etcone_column_tab F) _) (annOf []) 54 (bldS 1 (etcone_column_told F).ins d).tmps (bldS 1 (etcone_column_told F).ins d).heap (endO (etcone_column_told F).os) = etcone_column F d.1))

def etcone_Join_tab (F : Nat) : List ToldF := [etcone_Join_c1_told F, etcone_truth_told F, etcone_column_told F]
theorem etcone_Join_all (F : Nat) : AllOk Try.prog (etcone_Join_tab F) := ⟨etcone_Join_c1_ok F, ⟨etcone_truth_ok F, ⟨etcone_column_ok F, trivial⟩⟩⟩

abbrev etcone_Join_l0_ins : List Go.AE.Item := [.segs [.hole (.bool), .hole (.bool), .hole (.is .i64 3), .hole (.is .i64 3), .hole (.is .i64 2), .hole (.is .i64 16)] (.slot 1) true, .ptr 1 0 26, .row .u8 1 (.cell (.slot 4) 0) false, .segs [.sl 1 1 .whole] (.slot 4) true, .ptr 4 2 1, .segs [.hole (.bool)] (.slot 5) true, .ptr 5 3 1, .fn 6 58 [.ptr 2 1, .ptr 3 1], .slot 13 (.int .i64)]
abbrev etcone_Join_l0_outs : List Go.AE.Item := [.segs [.hole (.bool), .hole (.bool), .hole (.is .i64 3), .hole (.is .i64 3), .hole (.is .i64 2), .hole (.is .i64 16)] (.slot 1) true, .ptr 1 0 26, .row .u8 1 (.cell (.slot 4) 0) false, .segs [.sl 1 1 .whole] (.slot 4) true, .ptr 4 2 1, .segs [.hole (.bool)] (.slot 5) true, .ptr 5 3 1, .fn 6 58 [.ptr 2 1, .ptr 3 1]]
def etcone_Join_l0_ann (F : Nat) {ρ : Type} : Ann ρ := annS 129 etcone_Join_l0_ins etcone_Join_l0_outs fun d => etcone_Join_l0 F F d.1 d.2.1 d.2.2.1 d.2.2.2.1 d.2.2.2.2.1 d.2.2.2.2.2.1 d.2.2.2.2.2.2.1 d.2.2.2.2.2.2.2.1 d.2.2.2.2.2.2.2.2.1
theorem etcone_Join_l0_ok (F : Nat) {ρ : Type} (B : Base) (w : World) : AnnAt (ρ := ρ) Try.prog false B w (.block 0 (.loop (loopAt (bodyOf Try.f36) 0))) (etcone_Join_l0_ann F) :=
  toldS_ok callable (etcone_Join_all F) (ins := etcone_Join_l0_ins) (outs := etcone_Join_l0_outs) (anns := []) (L := fun k d => etcone_Join_l0 F k d.1 d.2.1 d.2.2.1 d.2.2.2.1 d.2.2.2.2.1 d.2.2.2.2.2.1 d.2.2.2.2.2.2.1 d.2.2.2.2.2.2.2.1 d.2.2.2.2.2.2.2.2.1) (annsOk_nil _ _) (fun d => rfl)
    (fun k d => (by kernel_rfl : evCode Try.prog (calT Try.prog (etcone_Join_tab F) _) (qcalT (etcone_Join_tab F) _) (annOf []) (loopAt (bodyOf Try.f36) 0) (bldS 129 etcone_Join_l0_ins d) (kS 129 etcone_Join_l0_ins etcone_Join_l0_outs 0 fun d => etcone_Join_l0 F k d.1 d.2.1 d.2.2.1 d.2.2.2.1 d.2.2.2.2.1 d.2.2.2.2.2.1 d.2.2.2.2.2.2.1 d.2.2.2.2.2.2.2.1 d.2.2.2.2.2.2.2.2.1) = etcone_Join_l0S F (etcone_Join_l0 F k) d.1 d.2.1 d.2.2.1 d.2.2.2.1 d.2.2.2.2.1 d.2.2.2.2.2.1 d.2.2.2.2.2.2.1 d.2.2.2.2.2.2.2.1 d.2.2.2.2.2.2.2.2.1)) F B w

abbrev etcone_Join_l2_ins : List Go.AE.Item := [.row .u8 1 (.cell (.slot 4) 0) false, .segs [.sl 0 1 .whole] (.slot 4) true, .ptr 4 1 1, .segs [.hole (.bool)] (.slot 5) true, .ptr 5 2 1, .fn 6 58 [.ptr 1 1, .ptr 2 1], .slot 96 (.is .i64 16), .slot 97 (.int .i64)]
abbrev etcone_Join_l2_outs : List Go.AE.Item := [.row .u8 1 (.cell (.slot 4) 0) false, .segs [.sl 0 1 .whole] (.slot 4) true, .ptr 4 1 1, .segs [.hole (.bool)] (.slot 5) true, .ptr 5 2 1]
def etcone_Join_l2_ann (F : Nat) {ρ : Type} : Ann ρ := annS 129 etcone_Join_l2_ins etcone_Join_l2_outs fun d => etcone_Join_l2 F F d.1 d.2.1 d.2.2.1 d.2.2.2.1
theorem etcone_Join_l2_ok (F : Nat) {ρ : Type} (B : Base) (w : World) : AnnAt (ρ := ρ) Try.prog false B w (.block 2 (.loop (loopAt (bodyOf Try.f36) 2))) (etcone_Join_l2_ann F) :=
  toldS_ok callable (etcone_Join_all F) (ins := etcone_Join_l2_ins) (outs := etcone_Join_l2_outs) (anns := []) (L := fun k d => etcone_Join_l2 F k d.1 d.2.1 d.2.2.1 d.2.2.2.1) (annsOk_nil _ _) (fun d => rfl)
    (fun k d => (by kernel_rfl : evCode Try.prog (calT Try.prog (etcone_Join_tab F) _) (qcalT (etcone_Join_tab F) _) (annOf []) (loopAt (bodyOf Try.f36) 2) (bldS 129 etcone_Join_l2_ins d) (kS 129 etcone_Join_l2_ins etcone_Join_l2_outs 2 fun d => etcone_Join_l2 F k d.1 d.2.1 d.2.2.1 d.2.2.2.1) = etcone_Join_l2S F (etcone_Join_l2 F k) d.1 d.2.1 d.2.2.1 d.2.2.2.1)) F B w

def etcone_Join_told (F : Nat) : ToldF := ⟨36, 1, [.slot 0 (.agg [.bool, .bool, .is .i64 3, .is .i64 3, .is .i64 2, .is .i64 16])], [.row .u8 1 false, .ty (.int .i64)], fun d => etcone_Join F d.1⟩
theorem etcone_Join_ok (F : Nat) : (etcone_Join_told F).ok Try.prog :=
  toldF_ok callable (etcone_Join_all F) (fn := Try.f36) (t := etcone_Join_told F) (anns := [(0, etcone_Join_l0_ann F), (2, etcone_Join_l2_ann F)]) (by kernel_rfl) (annsOk_cons (by kernel_rfl) (fun B w => etcone_Join_l0_ok F B w) (annsOk_cons (by kernel_rfl) (fun B w => etcone_Join_l2_ok F B w) (annsOk_nil _ _)))
    (fun d => (by kernel_rfl : evBody Try.prog (calT Try.prog (etcone_Join_tab F) _) (qcalT (etcone_Join_tab F) _) (annOf [(0, etcone_Join_l0_ann F), (2, etcone_Join_l2_ann F)]) 36 (bldS 1 (etcone_Join_told F).ins d).tmps (bldS 1 (etcone_Join_told F).ins d).heap (endO (etcone_Join_told F).os) = etcone_Join F d.1))

def bits_spread_tab (F : Nat) : List ToldF := []
theorem bits_spread_all (F : Nat) : AllOk Try.prog (bits_spread_tab F) := trivial

abbrev bits_spread_l0_ins : List Go.AE.Item := [.slot 0 (.int .u8), .segs [.hole (.is .u64 8)] (.slot 2) true, .ptr 2 0 8, .segs [.hole (.is .u64 8)] (.slot 3) true, .ptr 3 1 8, .slot 5 (.int .i64)]
abbrev bits_spread_l0_outs : List Go.AE.Item := [.segs [.hole (.is .u64 8)] (.slot 2) true, .ptr 2 0 8, .segs [.hole (.is .u64 8)] (.slot 3) true, .ptr 3 1 8]
def bits_spread_l0_ann (F : Nat) {ρ : Type} : Ann ρ := annS 17 bits_spread_l0_ins bits_spread_l0_outs fun d => bits_spread_l0 F F d.1 d.2.1 d.2.2.1 d.2.2.2.1
theorem bits_spread_l0_ok (F : Nat) {ρ : Type} (B : Base) (w : World) : AnnAt (ρ := ρ) Try.prog false B w (.block 0 (.loop (loopAt (bodyOf Try.f90) 0))) (bits_spread_l0_ann F) :=
  toldS_ok callable (bits_spread_all F) (ins := bits_spread_l0_ins) (outs := bits_spread_l0_outs) (anns := []) (L := fun k d => bits_spread_l0 F k d.1 d.2.1 d.2.2.1 d.2.2.2.1) (annsOk_nil _ _) (fun d => rfl)
    (fun k d => (by kernel_rfl : evCode Try.prog (calT Try.prog (bits_spread_tab F) _) (qcalT (bits_spread_tab F) _) (annOf []) (loopAt (bodyOf Try.f90) 0) (bldS 17 bits_spread_l0_ins d) (kS 17 bits_spread_l0_ins bits_spread_l0_outs 0 fun d => bits_spread_l0 F k d.1 d.2.1 d.2.2.1 d.2.2.2.1) = bits_spread_l0S F (bits_spread_l0 F k) d.1 d.2.1 d.2.2.1 d.2.2.2.1)) F B w

def bits_spread_told (F : Nat) : ToldF := ⟨90, 1, [.slot 0 (.int .u8)], [.ty (.is .u64 8)], fun d => bits_spread F d.1⟩
theorem bits_spread_ok (F : Nat) : (bits_spread_told F).ok Try.prog :=
  toldF_ok callable (bits_spread_all F) (fn := Try.f90) (t := bits_spread_told F) (anns := [(0, bits_spread_l0_ann F)]) (by kernel_rfl) (annsOk_cons (by kernel_rfl) (fun B w => bits_spread_l0_ok F B w) (annsOk_nil _ _))
    (fun d => (by kernel_rfl : evBody Try.prog (calT Try.prog (bits_spread_tab F) _) (qcalT (bits_spread_tab F) _) (annOf [(0, bits_spread_l0_ann F)]) 90 (bldS 1 (bits_spread_told F).ins d).tmps (bldS 1 (bits_spread_told F).ins d).heap (endO (bits_spread_told F).os) = bits_spread F d.1))

def bits_high_tab (F : Nat) : List ToldF := [bits_spread_told F]
theorem bits_high_all (F : Nat) : AllOk Try.prog (bits_high_tab F) := ⟨bits_spread_ok F, trivial⟩

def bits_high_told (F : Nat) : ToldF := ⟨86, 2, [.row .u8 1 (.slot 0) false, .slot 1 (.int .i64)], [.ty (.int .u64)], fun d => bits_high F d.1 d.2.1⟩
theorem bits_high_ok (F : Nat) : (bits_high_told F).ok Try.prog :=
  toldF_ok callable (bits_high_all F) (fn := Try.f86) (t := bits_high_told F) (anns := []) (by kernel_rfl) (annsOk_nil _ _)
    (fun d => (by kernel_rfl : evBody Try.prog (calT Try.prog (bits_high_tab F) _) (qcalT (bits_high_tab F) _) (annOf []) 86 (bldS 2 (bits_high_told F).ins d).tmps (bldS 2 (bits_high_told F).ins d).heap (endO (bits_high_told F).os) = bits_high F d.1 d.2.1))

def bits_High_tab (F : Nat) : List ToldF := [bits_check_told F, bits_high_told F]
theorem bits_High_all (F : Nat) : AllOk Try.prog (bits_High_tab F) := ⟨bits_check_ok F, ⟨bits_high_ok F, trivial⟩⟩

abbrev bits_High_l0_ins : List Go.AE.Item := [.row .u8 1 (.slot 0) false, .slot 1 (.int .i64), .slot 8 (.int .i64), .slot 9 (.int .u64), .slot 15 (.int .i64), .slot 16 (.int .i64)]
abbrev bits_High_l0_outs : List Go.AE.Item := [.slot 8 (.int .i64), .slot 9 (.int .u64)]
abbrev bits_High_l0_outX : List Go.AE.Item := [.const 6 (.int .u64 (some 0) 0), .slot 7 (.int .i64)]
def bits_High_l0_ann (F : Nat) {ρ : Type} : Ann ρ := annX 33 bits_High_l0_ins bits_High_l0_outX bits_High_l0_outs .ret fun d => bits_High_l0 F F d.1 d.2.1 d.2.2.1 d.2.2.2.1 d.2.2.2.2.1 d.2.2.2.2.2.1
theorem bits_High_l0_ok (F : Nat) {ρ : Type} (B : Base) (w : World) : AnnAt (ρ := ρ) Try.prog false B w (.block 0 (.loop (loopAt (bodyOf Try.f53) 0))) (bits_High_l0_ann F) :=
  toldX_ok callable (bits_High_all F) (ins := bits_High_l0_ins) (outX := bits_High_l0_outX) (outs := bits_High_l0_outs) (anns := []) (L := fun k d => bits_High_l0 F k d.1 d.2.1 d.2.2.1 d.2.2.2.1 d.2.2.2.2.1 d.2.2.2.2.2.1) (annsOk_nil _ _) (fun d => rfl)
    (fun k d => (by kernel_rfl : evCode Try.prog (calT Try.prog (bits_High_tab F) _) (qcalT (bits_High_tab F) _) (annOf []) (loopAt (bodyOf Try.f53) 0) (bldS 33 bits_High_l0_ins d) (kX 33 bits_High_l0_ins bits_High_l0_outX bits_High_l0_outs 0 .ret fun d => bits_High_l0 F k d.1 d.2.1 d.2.2.1 d.2.2.2.1 d.2.2.2.2.1 d.2.2.2.2.2.1) = bits_High_l0S F (bits_High_l0 F k) d.1 d.2.1 d.2.2.1 d.2.2.2.1 d.2.2.2.2.1 d.2.2.2.2.2.1)) (by first | exact .inl rfl | exact .inr ⟨_, rfl, by decide⟩) F B w

def bits_High_told (F : Nat) : ToldF := ⟨53, 3, [.row .u8 1 (.slot 0) false, .slot 1 (.int .i64), .slot 2 (.int .i64)], [.ty (.int .u64), .ty (.int .i64)], fun d => bits_High F d.1 d.2.1 d.2.2.1⟩
theorem bits_High_ok (F : Nat) : (bits_High_told F).ok Try.prog :=
  toldF_ok callable (bits_High_all F) (fn := Try.f53) (t := bits_High_told F) (anns := [(0, bits_High_l0_ann F)]) (by kernel_rfl) (annsOk_cons (by kernel_rfl) (fun B w => bits_High_l0_ok F B w) (annsOk_nil _ _))
    (fun d => (by kernel_rfl : evBody Try.prog (calT Try.prog (bits_High_tab F) _) (qcalT (bits_High_tab F) _) (annOf [(0, bits_High_l0_ann F)]) 53 (bldS 3 (bits_High_told F).ins d).tmps (bldS 3 (bits_High_told F).ins d).heap (endO (bits_High_told F).os) = bits_High F d.1 d.2.1 d.2.2.1))

def etcone_Parts_c1_tab (F : Nat) : List ToldF := [bits_High_told F]
theorem etcone_Parts_c1_all (F : Nat) : AllOk Try.prog (etcone_Parts_c1_tab F) := ⟨bits_High_ok F, trivial⟩

def etcone_Parts_c1_told (F : Nat) : ToldF := ⟨52, 3, [.slot 0 (.int .i64), .slot 1 (.int .i64), .row .u8 1 (.cell (.slot 2) 0) false, .segs [.sl 0 1 .whole] (.slot 2) false, .ptr 2 1 1], [.ty (.int .i64)], fun d => etcone_Parts_c1 F d.1 d.2.1 d.2.2.1⟩
theorem etcone_Parts_c1_ok (F : Nat) : (etcone_Parts_c1_told F).ok Try.prog :=
  toldF_ok callable (etcone_Parts_c1_all F) (fn := Try.f52) (t := etcone_Parts_c1_told F) (anns := []) (by kernel_rfl) (annsOk_nil _ _)
    (fun d => (by kernel_rfl : evBody Try.prog (calT Try.prog (etcone_Parts_c1_tab F) _) (qcalT (etcone_Parts_c1_tab F) _) (annOf []) 52 (bldS 3 (etcone_Parts_c1_told F).ins d).tmps (bldS 3 (etcone_Parts_c1_told F).ins d).heap (endO (etcone_Parts_c1_told F).os) = etcone_Parts_c1 F d.1 d.2.1 d.2.2.1))

def etcone_Parts_tab (F : Nat) : List ToldF := [etcone_column_told F, etcone_Parts_c1_told F]
theorem etcone_Parts_all (F : Nat) : AllOk Try.prog (etcone_Parts_tab F) := ⟨etcone_column_ok F, ⟨etcone_Parts_c1_ok F, trivial⟩⟩

abbrev etcone_Parts_l0_ins : List Go.AE.Item := [.segs [.const (.bool (some false) false), .const (.bool (some false) false), .hole (.is .i64 3), .hole (.is .i64 3), .hole (.is .i64 2), .hole (.is .i64 16)] (.slot 2) true, .ptr 2 0 26, .segs [.hole (.bool), .hole (.bool), .hole (.is .i64 3), .hole (.is .i64 3), .hole (.is .i64 2), .hole (.is .i64 16)] (.slot 4) true, .ptr 4 1 26, .row .u8 1 (.cell (.cap (.slot 5) 0) 0) false, .segs [.sl 2 1 .whole] (.cap (.slot 5) 0) true, .fn 5 52 [.ptr 3 1], .slot 22 (.int .i64)]
abbrev etcone_Parts_l0_outs : List Go.AE.Item := [.segs [.const (.bool (some false) false), .const (.bool (some false) false), .hole (.is .i64 3), .hole (.is .i64 3), .hole (.is .i64 2), .hole (.is .i64 16)] (.slot 2) true, .ptr 2 0 26, .segs [.hole (.bool), .hole (.bool), .hole (.is .i64 3), .hole (.is .i64 3), .hole (.is .i64 2), .hole (.is .i64 16)] (.slot 4) true, .ptr 4 1 26, .row .u8 1 (.cell (.cap (.slot 5) 0) 0) false, .segs [.sl 2 1 .whole] (.cap (.slot 5) 0) true, .fn 5 52 [.ptr 3 1]]
def etcone_Parts_l0_ann (F : Nat) {ρ : Type} : Ann ρ := annS 95 etcone_Parts_l0_ins etcone_Parts_l0_outs fun d => etcone_Parts_l0 F F d.1 d.2.1 d.2.2.1 d.2.2.2.1 d.2.2.2.2.1 d.2.2.2.2.2.1 d.2.2.2.2.2.2.1 d.2.2.2.2.2.2.2.1 d.2.2.2.2.2.2.2.2.1 d.2.2.2.2.2.2.2.2.2.1 d.2.2.2.2.2.2.2.2.2.2.1 d.2.2.2.2.2.2.2.2.2.2.2.1
theorem etcone_Parts_l0_ok (F : Nat) {ρ : Type} (B : Base) (w : World) : AnnAt (ρ := ρ) Try.prog false B w (.block 0 (.loop (loopAt (bodyOf Try.f27) 0))) (etcone_Parts_l0_ann F) :=
  toldS_ok callable (etcone_Parts_all F) (ins := etcone_Parts_l0_ins) (outs := etcone_Parts_l0_outs) (anns := []) (L := fun k d => etcone_Parts_l0 F k d.1 d.2.1 d.2.2.1 d.2.2.2.1 d.2.2.2.2.1 d.2.2.2.2.2.1 d.2.2.2.2.2.2.1 d.2.2.2.2.2.2.2.1 d.2.2.2.2.2.2.2.2.1 d.2.2.2.2.2.2.2.2.2.1 d.2.2.2.2.2.2.2.2.2.2.1 d.2.2.2.2.2.2.2.2.2.2.2.1) (annsOk_nil _ _) (fun d => rfl)
    (fun k d => (by kernel_rfl : evCode Try.prog (calT Try.prog (etcone_Parts_tab F) _) (qcalT (etcone_Parts_tab F) _) (annOf []) (loopAt (bodyOf Try.f27) 0) (bldS 95 etcone_Parts_l0_ins d) (kS 95 etcone_Parts_l0_ins etcone_Parts_l0_outs 0 fun d => etcone_Parts_l0 F k d.1 d.2.1 d.2.2.1 d.2.2.2.1 d.2.2.2.2.1 d.2.2.2.2.2.1 d.2.2.2.2.2.2.1 d.2.2.2.2.2.2.2.1 d.2.2.2.2.2.2.2.2.1 d.2.2.2.2.2.2.2.2.2.1 d.2.2.2.2.2.2.2.2.2.2.1 d.2.2.2.2.2.2.2.2.2.2.2.1) = etcone_Parts_l0S F (etcone_Parts_l0 F k) d.1 d.2.1 d.2.2.1 d.2.2.2.1 d.2.2.2.2.1 d.2.2.2.2.2.1 d.2.2.2.2.2.2.1 d.2.2.2.2.2.2.2.1 d.2.2.2.2.2.2.2.2.1 d.2.2.2.2.2.2.2.2.2.1 d.2.2.2.2.2.2.2.2.2.2.1 d.2.2.2.2.2.2.2.2.2.2.2.1)) F B w

abbrev etcone_Parts_l2_ins : List Go.AE.Item := [.segs [.const (.bool (some false) false), .const (.bool (some false) false), .hole (.is .i64 3), .hole (.is .i64 3), .hole (.is .i64 2), .hole (.is .i64 16)] (.slot 2) true, .ptr 2 0 26, .segs [.hole (.bool), .hole (.bool), .hole (.is .i64 3), .hole (.is .i64 3), .hole (.is .i64 2), .hole (.is .i64 16)] (.slot 4) true, .ptr 4 1 26, .row .u8 1 (.cell (.cap (.slot 5) 0) 0) false, .segs [.sl 2 1 .whole] (.cap (.slot 5) 0) true, .fn 5 52 [.ptr 3 1], .slot 75 (.int .i64)]
abbrev etcone_Parts_l2_outs : List Go.AE.Item := [.segs [.const (.bool (some false) false), .const (.bool (some false) false), .hole (.is .i64 3), .hole (.is .i64 3), .hole (.is .i64 2), .hole (.is .i64 16)] (.slot 2) true, .ptr 2 0 26, .segs [.hole (.bool), .hole (.bool), .hole (.is .i64 3), .hole (.is .i64 3), .hole (.is .i64 2), .hole (.is .i64 16)] (.slot 4) true, .ptr 4 1 26]
def etcone_Parts_l2_ann (F : Nat) {ρ : Type} : Ann ρ := annS 95 etcone_Parts_l2_ins etcone_Parts_l2_outs fun d => etcone_Parts_l2 F F d.1 d.2.1 d.2.2.1 d.2.2.2.1 d.2.2.2.2.1 d.2.2.2.2.2.1 d.2.2.2.2.2.2.1 d.2.2.2.2.2.2.2.1 d.2.2.2.2.2.2.2.2.1 d.2.2.2.2.2.2.2.2.2.1 d.2.2.2.2.2.2.2.2.2.2.1 d.2.2.2.2.2.2.2.2.2.2.2.1
theorem etcone_Parts_l2_ok (F : Nat) {ρ : Type} (B : Base) (w : World) : AnnAt (ρ := ρ) Try.prog false B w (.block 2 (.loop (loopAt (bodyOf Try.f27) 2))) (etcone_Parts_l2_ann F) :=
  toldS_ok callable (etcone_Parts_all F) (ins := etcone_Parts_l2_ins) (outs := etcone_Parts_l2_outs) (anns := []) (L := fun k d => etcone_Parts_l2 F k d.1 d.2.1 d.2.2.1 d.2.2.2.1 d.2.2.2.2.1 d.2.2.2.2.2.1 d.2.2.2.2.2.2.1 d.2.2.2.2.2.2.2.1 d.2.2.2.2.2.2.2.2.1 d.2.2.2.2.2.2.2.2.2.1 d.2.2.2.2.2.2.2.2.2.2.1 d.2.2.2.2.2.2.2.2.2.2.2.1) (annsOk_nil _ _) (fun d => rfl)
    (fun k d => (by kernel_rfl : evCode Try.prog (calT Try.prog (etcone_Parts_tab F) _) (qcalT (etcone_Parts_tab F) _) (annOf []) (loopAt (bodyOf Try.f27) 2) (bldS 95 etcone_Parts_l2_ins d) (kS 95 etcone_Parts_l2_ins etcone_Parts_l2_outs 2 fun d => etcone_Parts_l2 F k d.1 d.2.1 d.2.2.1 d.2.2.2.1 d.2.2.2.2.1 d.2.2.2.2.2.1 d.2.2.2.2.2.2.1 d.2.2.2.2.2.2.2.1 d.2.2.2.2.2.2.2.2.1 d.2.2.2.2.2.2.2.2.2.1 d.2.2.2.2.2.2.2.2.2.2.1 d.2.2.2.2.2.2.2.2.2.2.2.1) = etcone_Parts_l2S F (etcone_Parts_l2 F k) d.1 d.2.1 d.2.2.1 d.2.2.2.1 d.2.2.2.2.1 d.2.2.2.2.2.1 d.2.2.2.2.2.2.1 d.2.2.2.2.2.2.2.1 d.2.2.2.2.2.2.2.2.1 d.2.2.2.2.2.2.2.2.2.1 d.2.2.2.2.2.2.2.2.2.2.1 d.2.2.2.2.2.2.2.2.2.2.2.1)) F B w

def etcone_Parts_told (F : Nat) : ToldF := ⟨27, 1, [.row .u8 1 (.slot 0) false], [.ty (.agg [.bool, .bool, .is .i64 3, .is .i64 3, .is .i64 2, .is .i64 16]), .ty (.int .i64)], fun d => etcone_Parts F d.1⟩
theorem etcone_Parts_ok (F : Nat) : (etcone_Parts_told F).ok Try.prog :=
  toldF_ok callable (etcone_Parts_all F) (fn := Try.f27) (t := etcone_Parts_told F) (anns := [(0, etcone_Parts_l0_ann F), (2, etcone_Parts_l2_ann F)]) (by kernel_rfl) (annsOk_cons (by kernel_rfl) (fun B w => etcone_Parts_l0_ok F B w) (annsOk_cons (by kernel_rfl) (fun B w => etcone_Parts_l2_ok F B w) (annsOk_nil _ _)))
    (fun d => (by kernel_rfl : evBody Try.prog (calT Try.prog (etcone_Parts_tab F) _) (qcalT (etcone_Parts_tab F) _) (annOf [(0, etcone_Parts_l0_ann F), (2, etcone_Parts_l2_ann F)]) 27 (bldS 1 (etcone_Parts_told F).ins d).tmps (bldS 1 (etcone_Parts_told F).ins d).heap (endO (etcone_Parts_told F).os) = etcone_Parts F d.1))

def level_odd_tab (F : Nat) : List ToldF := []
theorem level_odd_all (F : Nat) : AllOk Try.prog (level_odd_tab F) := trivial

def level_odd_told (F : Nat) : ToldF := ⟨68, 1, [.slot 0 (.int .i64)], [.ty (.bool)], fun d => level_odd F d.1⟩
theorem level_odd_ok (F : Nat) : (level_odd_told F).ok Try.prog :=
  toldF_ok callable (level_odd_all F) (fn := Try.f68) (t := level_odd_told F) (anns := []) (by kernel_rfl) (annsOk_nil _ _)
    (fun d => (by kernel_rfl : evBody Try.prog (calT Try.prog (level_odd_tab F) _) (qcalT (level_odd_tab F) _) (annOf []) 68 (bldS 1 (level_odd_told F).ins d).tmps (bldS 1 (level_odd_told F).ins d).heap (endO (level_odd_told F).os) = level_odd F d.1))

def level_Wide_tab (F : Nat) : List ToldF := [level_odd_told F]
theorem level_Wide_all (F : Nat) : AllOk Try.prog (level_Wide_tab F) := ⟨level_odd_ok F, trivial⟩

abbrev level_Wide_l0_ins : List Go.AE.Item := [.slot 0 (.int .i64), .slot 1 (.int .i64), .slot 5 (.int .i64), .slot 6 (.int .i64)]
abbrev level_Wide_l0_outs : List Go.AE.Item := [.slot 5 (.int .i64), .slot 6 (.int .i64)]
def level_Wide_l0_ann (F : Nat) {ρ : Type} : Ann ρ := annS 28 level_Wide_l0_ins level_Wide_l0_outs fun d => level_Wide_l0 F F d.1 d.2.1 d.2.2.1 d.2.2.2.1
theorem level_Wide_l0_ok (F : Nat) {ρ : Type} (B : Base) (w : World) : AnnAt (ρ := ρ) Try.prog false B w (.block 0 (.loop (loopAt (bodyOf Try.f42) 0))) (level_Wide_l0_ann F) :=
  toldS_ok callable (level_Wide_all F) (ins := level_Wide_l0_ins) (outs := level_Wide_l0_outs) (anns := []) (L := fun k d => level_Wide_l0 F k d.1 d.2.1 d.2.2.1 d.2.2.2.1) (annsOk_nil _ _) (fun d => rfl)
    (fun k d => (by kernel_rfl : evCode Try.prog (calT Try.prog (level_Wide_tab F) _) (qcalT (level_Wide_tab F) _) (annOf []) (loopAt (bodyOf Try.f42) 0) (bldS 28 level_Wide_l0_ins d) (kS 28 level_Wide_l0_ins level_Wide_l0_outs 0 fun d => level_Wide_l0 F k d.1 d.2.1 d.2.2.1 d.2.2.2.1) = level_Wide_l0S F (level_Wide_l0 F k) d.1 d.2.1 d.2.2.1 d.2.2.2.1)) F B w

def level_Wide_told (F : Nat) : ToldF := ⟨42, 2, [.slot 0 (.int .i64), .slot 1 (.int .i64)], [.ty (.int .i64)], fun d => level_Wide F d.1 d.2.1⟩
theorem level_Wide_ok (F : Nat) : (level_Wide_told F).ok Try.prog :=
  toldF_ok callable (level_Wide_all F) (fn := Try.f42) (t := level_Wide_told F) (anns := [(0, level_Wide_l0_ann F)]) (by kernel_rfl) (annsOk_cons (by kernel_rfl) (fun B w => level_Wide_l0_ok F B w) (annsOk_nil _ _))
    (fun d => (by kernel_rfl : evBody Try.prog (calT Try.prog (level_Wide_tab F) _) (qcalT (level_Wide_tab F) _) (annOf [(0, level_Wide_l0_ann F)]) 42 (bldS 2 (level_Wide_told F).ins d).tmps (bldS 2 (level_Wide_told F).ins d).heap (endO (level_Wide_told F).os) = level_Wide F d.1 d.2.1))

def etcone_Bases_tab (F : Nat) : List ToldF := [level_Wide_told F]
theorem etcone_Bases_all (F : Nat) : AllOk Try.prog (etcone_Bases_tab F) := ⟨level_Wide_ok F, trivial⟩

abbrev etcone_Bases_l0_ins : List Go.AE.Item := [.segs [.hole (.bool), .hole (.bool), .hole (.is .i64 3), .hole (.is .i64 3), .hole (.is .i64 2), .hole (.is .i64 16)] (.slot 1) true, .ptr 1 0 26, .segs [.hole (.is .i64 8)] (.slot 2) true, .ptr 2 1 8, .segs [.hole (.is .i64 8)] (.slot 4) true, .ptr 4 2 8, .slot 5 (.int .i64), .slot 13 (.int .i64)]
abbrev etcone_Bases_l0_outs : List Go.AE.Item := [.segs [.hole (.is .i64 8)] (.slot 2) true, .ptr 2 0 8, .segs [.hole (.is .i64 8)] (.slot 4) true, .ptr 4 1 8, .slot 5 (.int .i64)]
def etcone_Bases_l0_ann (F : Nat) {ρ : Type} : Ann ρ := annS 61 etcone_Bases_l0_ins etcone_Bases_l0_outs fun d => etcone_Bases_l0 F F d.1 d.2.1 d.2.2.1 d.2.2.2.1 d.2.2.2.2.1 d.2.2.2.2.2.1 d.2.2.2.2.2.2.1 d.2.2.2.2.2.2.2.1 d.2.2.2.2.2.2.2.2.1 d.2.2.2.2.2.2.2.2.2.1
theorem etcone_Bases_l0_ok (F : Nat) {ρ : Type} (B : Base) (w : World) : AnnAt (ρ := ρ) Try.prog false B w (.block 0 (.loop (loopAt (bodyOf Try.f38) 0))) (etcone_Bases_l0_ann F) :=
  toldS_ok callable (etcone_Bases_all F) (ins := etcone_Bases_l0_ins) (outs := etcone_Bases_l0_outs) (anns := []) (L := fun k d => etcone_Bases_l0 F k d.1 d.2.1 d.2.2.1 d.2.2.2.1 d.2.2.2.2.1 d.2.2.2.2.2.1 d.2.2.2.2.2.2.1 d.2.2.2.2.2.2.2.1 d.2.2.2.2.2.2.2.2.1 d.2.2.2.2.2.2.2.2.2.1) (annsOk_nil _ _) (fun d => rfl)
    (fun k d => (by kernel_rfl : evCode Try.prog (calT Try.prog (etcone_Bases_tab F) _) (qcalT (etcone_Bases_tab F) _) (annOf []) (loopAt (bodyOf Try.f38) 0) (bldS 61 etcone_Bases_l0_ins d) (kS 61 etcone_Bases_l0_ins etcone_Bases_l0_outs 0 fun d => etcone_Bases_l0 F k d.1 d.2.1 d.2.2.1 d.2.2.2.1 d.2.2.2.2.1 d.2.2.2.2.2.1 d.2.2.2.2.2.2.1 d.2.2.2.2.2.2.2.1 d.2.2.2.2.2.2.2.2.1 d.2.2.2.2.2.2.2.2.2.1) = etcone_Bases_l0S F (etcone_Bases_l0 F k) d.1 d.2.1 d.2.2.1 d.2.2.2.1 d.2.2.2.2.1 d.2.2.2.2.2.1 d.2.2.2.2.2.2.1 d.2.2.2.2.2.2.2.1 d.2.2.2.2.2.2.2.2.1 d.2.2.2.2.2.2.2.2.2.1)) F B w

def etcone_Bases_told (F : Nat) : ToldF := ⟨38, 1, [.slot 0 (.agg [.bool, .bool, .is .i64 3, .is .i64 3, .is .i64 2, .is .i64 16])], [.ty (.is .i64 8), .ty (.int .i64)], fun d => etcone_Bases F d.1⟩
theorem etcone_Bases_ok (F : Nat) : (etcone_Bases_told F).ok Try.prog :=
  toldF_ok callable (etcone_Bases_all F) (fn := Try.f38) (t := etcone_Bases_told F) (anns := [(0, etcone_Bases_l0_ann F)]) (by kernel_rfl) (annsOk_cons (by kernel_rfl) (fun B w => etcone_Bases_l0_ok F B w) (annsOk_nil _ _))
    (fun d => (by kernel_rfl : evBody Try.prog (calT Try.prog (etcone_Bases_tab F) _) (qcalT (etcone_Bases_tab F) _) (annOf [(0, etcone_Bases_l0_ann F)]) 38 (bldS 1 (etcone_Bases_told F).ins d).tmps (bldS 1 (etcone_Bases_told F).ins d).heap (endO (etcone_Bases_told F).os) = etcone_Bases F d.1))

def etcone_Half_tab (F : Nat) : List ToldF := []
theorem etcone_Half_all (F : Nat) : AllOk Try.prog (etcone_Half_tab F) := trivial

def etcone_Half_told (F : Nat) : ToldF := ⟨34, 2, [.slot 0 (.bool), .slot 1 (.int .i64)], [.ty (.int .i64)], fun d => etcone_Half F d.1 d.2.1⟩
theorem etcone_Half_ok (F : Nat) : (etcone_Half_told F).ok Try.prog :=
  toldF_ok callable (etcone_Half_all F) (fn := Try.f34) (t := etcone_Half_told F) (anns := []) (by kernel_rfl) (annsOk_nil _ _)
    (fun d => (by kernel_rfl : evBody Try.prog (calT Try.prog (etcone_Half_tab F) _) (qcalT (etcone_Half_tab F) _) (annOf []) 34 (bldS 2 (etcone_Half_told F).ins d).tmps (bldS 2 (etcone_Half_told F).ins d).heap (endO (etcone_Half_told F).os) = etcone_Half F d.1 d.2.1))

def etcone_Table_tab (F : Nat) : List ToldF := []
theorem etcone_Table_all (F : Nat) : AllOk Try.prog (etcone_Table_tab F) := trivial

def etcone_Table_told (F : Nat) : ToldF := ⟨32, 1, [.slot 0 (.int .i64)], [.ty (.is .i64 4)], fun d => etcone_Table F d.1⟩
theorem etcone_Table_ok (F : Nat) : (etcone_Table_told F).ok Try.prog :=
  toldF_ok callable (etcone_Table_all F) (fn := Try.f32) (t := etcone_Table_told F) (anns := []) (by kernel_rfl) (annsOk_nil _ _)
    (fun d => (by kernel_rfl : evBody Try.prog (calT Try.prog (etcone_Table_tab F) _) (qcalT (etcone_Table_tab F) _) (annOf []) 32 (bldS 1 (etcone_Table_told F).ins d).tmps (bldS 1 (etcone_Table_told F).ins d).heap (endO (etcone_Table_told F).os) = etcone_Table F d.1))

def level_Clamp_tab (F : Nat) : List ToldF := []
theorem level_Clamp_all (F : Nat) : AllOk Try.prog (level_Clamp_tab F) := trivial

def level_Clamp_told (F : Nat) : ToldF := ⟨66, 2, [.slot 0 (.int .i64), .slot 1 (.int .i64)], [.ty (.int .i64)], fun d => level_Clamp F d.1 d.2.1⟩
theorem level_Clamp_ok (F : Nat) : (level_Clamp_told F).ok Try.prog :=
  toldF_ok callable (level_Clamp_all F) (fn := Try.f66) (t := level_Clamp_told F) (anns := []) (by kernel_rfl) (annsOk_nil _ _)
    (fun d => (by kernel_rfl : evBody Try.prog (calT Try.prog (level_Clamp_tab F) _) (qcalT (level_Clamp_tab F) _) (annOf []) 66 (bldS 2 (level_Clamp_told F).ins d).tmps (bldS 2 (level_Clamp_told F).ins d).heap (endO (level_Clamp_told F).os) = level_Clamp F d.1 d.2.1))

def etcone_Paint_tab (F : Nat) : List ToldF := [etcone_Bases_told F, etcone_Half_told F, etcone_Table_told F, level_Clamp_told F]
theorem etcone_Paint_all (F : Nat) : AllOk Try.prog (etcone_Paint_tab F) := ⟨etcone_Bases_ok F, ⟨etcone_Half_ok F, ⟨etcone_Table_ok F, ⟨level_Clamp_ok F, trivial⟩⟩⟩⟩

abbrev etcone_Paint_l2_ins : List Go.AE.Item := [.segs [.hole (.bool), .hole (.bool), .hole (.is .i64 3), .hole (.is .i64 3), .hole (.is .i64 2), .hole (.is .i64 16)] (.slot 1) true, .ptr 1 0 26, .segs [.hole (.is .i64 64)] (.slot 2) true, .ptr 2 1 64, .segs [.hole (.is .i64 8)] (.slot 3) true, .ptr 3 2 8, .segs [.hole (.is .i64 64)] (.slot 5) true, .ptr 5 3 64, .slot 6 (.int .i64), .slot 7 (.int .i64), .slot 8 (.int .i64), .slot 16 (.is .i64 16), .slot 17 (.int .i64), .slot 30 (.int .i64)]
abbrev etcone_Paint_l2_outs : List Go.AE.Item := [.segs [.hole (.bool), .hole (.bool), .hole (.is .i64 3), .hole (.is .i64 3), .hole (.is .i64 2), .hole (.is .i64 16)] (.slot 1) true, .ptr 1 0 26, .segs [.hole (.is .i64 64)] (.slot 2) true, .ptr 2 1 64, .segs [.hole (.is .i64 8)] (.slot 3) true, .ptr 3 2 8, .segs [.hole (.is .i64 64)] (.slot 5) true, .ptr 5 3 64, .slot 16 (.is .i64 16), .slot 17 (.int .i64)]
def etcone_Paint_l2_ann (F : Nat) {ρ : Type} : Ann ρ := annS 55 etcone_Paint_l2_ins etcone_Paint_l2_outs fun d => etcone_Paint_l2 F F d.1 d.2.1 d.2.2.1 d.2.2.2.1 d.2.2.2.2.1 d.2.2.2.2.2.1 d.2.2.2.2.2.2.1 d.2.2.2.2.2.2.2.1 d.2.2.2.2.2.2.2.2.1 d.2.2.2.2.2.2.2.2.2.1 d.2.2.2.2.2.2.2.2.2.2.1 d.2.2.2.2.2.2.2.2.2.2.2.1 d.2.2.2.2.2.2.2.2.2.2.2.2.1 d.2.2.2.2.2.2.2.2.2.2.2.2.2.1 d.2.2.2.2.2.2.2.2.2.2.2.2.2.2.1
theorem etcone_Paint_l2_ok (F : Nat) {ρ : Type} (B : Base) (w : World) : AnnAt (ρ := ρ) Try.prog false B w (.block 2 (.loop (loopAt (bodyOf Try.f40) 2))) (etcone_Paint_l2_ann F) :=
  toldS_ok callable (etcone_Paint_all F) (ins := etcone_Paint_l2_ins) (outs := etcone_Paint_l2_outs) (anns := []) (L := fun k d => etcone_Paint_l2 F k d.1 d.2.1 d.2.2.1 d.2.2.2.1 d.2.2.2.2.1 d.2.2.2.2.2.1 d.2.2.2.2.2.2.1 d.2.2.2.2.2.2.2.1 d.2.2.2.2.2.2.2.2.1 d.2.2.2.2.2.2.2.2.2.1 d.2.2.2.2.2.2.2.2.2.2.1 d.2.2.2.2.2.2.2.2.2.2.2.1 d.2.2.2.2.2.2.2.2.2.2.2.2.1 d.2.2.2.2.2.2.2.2.2.2.2.2.2.1 d.2.2.2.2.2.2.2.2.2.2.2.2.2.2.1) (annsOk_nil _ _) (fun d => rfl)
    (fun k d => (by kernel_rfl : evCode Try.prog (calT Try.prog (etcone_Paint_tab F) _) (qcalT (etcone_Paint_tab F) _) (annOf []) (loopAt (bodyOf Try.f40) 2) (bldS 55 etcone_Paint_l2_ins d) (kS 55 etcone_Paint_l2_ins etcone_Paint_l2_outs 2 fun d => etcone_Paint_l2 F k d.1 d.2.1 d.2.2.1 d.2.2.2.1 d.2.2.2.2.1 d.2.2.2.2.2.1 d.2.2.2.2.2.2.1 d.2.2.2.2.2.2.2.1 d.2.2.2.2.2.2.2.2.1 d.2.2.2.2.2.2.2.2.2.1 d.2.2.2.2.2.2.2.2.2.2.1 d.2.2.2.2.2.2.2.2.2.2.2.1 d.2.2.2.2.2.2.2.2.2.2.2.2.1 d.2.2.2.2.2.2.2.2.2.2.2.2.2.1 d.2.2.2.2.2.2.2.2.2.2.2.2.2.2.1) = etcone_Paint_l2S F (etcone_Paint_l2 F k) d.1 d.2.1 d.2.2.1 d.2.2.2.1 d.2.2.2.2.1 d.2.2.2.2.2.1 d.2.2.2.2.2.2.1 d.2.2.2.2.2.2.2.1 d.2.2.2.2.2.2.2.2.1 d.2.2.2.2.2.2.2.2.2.1 d.2.2.2.2.2.2.2.2.2.2.1 d.2.2.2.2.2.2.2.2.2.2.2.1 d.2.2.2.2.2.2.2.2.2.2.2.2.1 d.2.2.2.2.2.2.2.2.2.2.2.2.2.1 d.2.2.2.2.2.2.2.2.2.2.2.2.2.2.1)) F B w

abbrev etcone_Paint_l0_ins : List Go.AE.Item := [.segs [.hole (.bool), .hole (.bool), .hole (.is .i64 3), .hole (.is .i64 3), .hole (.is .i64 2), .hole (.is .i64 16)] (.slot 1) true, .ptr 1 0 26, .segs [.hole (.is .i64 64)] (.slot 2) true, .ptr 2 1 64, .segs [.hole (.is .i64 8)] (.slot 3) true, .ptr 3 2 8, .segs [.hole (.is .i64 64)] (.slot 5) true, .ptr 5 3 64, .slot 16 (.is .i64 16), .slot 17 (.int .i64)]
abbrev etcone_Paint_l0_outs : List Go.AE.Item := [.segs [.hole (.is .i64 64)] (.slot 2) true, .ptr 2 0 64, .segs [.hole (.is .i64 64)] (.slot 5) true, .ptr 5 1 64]
def etcone_Paint_l0_ann (F : Nat) {ρ : Type} : Ann ρ := annS 55 etcone_Paint_l0_ins etcone_Paint_l0_outs fun d => etcone_Paint_l0 F F d.1 d.2.1 d.2.2.1 d.2.2.2.1 d.2.2.2.2.1 d.2.2.2.2.2.1 d.2.2.2.2.2.2.1 d.2.2.2.2.2.2.2.1 d.2.2.2.2.2.2.2.2.1 d.2.2.2.2.2.2.2.2.2.1 d.2.2.2.2.2.2.2.2.2.2.1
theorem etcone_Paint_l0_ok (F : Nat) {ρ : Type} (B : Base) (w : World) : AnnAt (ρ := ρ) Try.prog false B w (.block 0 (.loop (loopAt (bodyOf Try.f40) 0))) (etcone_Paint_l0_ann F) :=
  toldS_ok callable (etcone_Paint_all F) (ins := etcone_Paint_l0_ins) (outs := etcone_Paint_l0_outs) (anns := [(2, etcone_Paint_l2_ann F)]) (L := fun k d => etcone_Paint_l0 F k d.1 d.2.1 d.2.2.1 d.2.2.2.1 d.2.2.2.2.1 d.2.2.2.2.2.1 d.2.2.2.2.2.2.1 d.2.2.2.2.2.2.2.1 d.2.2.2.2.2.2.2.2.1 d.2.2.2.2.2.2.2.2.2.1 d.2.2.2.2.2.2.2.2.2.2.1) (annsOk_cons (by kernel_rfl) (fun B w => etcone_Paint_l2_ok F B w) (annsOk_nil _ _)) (fun d => rfl)
    (fun k d => (by kernel_rfl : evCode Try.prog (calT Try.prog (etcone_Paint_tab F) _) (qcalT (etcone_Paint_tab F) _) (annOf [(2, etcone_Paint_l2_ann F)]) (loopAt (bodyOf Try.f40) 0) (bldS 55 etcone_Paint_l0_ins d) (kS 55 etcone_Paint_l0_ins etcone_Paint_l0_outs 0 fun d => etcone_Paint_l0 F k d.1 d.2.1 d.2.2.1 d.2.2.2.1 d.2.2.2.2.1 d.2.2.2.2.2.1 d.2.2.2.2.2.2.1 d.2.2.2.2.2.2.2.1 d.2.2.2.2.2.2.2.2.1 d.2.2.2.2.2.2.2.2.2.1 d.2.2.2.2.2.2.2.2.2.2.1) = etcone_Paint_l0S F (etcone_Paint_l0 F k) d.1 d.2.1 d.2.2.1 d.2.2.2.1 d.2.2.2.2.1 d.2.2.2.2.2.1 d.2.2.2.2.2.2.1 d.2.2.2.2.2.2.2.1 d.2.2.2.2.2.2.2.2.1 d.2.2.2.2.2.2.2.2.2.1 d.2.2.2.2.2.2.2.2.2.2.1)) F B w

def etcone_Paint_told (F : Nat) : ToldF := ⟨40, 1, [.slot 0 (.agg [.bool, .bool, .is .i64 3, .is .i64 3, .is .i64 2, .is .i64 16])], [.ty (.is .i64 64)], fun d => etcone_Paint F d.1⟩
theorem etcone_Paint_ok (F : Nat) : (etcone_Paint_told F).ok Try.prog :=
  toldF_ok callable (etcone_Paint_all F) (fn := Try.f40) (t := etcone_Paint_told F) (anns := [(2, etcone_Paint_l2_ann F), (0, etcone_Paint_l0_ann F)]) (by kernel_rfl) (annsOk_cons (by kernel_rfl) (fun B w => etcone_Paint_l2_ok F B w) (annsOk_cons (by kernel_rfl) (fun B w => etcone_Paint_l0_ok F B w) (annsOk_nil _ _)))
    (fun d => (by kernel_rfl : evBody Try.prog (calT Try.prog (etcone_Paint_tab F) _) (qcalT (etcone_Paint_tab F) _) (annOf [(2, etcone_Paint_l2_ann F), (0, etcone_Paint_l0_ann F)]) 40 (bldS 1 (etcone_Paint_told F).ins d).tmps (bldS 1 (etcone_Paint_told F).ins d).heap (endO (etcone_Paint_told F).os) = etcone_Paint F d.1))

def etcone_Decode_tab (F : Nat) : List ToldF := [etcone_Parts_told F, etcone_Paint_told F]
theorem etcone_Decode_all (F : Nat) : AllOk Try.prog (etcone_Decode_tab F) := ⟨etcone_Parts_ok F, ⟨etcone_Paint_ok F, trivial⟩⟩

def etcone_Decode_told (F : Nat) : ToldF := ⟨29, 1, [.row .u8 1 (.slot 0) false], [.ty (.is .i64 64), .ty (.int .i64)], fun d => etcone_Decode F d.1⟩
theorem etcone_Decode_ok (F : Nat) : (etcone_Decode_told F).ok Try.prog :=
  toldF_ok callable (etcone_Decode_all F) (fn := Try.f29) (t := etcone_Decode_told F) (anns := []) (by kernel_rfl) (annsOk_nil _ _)
    (fun d => (by kernel_rfl : evBody Try.prog (calT Try.prog (etcone_Decode_tab F) _) (qcalT (etcone_Decode_tab F) _) (annOf []) 29 (bldS 1 (etcone_Decode_told F).ins d).tmps (bldS 1 (etcone_Decode_told F).ins d).heap (endO (etcone_Decode_told F).os) = etcone_Decode F d.1))

def law10_awake_tab (F : Nat) : List ToldF := [etcone_Join_told F, etcone_Parts_told F, etcone_Bases_told F, etcone_Half_told F, etcone_Table_told F, etcone_Decode_told F]
theorem law10_awake_all (F : Nat) : AllOk Try.prog (law10_awake_tab F) := ⟨etcone_Join_ok F, ⟨etcone_Parts_ok F, ⟨etcone_Bases_ok F, ⟨etcone_Half_ok F, ⟨etcone_Table_ok F, ⟨etcone_Decode_ok F, trivial⟩⟩⟩⟩⟩⟩

def law10_awake_told (F : Nat) : ToldF := ⟨26, 0, [], [.ty (.bool)], fun d => law10_awake F⟩
theorem law10_awake_ok (F : Nat) : (law10_awake_told F).ok Try.prog :=
  toldF_ok callable (law10_awake_all F) (fn := Try.f26) (t := law10_awake_told F) (anns := []) (by kernel_rfl) (annsOk_nil _ _)
    (fun d => (by kernel_rfl : evBody Try.prog (calT Try.prog (law10_awake_tab F) _) (qcalT (law10_awake_tab F) _) (annOf []) 26 (bldS 0 (law10_awake_told F).ins d).tmps (bldS 0 (law10_awake_told F).ins d).heap (endO (law10_awake_told F).os) = law10_awake F))

def ref02_fits_tab (F : Nat) : List ToldF := []
theorem ref02_fits_all (F : Nat) : AllOk Try.prog (ref02_fits_tab F) := trivial

def ref02_fits_told (F : Nat) : ToldF := ⟨89, 3, [.row .u8 1 (.slot 0) false, .slot 1 (.int .i64), .slot 2 (.int .i64)], [.ty (.bool)], fun d => ref02_fits F d.1 d.2.1 d.2.2.1⟩
theorem ref02_fits_ok (F : Nat) : (ref02_fits_told F).ok Try.prog :=
  toldF_ok callable (ref02_fits_all F) (fn := Try.f89) (t := ref02_fits_told F) (anns := []) (by kernel_rfl) (annsOk_nil _ _)
    (fun d => (by kernel_rfl : evBody Try.prog (calT Try.prog (ref02_fits_tab F) _) (qcalT (ref02_fits_tab F) _) (annOf []) 89 (bldS 3 (ref02_fits_told F).ins d).tmps (bldS 3 (ref02_fits_told F).ins d).heap (endO (ref02_fits_told F).os) = ref02_fits F d.1 d.2.1 d.2.2.1))

def ref02_bit_tab (F : Nat) : List ToldF := []
theorem ref02_bit_all (F : Nat) : AllOk Try.prog (ref02_bit_tab F) := trivial

abbrev ref02_bit_l0_ins : List Go.AE.Item := [.slot 7 (.int .i64), .slot 8 (.int .i64), .slot 9 (.int .i64)]
abbrev ref02_bit_l0_outs : List Go.AE.Item := [.slot 8 (.int .i64)]
def ref02_bit_l0_ann (F : Nat) {ρ : Type} : Ann ρ := annS 30 ref02_bit_l0_ins ref02_bit_l0_outs fun d => ref02_bit_l0 F F d.1 d.2.1 d.2.2.1
theorem ref02_bit_l0_ok (F : Nat) {ρ : Type} (B : Base) (w : World) : AnnAt (ρ := ρ) Try.prog false B w (.block 0 (.loop (loopAt (bodyOf Try.f84) 0))) (ref02_bit_l0_ann F) :=
  toldS_ok callable (ref02_bit_all F) (ins := ref02_bit_l0_ins) (outs := ref02_bit_l0_outs) (anns := []) (L := fun k d => ref02_bit_l0 F k d.1 d.2.1 d.2.2.1) (annsOk_nil _ _) (fun d => rfl)
    (fun k d => (by kernel_rfl : evCode Try.prog (calT Try.prog (ref02_bit_tab F) _) (qcalT (ref02_bit_tab F) _) (annOf []) (loopAt (bodyOf Try.f84) 0) (bldS 30 ref02_bit_l0_ins d) (kS 30 ref02_bit_l0_ins ref02_bit_l0_outs 0 fun d => ref02_bit_l0 F k d.1 d.2.1 d.2.2.1) = ref02_bit_l0S F (ref02_bit_l0 F k) d.1 d.2.1 d.2.2.1)) F B w

def ref02_bit_told (F : Nat) : ToldF := ⟨84, 3, [.row .u8 1 (.slot 0) false, .slot 1 (.int .i64), .slot 2 (.bool)], [.ty (.int .i64)], fun d => ref02_bit F d.1 d.2.1 d.2.2.1⟩
theorem ref02_bit_ok (F : Nat) : (ref02_bit_told F).ok Try.prog :=
  toldF_ok callable (ref02_bit_all F) (fn := Try.f84) (t := ref02_bit_told F) (anns := [(0, ref02_bit_l0_ann F)]) (by kernel_rfl) (annsOk_cons (by kernel_rfl) (fun B w => ref02_bit_l0_ok F B w) (annsOk_nil _ _))
    (fun d => (by kernel_rfl : evBody Try.prog (calT Try.prog (ref02_bit_tab F) _) (qcalT (ref02_bit_tab F) _) (annOf [(0, ref02_bit_l0_ann F)]) 84 (bldS 3 (ref02_bit_told F).ins d).tmps (bldS 3 (ref02_bit_told F).ins d).heap (endO (ref02_bit_told F).os) = ref02_bit F d.1 d.2.1 d.2.2.1))

def ref02_Get_tab (F : Nat) : List ToldF := [ref02_fits_told F, ref02_bit_told F]
theorem ref02_Get_all (F : Nat) : AllOk Try.prog (ref02_Get_tab F) := ⟨ref02_fits_ok F, ⟨ref02_bit_ok F, trivial⟩⟩

abbrev ref02_Get_l0_ins : List Go.AE.Item := [.row .u8 1 (.slot 0) false, .slot 1 (.int .i64), .slot 2 (.int .i64), .slot 3 (.bool), .slot 10 (.int .u64), .slot 11 (.int .i64)]
abbrev ref02_Get_l0_outs : List Go.AE.Item := [.slot 10 (.int .u64)]
def ref02_Get_l0_ann (F : Nat) {ρ : Type} : Ann ρ := annS 52 ref02_Get_l0_ins ref02_Get_l0_outs fun d => ref02_Get_l0 F F d.1 d.2.1 d.2.2.1 d.2.2.2.1 d.2.2.2.2.1 d.2.2.2.2.2.1
theorem ref02_Get_l0_ok (F : Nat) {ρ : Type} (B : Base) (w : World) : AnnAt (ρ := ρ) Try.prog false B w (.block 0 (.loop (loopAt (bodyOf Try.f79) 0))) (ref02_Get_l0_ann F) :=
  toldS_ok callable (ref02_Get_all F) (ins := ref02_Get_l0_ins) (outs := ref02_Get_l0_outs) (anns := []) (L := fun k d => ref02_Get_l0 F k d.1 d.2.1 d.2.2.1 d.2.2.2.1 d.2.2.2.2.1 d.2.2.2.2.2.1) (annsOk_nil _ _) (fun d => rfl)
    (fun k d => (by kernel_rfl : evCode Try.prog (calT Try.prog (ref02_Get_tab F) _) (qcalT (ref02_Get_tab F) _) (annOf []) (loopAt (bodyOf Try.f79) 0) (bldS 52 ref02_Get_l0_ins d) (kS 52 ref02_Get_l0_ins ref02_Get_l0_outs 0 fun d => ref02_Get_l0 F k d.1 d.2.1 d.2.2.1 d.2.2.2.1 d.2.2.2.2.1 d.2.2.2.2.2.1) = ref02_Get_l0S F (ref02_Get_l0 F k) d.1 d.2.1 d.2.2.1 d.2.2.2.1 d.2.2.2.2.1 d.2.2.2.2.2.1)) F B w

def ref02_Get_told (F : Nat) : ToldF := ⟨79, 4, [.row .u8 1 (.slot 0) false, .slot 1 (.int .i64), .slot 2 (.int .i64), .slot 3 (.bool)], [.ty (.int .u64), .ty (.int .i64)], fun d => ref02_Get F d.1 d.2.1 d.2.2.1 d.2.2.2.1⟩
theorem ref02_Get_ok (F : Nat) : (ref02_Get_told F).ok Try.prog :=
  toldF_ok callable (ref02_Get_all F) (fn := Try.f79) (t := ref02_Get_told F) (anns := [(0, ref02_Get_l0_ann F)]) (by kernel_rfl) (annsOk_cons (by kernel_rfl) (fun B w => ref02_Get_l0_ok F B w) (annsOk_nil _ _))
    (fun d => (by kernel_rfl : evBody Try.prog (calT Try.prog (ref02_Get_tab F) _) (qcalT (ref02_Get_tab F) _) (annOf [(0, ref02_Get_l0_ann F)]) 79 (bldS 4 (ref02_Get_told F).ins d).tmps (bldS 4 (ref02_Get_told F).ins d).heap (endO (ref02_Get_told F).os) = ref02_Get F d.1 d.2.1 d.2.2.1 d.2.2.2.1))

def ref02_Top_tab (F : Nat) : List ToldF := [ref02_Get_told F]
theorem ref02_Top_all (F : Nat) : AllOk Try.prog (ref02_Top_tab F) := ⟨ref02_Get_ok F, trivial⟩

def ref02_Top_told (F : Nat) : ToldF := ⟨55, 3, [.row .u8 1 (.slot 0) false, .slot 1 (.int .i64), .slot 2 (.int .i64)], [.ty (.int .i64)], fun d => ref02_Top F d.1 d.2.1 d.2.2.1⟩
theorem ref02_Top_ok (F : Nat) : (ref02_Top_told F).ok Try.prog :=
  toldF_ok callable (ref02_Top_all F) (fn := Try.f55) (t := ref02_Top_told F) (anns := []) (by kernel_rfl) (annsOk_nil _ _)
    (fun d => (by kernel_rfl : evBody Try.prog (calT Try.prog (ref02_Top_tab F) _) (qcalT (ref02_Top_tab F) _) (annOf []) 55 (bldS 3 (ref02_Top_told F).ins d).tmps (bldS 3 (ref02_Top_told F).ins d).heap (endO (ref02_Top_told F).os) = ref02_Top F d.1 d.2.1 d.2.2.1))

def ref10_Which_tab (F : Nat) : List ToldF := [ref02_Top_told F]
theorem ref10_Which_all (F : Nat) : AllOk Try.prog (ref10_Which_tab F) := ⟨ref02_Top_ok F, trivial⟩

abbrev ref10_Which_l0_ins : List Go.AE.Item := [.row .u8 1 (.slot 0) false, .segs [.hole (.is .i64 16)] (.slot 2) true, .ptr 2 1 16, .segs [.hole (.is .i64 16)] (.slot 3) true, .ptr 3 2 16, .slot 4 (.int .i64)]
abbrev ref10_Which_l0_outs : List Go.AE.Item := [.segs [.hole (.is .i64 16)] (.slot 2) true, .ptr 2 0 16, .segs [.hole (.is .i64 16)] (.slot 3) true, .ptr 3 1 16]
def ref10_Which_l0_ann (F : Nat) {ρ : Type} : Ann ρ := annS 30 ref10_Which_l0_ins ref10_Which_l0_outs fun d => ref10_Which_l0 F F d.1 d.2.1 d.2.2.1 d.2.2.2.1
theorem ref10_Which_l0_ok (F : Nat) {ρ : Type} (B : Base) (w : World) : AnnAt (ρ := ρ) Try.prog false B w (.block 0 (.loop (loopAt (bodyOf Try.f56) 0))) (ref10_Which_l0_ann F) :=
  toldS_ok callable (ref10_Which_all F) (ins := ref10_Which_l0_ins) (outs := ref10_Which_l0_outs) (anns := []) (L := fun k d => ref10_Which_l0 F k d.1 d.2.1 d.2.2.1 d.2.2.2.1) (annsOk_nil _ _) (fun d => rfl)
    (fun k d => (by kernel_rfl : evCode Try.prog (calT Try.prog (ref10_Which_tab F) _) (qcalT (ref10_Which_tab F) _) (annOf []) (loopAt (bodyOf Try.f56) 0) (bldS 30 ref10_Which_l0_ins d) (kS 30 ref10_Which_l0_ins ref10_Which_l0_outs 0 fun d => ref10_Which_l0 F k d.1 d.2.1 d.2.2.1 d.2.2.2.1) = ref10_Which_l0S F (ref10_Which_l0 F k) d.1 d.2.1 d.2.2.1 d.2.2.2.1)) F B w

def ref10_Which_told (F : Nat) : ToldF := ⟨56, 1, [.row .u8 1 (.slot 0) false], [.ty (.is .i64 16)], fun d => ref10_Which F d.1⟩
theorem ref10_Which_ok (F : Nat) : (ref10_Which_told F).ok Try.prog :=
  toldF_ok callable (ref10_Which_all F) (fn := Try.f56) (t := ref10_Which_told F) (anns := [(0, ref10_Which_l0_ann F)]) (by kernel_rfl) (annsOk_cons (by kernel_rfl) (fun B w => ref10_Which_l0_ok F B w) (annsOk_nil _ _))
    (fun d => (by kernel_rfl : evBody Try.prog (calT Try.prog (ref10_Which_tab F) _) (qcalT (ref10_Which_tab F) _) (annOf [(0, ref10_Which_l0_ann F)]) 56 (bldS 1 (ref10_Which_told F).ins d).tmps (bldS 1 (ref10_Which_told F).ins d).heap (endO (ref10_Which_told F).os) = ref10_Which F d.1))

def ref10_Parts_tab (F : Nat) : List ToldF := [ref02_Top_told F, ref10_Which_told F]
theorem ref10_Parts_all (F : Nat) : AllOk Try.prog (ref10_Parts_tab F) := ⟨ref02_Top_ok F, ⟨ref10_Which_ok F, trivial⟩⟩

abbrev ref10_Parts_l0_ins : List Go.AE.Item := [.row .u8 1 (.slot 0) false, .segs [.const (.bool (some false) false), .const (.bool (some false) false), .hole (.is .i64 3), .hole (.is .i64 3), .hole (.is .i64 2), .hole (.is .i64 16)] (.slot 2) true, .ptr 2 1 26, .segs [.hole (.bool), .hole (.bool), .hole (.is .i64 3), .hole (.is .i64 3), .hole (.is .i64 2), .hole (.is .i64 16)] (.slot 4) true, .ptr 4 2 26, .slot 5 (.int .i64)]
abbrev ref10_Parts_l0_outs : List Go.AE.Item := [.row .u8 1 (.slot 0) false, .segs [.const (.bool (some false) false), .const (.bool (some false) false), .hole (.is .i64 3), .hole (.is .i64 3), .hole (.is .i64 2), .hole (.is .i64 16)] (.slot 2) true, .ptr 2 1 26, .segs [.hole (.bool), .hole (.bool), .hole (.is .i64 3), .hole (.is .i64 3), .hole (.is .i64 2), .hole (.is .i64 16)] (.slot 4) true, .ptr 4 2 26]
def ref10_Parts_l0_ann (F : Nat) {ρ : Type} : Ann ρ := annS 78 ref10_Parts_l0_ins ref10_Parts_l0_outs fun d => ref10_Parts_l0 F F d.1 d.2.1 d.2.2.1 d.2.2.2.1 d.2.2.2.2.1 d.2.2.2.2.2.1 d.2.2.2.2.2.2.1 d.2.2.2.2.2.2.2.1 d.2.2.2.2.2.2.2.2.1 d.2.2.2.2.2.2.2.2.2.1 d.2.2.2.2.2.2.2.2.2.2.1 d.2.2.2.2.2.2.2.2.2.2.2.1
theorem ref10_Parts_l0_ok (F : Nat) {ρ : Type} (B : Base) (w : World) : AnnAt (ρ := ρ) Try.prog false B w (.block 0 (.loop (loopAt (bodyOf Try.f28) 0))) (ref10_Parts_l0_ann F) :=
  toldS_ok callable (ref10_Parts_all F) (ins := ref10_Parts_l0_ins) (outs := ref10_Parts_l0_outs) (anns := []) (L := fun k d => ref10_Parts_l0 F k d.1 d.2.1 d.2.2.1 d.2.2.2.1 d.2.2.2.2.1 d.2.2.2.2.2.1 d.2.2.2.2.2.2.1 d.2.2.2.2.2.2.2.1 d.2.2.2.2.2.2.2.2.1 d.2.2.2.2.2.2.2.2.2.1 d.2.2.2.2.2.2.2.2.2.2.1 d.2.2.2.2.2.2.2.2.2.2.2.1) (annsOk_nil _ _) (fun d => rfl)
    (fun k d => (by kernel_rfl : evCode Try.prog (calT Try.prog (ref10_Parts_tab F) _) (qcalT (ref10_Parts_tab F) _) (annOf []) (loopAt (bodyOf Try.f28) 0) (bldS 78 ref10_Parts_l0_ins d) (kS 78 ref10_Parts_l0_ins ref10_Parts_l0_outs 0 fun d => ref10_Parts_l0 F k d.1 d.2.1 d.2.2.1 d.2.2.2.1 d.2.2.2.2.1 d.2.2.2.2.2.1 d.2.2.2.2.2.2.1 d.2.2.2.2.2.2.2.1 d.2.2.2.2.2.2.2.2.1 d.2.2.2.2.2.2.2.2.2.1 d.2.2.2.2.2.2.2.2.2.2.1 d.2.2.2.2.2.2.2.2.2.2.2.1) = ref10_Parts_l0S F (ref10_Parts_l0 F k) d.1 d.2.1 d.2.2.1 d.2.2.2.1 d.2.2.2.2.1 d.2.2.2.2.2.1 d.2.2.2.2.2.2.1 d.2.2.2.2.2.2.2.1 d.2.2.2.2.2.2.2.2.1 d.2.2.2.2.2.2.2.2.2.1 d.2.2.2.2.2.2.2.2.2.2.1 d.2.2.2.2.2.2.2.2.2.2.2.1)) F B w

def ref10_Parts_told (F : Nat) : ToldF := ⟨28, 1, [.row .u8 1 (.slot 0) false], [.ty (.agg [.bool, .bool, .is .i64 3, .is .i64 3, .is .i64 2, .is .i64 16]), .ty (.int .i64)], fun d => ref10_Parts F d.1⟩
theorem ref10_Parts_ok (F : Nat) : (ref10_Parts_told F).ok Try.prog :=
  toldF_ok callable (ref10_Parts_all F) (fn := Try.f28) (t := ref10_Parts_told F) (anns := [(0, ref10_Parts_l0_ann F)]) (by kernel_rfl) (annsOk_cons (by kernel_rfl) (fun B w => ref10_Parts_l0_ok F B w) (annsOk_nil _ _))
    (fun d => (by kernel_rfl : evBody Try.prog (calT Try.prog (ref10_Parts_tab F) _) (qcalT (ref10_Parts_tab F) _) (annOf [(0, ref10_Parts_l0_ann F)]) 28 (bldS 1 (ref10_Parts_told F).ins d).tmps (bldS 1 (ref10_Parts_told F).ins d).heap (endO (ref10_Parts_told F).os) = ref10_Parts F d.1))

def ref10_In_tab (F : Nat) : List ToldF := []
theorem ref10_In_all (F : Nat) : AllOk Try.prog (ref10_In_tab F) := trivial

def ref10_In_told (F : Nat) : ToldF := ⟨65, 3, [.slot 0 (.int .i64), .slot 1 (.int .i64), .slot 2 (.int .i64)], [.ty (.bool)], fun d => ref10_In F d.1 d.2.1 d.2.2.1⟩
theorem ref10_In_ok (F : Nat) : (ref10_In_told F).ok Try.prog :=
  toldF_ok callable (ref10_In_all F) (fn := Try.f65) (t := ref10_In_told F) (anns := []) (by kernel_rfl) (annsOk_nil _ _)
    (fun d => (by kernel_rfl : evBody Try.prog (calT Try.prog (ref10_In_tab F) _) (qcalT (ref10_In_tab F) _) (annOf []) 65 (bldS 3 (ref10_In_told F).ins d).tmps (bldS 3 (ref10_In_told F).ins d).heap (endO (ref10_In_told F).os) = ref10_In F d.1 d.2.1 d.2.2.1))

def ref03_power_tab (F : Nat) : List ToldF := []
theorem ref03_power_all (F : Nat) : AllOk Try.prog (ref03_power_tab F) := trivial

abbrev ref03_power_l0_ins : List Go.AE.Item := [.slot 0 (.int .i64), .slot 3 (.int .i64), .slot 4 (.int .i64)]
abbrev ref03_power_l0_outs : List Go.AE.Item := [.slot 3 (.int .i64)]
def ref03_power_l0_ann (F : Nat) {ρ : Type} : Ann ρ := annS 13 ref03_power_l0_ins ref03_power_l0_outs fun d => ref03_power_l0 F F d.1 d.2.1 d.2.2.1
theorem ref03_power_l0_ok (F : Nat) {ρ : Type} (B : Base) (w : World) : AnnAt (ρ := ρ) Try.prog false B w (.block 0 (.loop (loopAt (bodyOf Try.f70) 0))) (ref03_power_l0_ann F) :=
  toldS_ok callable (ref03_power_all F) (ins := ref03_power_l0_ins) (outs := ref03_power_l0_outs) (anns := []) (L := fun k d => ref03_power_l0 F k d.1 d.2.1 d.2.2.1) (annsOk_nil _ _) (fun d => rfl)
    (fun k d => (by kernel_rfl : evCode Try.prog (calT Try.prog (ref03_power_tab F) _) (qcalT (ref03_power_tab F) _) (annOf []) (loopAt (bodyOf Try.f70) 0) (bldS 13 ref03_power_l0_ins d) (kS 13 ref03_power_l0_ins ref03_power_l0_outs 0 fun d => ref03_power_l0 F k d.1 d.2.1 d.2.2.1) = ref03_power_l0S F (ref03_power_l0 F k) d.1 d.2.1 d.2.2.1)) F B w

def ref03_power_told (F : Nat) : ToldF := ⟨70, 1, [.slot 0 (.int .i64)], [.ty (.int .i64)], fun d => ref03_power F d.1⟩
theorem ref03_power_ok (F : Nat) : (ref03_power_told F).ok Try.prog :=
  toldF_ok callable (ref03_power_all F) (fn := Try.f70) (t := ref03_power_told F) (anns := [(0, ref03_power_l0_ann F)]) (by kernel_rfl) (annsOk_cons (by kernel_rfl) (fun B w => ref03_power_l0_ok F B w) (annsOk_nil _ _))
    (fun d => (by kernel_rfl : evBody Try.prog (calT Try.prog (ref03_power_tab F) _) (qcalT (ref03_power_tab F) _) (annOf [(0, ref03_power_l0_ann F)]) 70 (bldS 1 (ref03_power_told F).ins d).tmps (bldS 1 (ref03_power_told F).ins d).heap (endO (ref03_power_told F).os) = ref03_power F d.1))

def ref03_mod_tab (F : Nat) : List ToldF := []
theorem ref03_mod_all (F : Nat) : AllOk Try.prog (ref03_mod_tab F) := trivial

def ref03_mod_told (F : Nat) : ToldF := ⟨69, 2, [.slot 0 (.int .i64), .slot 1 (.int .i64)], [.ty (.int .i64)], fun d => ref03_mod F d.1 d.2.1⟩
theorem ref03_mod_ok (F : Nat) : (ref03_mod_told F).ok Try.prog :=
  toldF_ok callable (ref03_mod_all F) (fn := Try.f69) (t := ref03_mod_told F) (anns := []) (by kernel_rfl) (annsOk_nil _ _)
    (fun d => (by kernel_rfl : evBody Try.prog (calT Try.prog (ref03_mod_tab F) _) (qcalT (ref03_mod_tab F) _) (annOf []) 69 (bldS 2 (ref03_mod_told F).ins d).tmps (bldS 2 (ref03_mod_told F).ins d).heap (endO (ref03_mod_told F).os) = ref03_mod F d.1 d.2.1))

def ref03_Wide_tab (F : Nat) : List ToldF := [ref03_power_told F, ref03_mod_told F]
theorem ref03_Wide_all (F : Nat) : AllOk Try.prog (ref03_Wide_tab F) := ⟨ref03_power_ok F, ⟨ref03_mod_ok F, trivial⟩⟩

abbrev ref03_Wide_l0_ins : List Go.AE.Item := [.slot 0 (.int .i64), .slot 1 (.int .i64), .slot 5 (.int .i64), .slot 6 (.int .i64)]
abbrev ref03_Wide_l0_outs : List Go.AE.Item := [.slot 5 (.int .i64)]
def ref03_Wide_l0_ann (F : Nat) {ρ : Type} : Ann ρ := annS 35 ref03_Wide_l0_ins ref03_Wide_l0_outs fun d => ref03_Wide_l0 F F d.1 d.2.1 d.2.2.1 d.2.2.2.1
theorem ref03_Wide_l0_ok (F : Nat) {ρ : Type} (B : Base) (w : World) : AnnAt (ρ := ρ) Try.prog false B w (.block 0 (.loop (loopAt (bodyOf Try.f43) 0))) (ref03_Wide_l0_ann F) :=
  toldS_ok callable (ref03_Wide_all F) (ins := ref03_Wide_l0_ins) (outs := ref03_Wide_l0_outs) (anns := []) (L := fun k d => ref03_Wide_l0 F k d.1 d.2.1 d.2.2.1 d.2.2.2.1) (annsOk_nil _ _) (fun d => rfl)
    (fun k d => (by kernel_rfl : evCode Try.prog (calT Try.prog (ref03_Wide_tab F) _) (qcalT (ref03_Wide_tab F) _) (annOf []) (loopAt (bodyOf Try.f43) 0) (bldS 35 ref03_Wide_l0_ins d) (kS 35 ref03_Wide_l0_ins ref03_Wide_l0_outs 0 fun d => ref03_Wide_l0 F k d.1 d.2.1 d.2.2.1 d.2.2.2.1) = ref03_Wide_l0S F (ref03_Wide_l0 F k) d.1 d.2.1 d.2.2.1 d.2.2.2.1)) F B w

def ref03_Wide_told (F : Nat) : ToldF := ⟨43, 2, [.slot 0 (.int .i64), .slot 1 (.int .i64)], [.ty (.int .i64)], fun d => ref03_Wide F d.1 d.2.1⟩
theorem ref03_Wide_ok (F : Nat) : (ref03_Wide_told F).ok Try.prog :=
  toldF_ok callable (ref03_Wide_all F) (fn := Try.f43) (t := ref03_Wide_told F) (anns := [(0, ref03_Wide_l0_ann F)]) (by kernel_rfl) (annsOk_cons (by kernel_rfl) (fun B w => ref03_Wide_l0_ok F B w) (annsOk_nil _ _))
    (fun d => (by kernel_rfl : evBody Try.prog (calT Try.prog (ref03_Wide_tab F) _) (qcalT (ref03_Wide_tab F) _) (annOf [(0, ref03_Wide_l0_ann F)]) 43 (bldS 2 (ref03_Wide_told F).ins d).tmps (bldS 2 (ref03_Wide_told F).ins d).heap (endO (ref03_Wide_told F).os) = ref03_Wide F d.1 d.2.1))

def ref10_mod_tab (F : Nat) : List ToldF := []
theorem ref10_mod_all (F : Nat) : AllOk Try.prog (ref10_mod_tab F) := trivial

def ref10_mod_told (F : Nat) : ToldF := ⟨57, 2, [.slot 0 (.int .i64), .slot 1 (.int .i64)], [.ty (.int .i64)], fun d => ref10_mod F d.1 d.2.1⟩
theorem ref10_mod_ok (F : Nat) : (ref10_mod_told F).ok Try.prog :=
  toldF_ok callable (ref10_mod_all F) (fn := Try.f57) (t := ref10_mod_told F) (anns := []) (by kernel_rfl) (annsOk_nil _ _)
    (fun d => (by kernel_rfl : evBody Try.prog (calT Try.prog (ref10_mod_tab F) _) (qcalT (ref10_mod_tab F) _) (annOf []) 57 (bldS 2 (ref10_mod_told F).ins d).tmps (bldS 2 (ref10_mod_told F).ins d).heap (endO (ref10_mod_told F).os) = ref10_mod F d.1 d.2.1))

def ref10_Bases_tab (F : Nat) : List ToldF := [ref10_In_told F, ref03_Wide_told F, ref10_mod_told F]
theorem ref10_Bases_all (F : Nat) : AllOk Try.prog (ref10_Bases_tab F) := ⟨ref10_In_ok F, ⟨ref03_Wide_ok F, ⟨ref10_mod_ok F, trivial⟩⟩⟩

abbrev ref10_Bases_l0_ins : List Go.AE.Item := [.segs [.hole (.bool), .hole (.bool), .hole (.is .i64 3), .hole (.is .i64 3), .hole (.is .i64 2), .hole (.is .i64 16)] (.slot 1) true, .ptr 1 0 26, .segs [.hole (.is .i64 8)] (.slot 2) true, .ptr 2 1 8, .segs [.hole (.is .i64 8)] (.slot 4) true, .ptr 4 2 8, .slot 5 (.int .i64), .slot 6 (.int .i64)]
abbrev ref10_Bases_l0_outs : List Go.AE.Item := [.segs [.hole (.is .i64 8)] (.slot 2) true, .ptr 2 0 8, .segs [.hole (.is .i64 8)] (.slot 4) true, .ptr 4 1 8, .slot 5 (.int .i64)]
def ref10_Bases_l0_ann (F : Nat) {ρ : Type} : Ann ρ := annS 62 ref10_Bases_l0_ins ref10_Bases_l0_outs fun d => ref10_Bases_l0 F F d.1 d.2.1 d.2.2.1 d.2.2.2.1 d.2.2.2.2.1 d.2.2.2.2.2.1 d.2.2.2.2.2.2.1 d.2.2.2.2.2.2.2.1 d.2.2.2.2.2.2.2.2.1 d.2.2.2.2.2.2.2.2.2.1
theorem ref10_Bases_l0_ok (F : Nat) {ρ : Type} (B : Base) (w : World) : AnnAt (ρ := ρ) Try.prog false B w (.block 0 (.loop (loopAt (bodyOf Try.f39) 0))) (ref10_Bases_l0_ann F) :=
  toldS_ok callable (ref10_Bases_all F) (ins := ref10_Bases_l0_ins) (outs := ref10_Bases_l0_outs) (anns := []) (L := fun k d => ref10_Bases_l0 F k d.1 d.2.1 d.2.2.1 d.2.2.2.1 d.2.2.2.2.1 d.2.2.2.2.2.1 d.2.2.2.2.2.2.1 d.2.2.2.2.2.2.2.1 d.2.2.2.2.2.2.2.2.1 d.2.2.2.2.2.2.2.2.2.1) (annsOk_nil _ _) (fun d => rfl)
    (fun k d => (by kernel_rfl : evCode Try.prog (calT Try.prog (ref10_Bases_tab F) _) (qcalT (ref10_Bases_tab F) _) (annOf []) (loopAt (bodyOf Try.f39) 0) (bldS 62 ref10_Bases_l0_ins d) (kS 62 ref10_Bases_l0_ins ref10_Bases_l0_outs 0 fun d => ref10_Bases_l0 F k d.1 d.2.1 d.2.2.1 d.2.2.2.1 d.2.2.2.2.1 d.2.2.2.2.2.1 d.2.2.2.2.2.2.1 d.2.2.2.2.2.2.2.1 d.2.2.2.2.2.2.2.2.1 d.2.2.2.2.2.2.2.2.2.1) = ref10_Bases_l0S F (ref10_Bases_l0 F k) d.1 d.2.1 d.2.2.1 d.2.2.2.1 d.2.2.2.2.1 d.2.2.2.2.2.1 d.2.2.2.2.2.2.1 d.2.2.2.2.2.2.2.1 d.2.2.2.2.2.2.2.2.1 d.2.2.2.2.2.2.2.2.2.1)) F B w

def ref10_Bases_told (F : Nat) : ToldF := ⟨39, 1, [.slot 0 (.agg [.bool, .bool, .is .i64 3, .is .i64 3, .is .i64 2, .is .i64 16])], [.ty (.is .i64 8), .ty (.int .i64)], fun d => ref10_Bases F d.1⟩
theorem ref10_Bases_ok (F : Nat) : (ref10_Bases_told F).ok Try.prog :=
  toldF_ok callable (ref10_Bases_all F) (fn := Try.f39) (t := ref10_Bases_told F) (anns := [(0, ref10_Bases_l0_ann F)]) (by kernel_rfl) (annsOk_cons (by kernel_rfl) (fun B w => ref10_Bases_l0_ok F B w) (annsOk_nil _ _))
    (fun d => (by kernel_rfl : evBody Try.prog (calT Try.prog (ref10_Bases_tab F) _) (qcalT (ref10_Bases_tab F) _) (annOf [(0, ref10_Bases_l0_ann F)]) 39 (bldS 1 (ref10_Bases_told F).ins d).tmps (bldS 1 (ref10_Bases_told F).ins d).heap (endO (ref10_Bases_told F).os) = ref10_Bases F d.1))

def ref10_Half_tab (F : Nat) : List ToldF := [ref10_mod_told F]
theorem ref10_Half_all (F : Nat) : AllOk Try.prog (ref10_Half_tab F) := ⟨ref10_mod_ok F, trivial⟩

def ref10_Half_told (F : Nat) : ToldF := ⟨35, 2, [.slot 0 (.bool), .slot 1 (.int .i64)], [.ty (.int .i64)], fun d => ref10_Half F d.1 d.2.1⟩
theorem ref10_Half_ok (F : Nat) : (ref10_Half_told F).ok Try.prog :=
  toldF_ok callable (ref10_Half_all F) (fn := Try.f35) (t := ref10_Half_told F) (anns := []) (by kernel_rfl) (annsOk_nil _ _)
    (fun d => (by kernel_rfl : evBody Try.prog (calT Try.prog (ref10_Half_tab F) _) (qcalT (ref10_Half_tab F) _) (annOf []) 35 (bldS 2 (ref10_Half_told F).ins d).tmps (bldS 2 (ref10_Half_told F).ins d).heap (endO (ref10_Half_told F).os) = ref10_Half F d.1 d.2.1))

def ref10_Table_tab (F : Nat) : List ToldF := [ref10_mod_told F]
theorem ref10_Table_all (F : Nat) : AllOk Try.prog (ref10_Table_tab F) := ⟨ref10_mod_ok F, trivial⟩

def ref10_Table_told (F : Nat) : ToldF := ⟨33, 1, [.slot 0 (.int .i64)], [.ty (.is .i64 4)], fun d => ref10_Table F d.1⟩
theorem ref10_Table_ok (F : Nat) : (ref10_Table_told F).ok Try.prog :=
  toldF_ok callable (ref10_Table_all F) (fn := Try.f33) (t := ref10_Table_told F) (anns := []) (by kernel_rfl) (annsOk_nil _ _)
    (fun d => (by kernel_rfl : evBody Try.prog (calT Try.prog (ref10_Table_tab F) _) (qcalT (ref10_Table_tab F) _) (annOf []) 33 (bldS 1 (ref10_Table_told F).ins d).tmps (bldS 1 (ref10_Table_told F).ins d).heap (endO (ref10_Table_told F).os) = ref10_Table F d.1))

def ref03_Clamp_tab (F : Nat) : List ToldF := []
theorem ref03_Clamp_all (F : Nat) : AllOk Try.prog (ref03_Clamp_tab F) := trivial

def ref03_Clamp_told (F : Nat) : ToldF := ⟨87, 2, [.slot 0 (.int .i64), .slot 1 (.int .i64)], [.ty (.int .i64)], fun d => ref03_Clamp F d.1 d.2.1⟩
theorem ref03_Clamp_ok (F : Nat) : (ref03_Clamp_told F).ok Try.prog :=
  toldF_ok callable (ref03_Clamp_all F) (fn := Try.f87) (t := ref03_Clamp_told F) (anns := []) (by kernel_rfl) (annsOk_nil _ _)
    (fun d => (by kernel_rfl : evBody Try.prog (calT Try.prog (ref03_Clamp_tab F) _) (qcalT (ref03_Clamp_tab F) _) (annOf []) 87 (bldS 2 (ref03_Clamp_told F).ins d).tmps (bldS 2 (ref03_Clamp_told F).ins d).heap (endO (ref03_Clamp_told F).os) = ref03_Clamp F d.1 d.2.1))

def ref10_Add_tab (F : Nat) : List ToldF := [ref03_Clamp_told F]
theorem ref10_Add_all (F : Nat) : AllOk Try.prog (ref10_Add_tab F) := ⟨ref03_Clamp_ok F, trivial⟩

abbrev ref10_Add_l0_ins : List Go.AE.Item := [.slot 1 (.int .i64), .segs [.hole (.is .i64 4)] (.slot 2) true, .ptr 2 0 4, .segs [.hole (.is .i64 4)] (.slot 4) true, .ptr 4 1 4, .slot 5 (.int .i64)]
abbrev ref10_Add_l0_outs : List Go.AE.Item := [.segs [.hole (.is .i64 4)] (.slot 2) true, .ptr 2 0 4, .segs [.hole (.is .i64 4)] (.slot 4) true, .ptr 4 1 4]
def ref10_Add_l0_ann (F : Nat) {ρ : Type} : Ann ρ := annS 19 ref10_Add_l0_ins ref10_Add_l0_outs fun d => ref10_Add_l0 F F d.1 d.2.1 d.2.2.1 d.2.2.2.1
theorem ref10_Add_l0_ok (F : Nat) {ρ : Type} (B : Base) (w : World) : AnnAt (ρ := ρ) Try.prog false B w (.block 0 (.loop (loopAt (bodyOf Try.f67) 0))) (ref10_Add_l0_ann F) :=
  toldS_ok callable (ref10_Add_all F) (ins := ref10_Add_l0_ins) (outs := ref10_Add_l0_outs) (anns := []) (L := fun k d => ref10_Add_l0 F k d.1 d.2.1 d.2.2.1 d.2.2.2.1) (annsOk_nil _ _) (fun d => rfl)
    (fun k d => (by kernel_rfl : evCode Try.prog (calT Try.prog (ref10_Add_tab F) _) (qcalT (ref10_Add_tab F) _) (annOf []) (loopAt (bodyOf Try.f67) 0) (bldS 19 ref10_Add_l0_ins d) (kS 19 ref10_Add_l0_ins ref10_Add_l0_outs 0 fun d => ref10_Add_l0 F k d.1 d.2.1 d.2.2.1 d.2.2.2.1) = ref10_Add_l0S F (ref10_Add_l0 F k) d.1 d.2.1 d.2.2.1 d.2.2.2.1)) F B w

def ref10_Add_told (F : Nat) : ToldF := ⟨67, 2, [.slot 0 (.is .i64 4), .slot 1 (.int .i64)], [.ty (.is .i64 4)], fun d => ref10_Add F d.1 d.2.1⟩
theorem ref10_Add_ok (F : Nat) : (ref10_Add_told F).ok Try.prog :=
  toldF_ok callable (ref10_Add_all F) (fn := Try.f67) (t := ref10_Add_told F) (anns := [(0, ref10_Add_l0_ann F)]) (by kernel_rfl) (annsOk_cons (by kernel_rfl) (fun B w => ref10_Add_l0_ok F B w) (annsOk_nil _ _))
    (fun d => (by kernel_rfl : evBody Try.prog (calT Try.prog (ref10_Add_tab F) _) (qcalT (ref10_Add_tab F) _) (annOf [(0, ref10_Add_l0_ann F)]) 67 (bldS 2 (ref10_Add_told F).ins d).tmps (bldS 2 (ref10_Add_told F).ins d).heap (endO (ref10_Add_told F).os) = ref10_Add F d.1 d.2.1))

def ref10_Paint_tab (F : Nat) : List ToldF := [ref10_Bases_told F, ref10_Half_told F, ref10_Table_told F, ref10_Add_told F]
theorem ref10_Paint_all (F : Nat) : AllOk Try.prog (ref10_Paint_tab F) := ⟨ref10_Bases_ok F, ⟨ref10_Half_ok F, ⟨ref10_Table_ok F, ⟨ref10_Add_ok F, trivial⟩⟩⟩⟩

abbrev ref10_Paint_l0_ins : List Go.AE.Item := [.segs [.hole (.bool), .hole (.bool), .hole (.is .i64 3), .hole (.is .i64 3), .hole (.is .i64 2), .hole (.is .i64 16)] (.slot 1) true, .ptr 1 0 26, .segs [.hole (.is .i64 64)] (.slot 2) true, .ptr 2 1 64, .segs [.hole (.is .i64 8)] (.slot 3) true, .ptr 3 2 8, .segs [.hole (.is .i64 64)] (.slot 5) true, .ptr 5 3 64, .slot 6 (.int .i64)]
abbrev ref10_Paint_l0_outs : List Go.AE.Item := [.segs [.hole (.is .i64 64)] (.slot 2) true, .ptr 2 0 64, .segs [.hole (.is .i64 64)] (.slot 5) true, .ptr 5 1 64]
def ref10_Paint_l0_ann (F : Nat) {ρ : Type} : Ann ρ := annS 39 ref10_Paint_l0_ins ref10_Paint_l0_outs fun d => ref10_Paint_l0 F F d.1 d.2.1 d.2.2.1 d.2.2.2.1 d.2.2.2.2.1 d.2.2.2.2.2.1 d.2.2.2.2.2.2.1 d.2.2.2.2.2.2.2.1 d.2.2.2.2.2.2.2.2.1 d.2.2.2.2.2.2.2.2.2.1
theorem ref10_Paint_l0_ok (F : Nat) {ρ : Type} (B : Base) (w : World) : AnnAt (ρ := ρ) Try.prog false B w (.block 0 (.loop (loopAt (bodyOf Try.f41) 0))) (ref10_Paint_l0_ann F) :=
  toldS_ok callable (ref10_Paint_all F) (ins := ref10_Paint_l0_ins) (outs := ref10_Paint_l0_outs) (anns := []) (L := fun k d => ref10_Paint_l0 F k d.1 d.2.1 d.2.2.1 d.2.2.2.1 d.2.2.2.2.1 d.2.2.2.2.2.1 d.2.2.2.2.2.2.1 d.2.2.2.2.2.2.2.1 d.2.2.2.2.2.2.2.2.1 d.2.2.2.2.2.2.2.2.2.1) (annsOk_nil _ _) (fun d => rfl)
    (fun k d => (by kernel_rfl : evCode Try.prog (calT Try.prog (ref10_Paint_tab F) _) (qcalT (ref10_Paint_tab F) _) (annOf []) (loopAt (bodyOf Try.f41) 0) (bldS 39 ref10_Paint_l0_ins d) (kS 39 ref10_Paint_l0_ins ref10_Paint_l0_outs 0 fun d => ref10_Paint_l0 F k d.1 d.2.1 d.2.2.1 d.2.2.2.1 d.2.2.2.2.1 d.2.2.2.2.2.1 d.2.2.2.2.2.2.1 d.2.2.2.2.2.2.2.1 d.2.2.2.2.2.2.2.2.1 d.2.2.2.2.2.2.2.2.2.1) = ref10_Paint_l0S F (ref10_Paint_l0 F k) d.1 d.2.1 d.2.2.1 d.2.2.2.1 d.2.2.2.2.1 d.2.2.2.2.2.1 d.2.2.2.2.2.2.1 d.2.2.2.2.2.2.2.1 d.2.2.2.2.2.2.2.2.1 d.2.2.2.2.2.2.2.2.2.1)) F B w

def ref10_Paint_told (F : Nat) : ToldF := ⟨41, 1, [.slot 0 (.agg [.bool, .bool, .is .i64 3, .is .i64 3, .is .i64 2, .is .i64 16])], [.ty (.is .i64 64)], fun d => ref10_Paint F d.1⟩
theorem ref10_Paint_ok (F : Nat) : (ref10_Paint_told F).ok Try.prog :=
  toldF_ok callable (ref10_Paint_all F) (fn := Try.f41) (t := ref10_Paint_told F) (anns := [(0, ref10_Paint_l0_ann F)]) (by kernel_rfl) (annsOk_cons (by kernel_rfl) (fun B w => ref10_Paint_l0_ok F B w) (annsOk_nil _ _))
    (fun d => (by kernel_rfl : evBody Try.prog (calT Try.prog (ref10_Paint_tab F) _) (qcalT (ref10_Paint_tab F) _) (annOf [(0, ref10_Paint_l0_ann F)]) 41 (bldS 1 (ref10_Paint_told F).ins d).tmps (bldS 1 (ref10_Paint_told F).ins d).heap (endO (ref10_Paint_told F).os) = ref10_Paint F d.1))

def ref10_Decode_tab (F : Nat) : List ToldF := [ref10_Parts_told F, ref10_Paint_told F]
theorem ref10_Decode_all (F : Nat) : AllOk Try.prog (ref10_Decode_tab F) := ⟨ref10_Parts_ok F, ⟨ref10_Paint_ok F, trivial⟩⟩

def ref10_Decode_told (F : Nat) : ToldF := ⟨30, 1, [.row .u8 1 (.slot 0) false], [.ty (.is .i64 64), .ty (.int .i64)], fun d => ref10_Decode F d.1⟩
theorem ref10_Decode_ok (F : Nat) : (ref10_Decode_told F).ok Try.prog :=
  toldF_ok callable (ref10_Decode_all F) (fn := Try.f30) (t := ref10_Decode_told F) (anns := []) (by kernel_rfl) (annsOk_nil _ _)
    (fun d => (by kernel_rfl : evBody Try.prog (calT Try.prog (ref10_Decode_tab F) _) (qcalT (ref10_Decode_tab F) _) (annOf []) 30 (bldS 1 (ref10_Decode_told F).ins d).tmps (bldS 1 (ref10_Decode_told F).ins d).heap (endO (ref10_Decode_told F).os) = ref10_Decode F d.1))

def law10_to_tab (F : Nat) : List ToldF := []
theorem law10_to_all (F : Nat) : AllOk Try.prog (law10_to_tab F) := trivial

def law10_to_told (F : Nat) : ToldF := ⟨31, 1, [.slot 0 (.agg [.bool, .bool, .is .i64 3, .is .i64 3, .is .i64 2, .is .i64 16])], [.ty (.agg [.bool, .bool, .is .i64 3, .is .i64 3, .is .i64 2, .is .i64 16])], fun d => law10_to F d.1⟩
theorem law10_to_ok (F : Nat) : (law10_to_told F).ok Try.prog :=
  toldF_ok callable (law10_to_all F) (fn := Try.f31) (t := law10_to_told F) (anns := []) (by kernel_rfl) (annsOk_nil _ _)
    (fun d => (by kernel_rfl : evBody Try.prog (calT Try.prog (law10_to_tab F) _) (qcalT (law10_to_tab F) _) (annOf []) 31 (bldS 1 (law10_to_told F).ins d).tmps (bldS 1 (law10_to_told F).ins d).heap (endO (law10_to_told F).os) = law10_to F d.1))

def law10_EtconeTells_tab (F : Nat) : List ToldF := [etcone_Parts_told F, etcone_Half_told F, etcone_Table_told F, etcone_Decode_told F, law10_awake_told F, ref10_Parts_told F, ref10_Half_told F, ref10_Table_told F, ref10_Decode_told F, law10_to_told F]
theorem law10_EtconeTells_all (F : Nat) : AllOk Try.prog (law10_EtconeTells_tab F) := ⟨etcone_Parts_ok F, ⟨etcone_Half_ok F, ⟨etcone_Table_ok F, ⟨etcone_Decode_ok F, ⟨law10_awake_ok F, ⟨ref10_Parts_ok F, ⟨ref10_Half_ok F, ⟨ref10_Table_ok F, ⟨ref10_Decode_ok F, ⟨law10_to_ok F, trivial⟩⟩⟩⟩⟩⟩⟩⟩⟩⟩

def law10_EtconeTells_told (F : Nat) : ToldF := ⟨7, 3, [.row .u8 1 (.slot 0) false, .slot 1 (.int .i64), .slot 2 (.bool)], [.ty (.bool)], fun d => law10_EtconeTells F d.1 d.2.1 d.2.2.1⟩
theorem law10_EtconeTells_ok (F : Nat) : (law10_EtconeTells_told F).ok Try.prog :=
  toldF_ok callable (law10_EtconeTells_all F) (fn := Try.f7) (t := law10_EtconeTells_told F) (anns := []) (by kernel_rfl) (annsOk_nil _ _)
    (fun d => (by kernel_rfl : evBody Try.prog (calT Try.prog (law10_EtconeTells_tab F) _) (qcalT (law10_EtconeTells_tab F) _) (annOf []) 7 (bldS 3 (law10_EtconeTells_told F).ins d).tmps (bldS 3 (law10_EtconeTells_told F).ins d).heap (endO (law10_EtconeTells_told F).os) = law10_EtconeTells F d.1 d.2.1 d.2.2.1))

def ref10_May_tab (F : Nat) : List ToldF := [ref10_In_told F]
theorem ref10_May_all (F : Nat) : AllOk Try.prog (ref10_May_tab F) := ⟨ref10_In_ok F, trivial⟩

abbrev ref10_May_l0_ins : List Go.AE.Item := [.segs [.hole (.bool), .hole (.bool), .hole (.is .i64 3), .hole (.is .i64 3), .hole (.is .i64 2), .hole (.is .i64 16)] (.slot 1) true, .ptr 1 0 26, .slot 3 (.int .i64)]
abbrev ref10_May_l0_outs : List Go.AE.Item := [.segs [.hole (.bool), .hole (.bool), .hole (.is .i64 3), .hole (.is .i64 3), .hole (.is .i64 2), .hole (.is .i64 16)] (.slot 1) true, .ptr 1 0 26]
abbrev ref10_May_l0_outX : List Go.AE.Item := [.const 2 (.bool (some false) false)]
def ref10_May_l0_ann (F : Nat) {ρ : Type} : Ann ρ := annX 68 ref10_May_l0_ins ref10_May_l0_outX ref10_May_l0_outs .ret fun d => ref10_May_l0 F F d.1 d.2.1 d.2.2.1 d.2.2.2.1 d.2.2.2.2.1 d.2.2.2.2.2.1 d.2.2.2.2.2.2.1
theorem ref10_May_l0_ok (F : Nat) {ρ : Type} (B : Base) (w : World) : AnnAt (ρ := ρ) Try.prog false B w (.block 0 (.loop (loopAt (bodyOf Try.f61) 0))) (ref10_May_l0_ann F) :=
  toldX_ok callable (ref10_May_all F) (ins := ref10_May_l0_ins) (outX := ref10_May_l0_outX) (outs := ref10_May_l0_outs) (anns := []) (L := fun k d => ref10_May_l0 F k d.1 d.2.1 d.2.2.1 d.2.2.2.1 d.2.2.2.2.1 d.2.2.2.2.2.1 d.2.2.2.2.2.2.1) (annsOk_nil _ _) (fun d => rfl)
    (fun k d => (by kernel_rfl : evCode Try.prog (calT Try.prog (ref10_May_tab F) _) (qcalT (ref10_May_tab F) _) (annOf []) (loopAt (bodyOf Try.f61) 0) (bldS 68 ref10_May_l0_ins d) (kX 68 ref10_May_l0_ins ref10_May_l0_outX ref10_May_l0_outs 0 .ret fun d => ref10_May_l0 F k d.1 d.2.1 d.2.2.1 d.2.2.2.1 d.2.2.2.2.1 d.2.2.2.2.2.1 d.2.2.2.2.2.2.1) = ref10_May_l0S F (ref10_May_l0 F k) d.1 d.2.1 d.2.2.1 d.2.2.2.1 d.2.2.2.2.1 d.2.2.2.2.2.1 d.2.2.2.2.2.2.1)) (by first | exact .inl rfl | exact .inr ⟨_, rfl, by decide⟩) F B w

abbrev ref10_May_l2_ins : List Go.AE.Item := [.segs [.hole (.bool), .hole (.bool), .hole (.is .i64 3), .hole (.is .i64 3), .hole (.is .i64 2), .hole (.is .i64 16)] (.slot 1) true, .ptr 1 0 26, .slot 4 (.int .i64)]
abbrev ref10_May_l2_outs : List Go.AE.Item := [.segs [.hole (.bool), .hole (.bool), .hole (.is .i64 3), .hole (.is .i64 3), .hole (.is .i64 2), .hole (.is .i64 16)] (.slot 1) true, .ptr 1 0 26]
abbrev ref10_May_l2_outX : List Go.AE.Item := [.const 2 (.bool (some false) false)]
def ref10_May_l2_ann (F : Nat) {ρ : Type} : Ann ρ := annX 68 ref10_May_l2_ins ref10_May_l2_outX ref10_May_l2_outs .ret fun d => ref10_May_l2 F F d.1 d.2.1 d.2.2.1 d.2.2.2.1 d.2.2.2.2.1 d.2.2.2.2.2.1 d.2.2.2.2.2.2.1
theorem ref10_May_l2_ok (F : Nat) {ρ : Type} (B : Base) (w : World) : AnnAt (ρ := ρ) Try.prog false B w (.block 2 (.loop (loopAt (bodyOf Try.f61) 2))) (ref10_May_l2_ann F) :=
  toldX_ok callable (ref10_May_all F) (ins := ref10_May_l2_ins) (outX := ref10_May_l2_outX) (outs := ref10_May_l2_outs) (anns := []) (L := fun k d => ref10_May_l2 F k d.1 d.2.1 d.2.2.1 d.2.2.2.1 d.2.2.2.2.1 d.2.2.2.2.2.1 d.2.2.2.2.2.2.1) (annsOk_nil _ _) (fun d => rfl)
    (fun k d => (by kernel_rfl : evCode Try.prog (calT Try.prog (ref10_May_tab F) _) (qcalT (ref10_May_tab F) _) (annOf []) (loopAt (bodyOf Try.f61) 2) (bldS 68 ref10_May_l2_ins d) (kX 68 ref10_May_l2_ins ref10_May_l2_outX ref10_May_l2_outs 2 .ret fun d => ref10_May_l2 F k d.1 d.2.1 d.2.2.1 d.2.2.2.1 d.2.2.2.2.1 d.2.2.2.2.2.1 d.2.2.2.2.2.2.1) = ref10_May_l2S F (ref10_May_l2 F k) d.1 d.2.1 d.2.2.1 d.2.2.2.1 d.2.2.2.2.1 d.2.2.2.2.2.1 d.2.2.2.2.2.2.1)) (by first | exact .inl rfl | exact .inr ⟨_, rfl, by decide⟩) F B w

def ref10_May_told (F : Nat) : ToldF := ⟨61, 1, [.slot 0 (.agg [.bool, .bool, .is .i64 3, .is .i64 3, .is .i64 2, .is .i64 16])], [.ty (.bool)], fun d => ref10_May F d.1⟩
theorem ref10_May_ok (F : Nat) : (ref10_May_told F).ok Try.prog :=
  toldF_ok callable (ref10_May_all F) (fn := Try.f61) (t := ref10_May_told F) (anns := [(0, ref10_May_l0_ann F), (2, ref10_May_l2_ann F)]) (by kernel_rfl) (annsOk_cons (by kernel_rfl) (fun B w => ref10_May_l0_ok F B w) (annsOk_cons (by kernel_rfl) (fun B w => ref10_May_l2_ok F B w) (annsOk_nil _ _)))
    (fun d => (by kernel_rfl : evBody Try.prog (calT Try.prog (ref10_May_tab F) _) (qcalT (ref10_May_tab F) _) (annOf [(0, ref10_May_l0_ann F), (2, ref10_May_l2_ann F)]) 61 (bldS 1 (ref10_May_told F).ins d).tmps (bldS 1 (ref10_May_told F).ins d).heap (endO (ref10_May_told F).os) = ref10_May F d.1))

def ref02_power_tab (F : Nat) : List ToldF := []
theorem ref02_power_all (F : Nat) : AllOk Try.prog (ref02_power_tab F) := trivial

abbrev ref02_power_l0_ins : List Go.AE.Item := [.slot 0 (.int .i64), .slot 3 (.int .u64), .slot 4 (.int .i64)]
abbrev ref02_power_l0_outs : List Go.AE.Item := [.slot 3 (.int .u64)]
def ref02_power_l0_ann (F : Nat) {ρ : Type} : Ann ρ := annS 13 ref02_power_l0_ins ref02_power_l0_outs fun d => ref02_power_l0 F F d.1 d.2.1 d.2.2.1
theorem ref02_power_l0_ok (F : Nat) {ρ : Type} (B : Base) (w : World) : AnnAt (ρ := ρ) Try.prog false B w (.block 0 (.loop (loopAt (bodyOf Try.f83) 0))) (ref02_power_l0_ann F) :=
  toldS_ok callable (ref02_power_all F) (ins := ref02_power_l0_ins) (outs := ref02_power_l0_outs) (anns := []) (L := fun k d => ref02_power_l0 F k d.1 d.2.1 d.2.2.1) (annsOk_nil _ _) (fun d => rfl)
    (fun k d => (by kernel_rfl : evCode Try.prog (calT Try.prog (ref02_power_tab F) _) (qcalT (ref02_power_tab F) _) (annOf []) (loopAt (bodyOf Try.f83) 0) (bldS 13 ref02_power_l0_ins d) (kS 13 ref02_power_l0_ins ref02_power_l0_outs 0 fun d => ref02_power_l0 F k d.1 d.2.1 d.2.2.1) = ref02_power_l0S F (ref02_power_l0 F k) d.1 d.2.1 d.2.2.1)) F B w

def ref02_power_told (F : Nat) : ToldF := ⟨83, 1, [.slot 0 (.int .i64)], [.ty (.int .u64)], fun d => ref02_power F d.1⟩
theorem ref02_power_ok (F : Nat) : (ref02_power_told F).ok Try.prog :=
  toldF_ok callable (ref02_power_all F) (fn := Try.f83) (t := ref02_power_told F) (anns := [(0, ref02_power_l0_ann F)]) (by kernel_rfl) (annsOk_cons (by kernel_rfl) (fun B w => ref02_power_l0_ok F B w) (annsOk_nil _ _))
    (fun d => (by kernel_rfl : evBody Try.prog (calT Try.prog (ref02_power_tab F) _) (qcalT (ref02_power_tab F) _) (annOf [(0, ref02_power_l0_ann F)]) 83 (bldS 1 (ref02_power_told F).ins d).tmps (bldS 1 (ref02_power_told F).ins d).heap (endO (ref02_power_told F).os) = ref02_power F d.1))

def ref02_Set_tab (F : Nat) : List ToldF := [ref02_bit_told F, ref02_Get_told F, ref02_power_told F]
theorem ref02_Set_all (F : Nat) : AllOk Try.prog (ref02_Set_tab F) := ⟨ref02_bit_ok F, ⟨ref02_Get_ok F, ⟨ref02_power_ok F, trivial⟩⟩⟩

abbrev ref02_Set_l0_ins : List Go.AE.Item := [.slot 1 (.int .i64), .slot 2 (.int .i64), .slot 3 (.bool), .slot 4 (.int .u64), .row .u8 1 (.slot 14) true, .slot 15 (.int .i64)]
abbrev ref02_Set_l0_outs : List Go.AE.Item := [.row .u8 1 (.slot 14) true]
def ref02_Set_l0_ann (F : Nat) {ρ : Type} : Ann ρ := annS 91 ref02_Set_l0_ins ref02_Set_l0_outs fun d => ref02_Set_l0 F F d.1 d.2.1 d.2.2.1 d.2.2.2.1 d.2.2.2.2.1 d.2.2.2.2.2.1
theorem ref02_Set_l0_ok (F : Nat) {ρ : Type} (B : Base) (w : World) : AnnAt (ρ := ρ) Try.prog false B w (.block 0 (.loop (loopAt (bodyOf Try.f51) 0))) (ref02_Set_l0_ann F) :=
  toldS_ok callable (ref02_Set_all F) (ins := ref02_Set_l0_ins) (outs := ref02_Set_l0_outs) (anns := []) (L := fun k d => ref02_Set_l0 F k d.1 d.2.1 d.2.2.1 d.2.2.2.1 d.2.2.2.2.1 d.2.2.2.2.2.1) (annsOk_nil _ _) (fun d => rfl)
    (fun k d => (by kernel_rfl : evCode Try.prog (calT Try.prog (ref02_Set_tab F) _) (qcalT (ref02_Set_tab F) _) (annOf []) (loopAt (bodyOf Try.f51) 0) (bldS 91 ref02_Set_l0_ins d) (kS 91 ref02_Set_l0_ins ref02_Set_l0_outs 0 fun d => ref02_Set_l0 F k d.1 d.2.1 d.2.2.1 d.2.2.2.1 d.2.2.2.2.1 d.2.2.2.2.2.1) = ref02_Set_l0S F (ref02_Set_l0 F k) d.1 d.2.1 d.2.2.1 d.2.2.2.1 d.2.2.2.2.1 d.2.2.2.2.2.1)) F B w

def ref02_Set_told (F : Nat) : ToldF := ⟨51, 5, [.row .u8 1 (.slot 0) false, .slot 1 (.int .i64), .slot 2 (.int .i64), .slot 3 (.bool), .slot 4 (.int .u64)], [.row .u8 1, .ty (.int .i64)], fun d => ref02_Set F d.1 d.2.1 d.2.2.1 d.2.2.2.1 d.2.2.2.2.1⟩
theorem ref02_Set_ok (F : Nat) : (ref02_Set_told F).ok Try.prog :=
  toldF_ok callable (ref02_Set_all F) (fn := Try.f51) (t := ref02_Set_told F) (anns := [(0, ref02_Set_l0_ann F)]) (by kernel_rfl) (annsOk_cons (by kernel_rfl) (fun B w => ref02_Set_l0_ok F B w) (annsOk_nil _ _))
    (fun d => (by kernel_rfl : evBody Try.prog (calT Try.prog (ref02_Set_tab F) _) (qcalT (ref02_Set_tab F) _) (annOf [(0, ref02_Set_l0_ann F)]) 51 (bldS 5 (ref02_Set_told F).ins d).tmps (bldS 5 (ref02_Set_told F).ins d).heap (endO (ref02_Set_told F).os) = ref02_Set F d.1 d.2.1 d.2.2.1 d.2.2.2.1 d.2.2.2.2.1))

def ref10_set_tab (F : Nat) : List ToldF := [ref02_Set_told F]
theorem ref10_set_all (F : Nat) : AllOk Try.prog (ref10_set_tab F) := ⟨ref02_Set_ok F, trivial⟩

def ref10_set_told (F : Nat) : ToldF := ⟨62, 4, [.row .u8 1 (.slot 0) false, .slot 1 (.int .i64), .slot 2 (.int .i64), .slot 3 (.int .i64)], [.row .u8 1], fun d => ref10_set F d.1 d.2.1 d.2.2.1 d.2.2.2.1⟩
theorem ref10_set_ok (F : Nat) : (ref10_set_told F).ok Try.prog :=
  toldF_ok callable (ref10_set_all F) (fn := Try.f62) (t := ref10_set_told F) (anns := []) (by kernel_rfl) (annsOk_nil _ _)
    (fun d => (by kernel_rfl : evBody Try.prog (calT Try.prog (ref10_set_tab F) _) (qcalT (ref10_set_tab F) _) (annOf []) 62 (bldS 4 (ref10_set_told F).ins d).tmps (bldS 4 (ref10_set_told F).ins d).heap (endO (ref10_set_told F).os) = ref10_set F d.1 d.2.1 d.2.2.1 d.2.2.2.1))

def ref10_bit_tab (F : Nat) : List ToldF := []
theorem ref10_bit_all (F : Nat) : AllOk Try.prog (ref10_bit_tab F) := trivial

def ref10_bit_told (F : Nat) : ToldF := ⟨63, 1, [.slot 0 (.bool)], [.ty (.int .i64)], fun d => ref10_bit F d.1⟩
theorem ref10_bit_ok (F : Nat) : (ref10_bit_told F).ok Try.prog :=
  toldF_ok callable (ref10_bit_all F) (fn := Try.f63) (t := ref10_bit_told F) (anns := []) (by kernel_rfl) (annsOk_nil _ _)
    (fun d => (by kernel_rfl : evBody Try.prog (calT Try.prog (ref10_bit_tab F) _) (qcalT (ref10_bit_tab F) _) (annOf []) 63 (bldS 1 (ref10_bit_told F).ins d).tmps (bldS 1 (ref10_bit_told F).ins d).heap (endO (ref10_bit_told F).os) = ref10_bit F d.1))

def ref10_Lay_tab (F : Nat) : List ToldF := [ref10_set_told F]
theorem ref10_Lay_all (F : Nat) : AllOk Try.prog (ref10_Lay_tab F) := ⟨ref10_set_ok F, trivial⟩

abbrev ref10_Lay_l0_ins : List Go.AE.Item := [.row .u8 1 (.slot 0) false, .segs [.hole (.is .i64 16)] (.slot 3) true, .ptr 3 1 16, .slot 5 (.int .i64)]
abbrev ref10_Lay_l0_outs : List Go.AE.Item := [.row .u8 1 (.slot 0) false]
def ref10_Lay_l0_ann (F : Nat) {ρ : Type} : Ann ρ := annS 34 ref10_Lay_l0_ins ref10_Lay_l0_outs fun d => ref10_Lay_l0 F F d.1 d.2.1 d.2.2.1
theorem ref10_Lay_l0_ok (F : Nat) {ρ : Type} (B : Base) (w : World) : AnnAt (ρ := ρ) Try.prog false B w (.block 0 (.loop (loopAt (bodyOf Try.f64) 0))) (ref10_Lay_l0_ann F) :=
  toldS_ok callable (ref10_Lay_all F) (ins := ref10_Lay_l0_ins) (outs := ref10_Lay_l0_outs) (anns := []) (L := fun k d => ref10_Lay_l0 F k d.1 d.2.1 d.2.2.1) (annsOk_nil _ _) (fun d => rfl)
    (fun k d => (by kernel_rfl : evCode Try.prog (calT Try.prog (ref10_Lay_tab F) _) (qcalT (ref10_Lay_tab F) _) (annOf []) (loopAt (bodyOf Try.f64) 0) (bldS 34 ref10_Lay_l0_ins d) (kS 34 ref10_Lay_l0_ins ref10_Lay_l0_outs 0 fun d => ref10_Lay_l0 F k d.1 d.2.1 d.2.2.1) = ref10_Lay_l0S F (ref10_Lay_l0 F k) d.1 d.2.1 d.2.2.1)) F B w

def ref10_Lay_told (F : Nat) : ToldF := ⟨64, 2, [.row .u8 1 (.slot 0) false, .slot 1 (.is .i64 16)], [.row .u8 1 false], fun d => ref10_Lay F d.1 d.2.1⟩
theorem ref10_Lay_ok (F : Nat) : (ref10_Lay_told F).ok Try.prog :=
  toldF_ok callable (ref10_Lay_all F) (fn := Try.f64) (t := ref10_Lay_told F) (anns := [(0, ref10_Lay_l0_ann F)]) (by kernel_rfl) (annsOk_cons (by kernel_rfl) (fun B w => ref10_Lay_l0_ok F B w) (annsOk_nil _ _))
    (fun d => (by kernel_rfl : evBody Try.prog (calT Try.prog (ref10_Lay_tab F) _) (qcalT (ref10_Lay_tab F) _) (annOf [(0, ref10_Lay_l0_ann F)]) 64 (bldS 2 (ref10_Lay_told F).ins d).tmps (bldS 2 (ref10_Lay_told F).ins d).heap (endO (ref10_Lay_told F).os) = ref10_Lay F d.1 d.2.1))

def ref10_Join_tab (F : Nat) : List ToldF := [ref10_mod_told F, ref10_May_told F, ref10_set_told F, ref10_bit_told F, ref10_Lay_told F]
theorem ref10_Join_all (F : Nat) : AllOk Try.prog (ref10_Join_tab F) := ⟨ref10_mod_ok F, ⟨ref10_May_ok F, ⟨ref10_set_ok F, ⟨ref10_bit_ok F, ⟨ref10_Lay_ok F, trivial⟩⟩⟩⟩⟩

abbrev ref10_Join_l0_ins : List Go.AE.Item := [.segs [.hole (.bool), .hole (.bool), .hole (.is .i64 3), .hole (.is .i64 3), .hole (.is .i64 2), .hole (.is .i64 16)] (.slot 1) true, .ptr 1 0 26, .row .u8 1 (.slot 4) true, .slot 5 (.int .i64)]
abbrev ref10_Join_l0_outs : List Go.AE.Item := [.segs [.hole (.bool), .hole (.bool), .hole (.is .i64 3), .hole (.is .i64 3), .hole (.is .i64 2), .hole (.is .i64 16)] (.slot 1) true, .ptr 1 0 26, .row .u8 1 (.slot 4) true]
def ref10_Join_l0_ann (F : Nat) {ρ : Type} : Ann ρ := annS 75 ref10_Join_l0_ins ref10_Join_l0_outs fun d => ref10_Join_l0 F F d.1 d.2.1 d.2.2.1 d.2.2.2.1 d.2.2.2.2.1 d.2.2.2.2.2.1 d.2.2.2.2.2.2.1 d.2.2.2.2.2.2.2.1
theorem ref10_Join_l0_ok (F : Nat) {ρ : Type} (B : Base) (w : World) : AnnAt (ρ := ρ) Try.prog false B w (.block 0 (.loop (loopAt (bodyOf Try.f37) 0))) (ref10_Join_l0_ann F) :=
  toldS_ok callable (ref10_Join_all F) (ins := ref10_Join_l0_ins) (outs := ref10_Join_l0_outs) (anns := []) (L := fun k d => ref10_Join_l0 F k d.1 d.2.1 d.2.2.1 d.2.2.2.1 d.2.2.2.2.1 d.2.2.2.2.2.1 d.2.2.2.2.2.2.1 d.2.2.2.2.2.2.2.1) (annsOk_nil _ _) (fun d => rfl)
    (fun k d => (by kernel_rfl : evCode Try.prog (calT Try.prog (ref10_Join_tab F) _) (qcalT (ref10_Join_tab F) _) (annOf []) (loopAt (bodyOf Try.f37) 0) (bldS 75 ref10_Join_l0_ins d) (kS 75 ref10_Join_l0_ins ref10_Join_l0_outs 0 fun d => ref10_Join_l0 F k d.1 d.2.1 d.2.2.1 d.2.2.2.1 d.2.2.2.2.1 d.2.2.2.2.2.1 d.2.2.2.2.2.2.1 d.2.2.2.2.2.2.2.1) = ref10_Join_l0S F (ref10_Join_l0 F k) d.1 d.2.1 d.2.2.1 d.2.2.2.1 d.2.2.2.2.1 d.2.2.2.2.2.1 d.2.2.2.2.2.2.1 d.2.2.2.2.2.2.2.1)) F B w

def ref10_Join_told (F : Nat) : ToldF := ⟨37, 1, [.slot 0 (.agg [.bool, .bool, .is .i64 3, .is .i64 3, .is .i64 2, .is .i64 16])], [.row .u8 1 false, .ty (.int .i64)], fun d => ref10_Join F d.1⟩
theorem ref10_Join_ok (F : Nat) : (ref10_Join_told F).ok Try.prog :=
  toldF_ok callable (ref10_Join_all F) (fn := Try.f37) (t := ref10_Join_told F) (anns := [(0, ref10_Join_l0_ann F)]) (by kernel_rfl) (annsOk_cons (by kernel_rfl) (fun B w => ref10_Join_l0_ok F B w) (annsOk_nil _ _))
    (fun d => (by kernel_rfl : evBody Try.prog (calT Try.prog (ref10_Join_tab F) _) (qcalT (ref10_Join_tab F) _) (annOf [(0, ref10_Join_l0_ann F)]) 37 (bldS 1 (ref10_Join_told F).ins d).tmps (bldS 1 (ref10_Join_told F).ins d).heap (endO (ref10_Join_told F).os) = ref10_Join F d.1))

def ref01_Same_tab (F : Nat) : List ToldF := []
theorem ref01_Same_all (F : Nat) : AllOk Try.prog (ref01_Same_tab F) := trivial

abbrev ref01_Same_l0_ins : List Go.AE.Item := [.row .u8 1 (.slot 0) false, .row .u8 1 (.slot 1) false, .slot 5 (.int .i64)]
abbrev ref01_Same_l0_outs : List Go.AE.Item := []
abbrev ref01_Same_l0_outX : List Go.AE.Item := [.const 4 (.bool (some false) false)]
def ref01_Same_l0_ann (F : Nat) {ρ : Type} : Ann ρ := annX 26 ref01_Same_l0_ins ref01_Same_l0_outX ref01_Same_l0_outs .ret fun d => ref01_Same_l0 F F d.1 d.2.1 d.2.2.1
theorem ref01_Same_l0_ok (F : Nat) {ρ : Type} (B : Base) (w : World) : AnnAt (ρ := ρ) Try.prog false B w (.block 0 (.loop (loopAt (bodyOf Try.f25) 0))) (ref01_Same_l0_ann F) :=
  toldX_ok callable (ref01_Same_all F) (ins := ref01_Same_l0_ins) (outX := ref01_Same_l0_outX) (outs := ref01_Same_l0_outs) (anns := []) (L := fun k d => ref01_Same_l0 F k d.1 d.2.1 d.2.2.1) (annsOk_nil _ _) (fun d => rfl)
    (fun k d => (by kernel_rfl : evCode Try.prog (calT Try.prog (ref01_Same_tab F) _) (qcalT (ref01_Same_tab F) _) (annOf []) (loopAt (bodyOf Try.f25) 0) (bldS 26 ref01_Same_l0_ins d) (kX 26 ref01_Same_l0_ins ref01_Same_l0_outX ref01_Same_l0_outs 0 .ret fun d => ref01_Same_l0 F k d.1 d.2.1 d.2.2.1) = ref01_Same_l0S F (ref01_Same_l0 F k) d.1 d.2.1 d.2.2.1)) (by first | exact .inl rfl | exact .inr ⟨_, rfl, by decide⟩) F B w

def ref01_Same_told (F : Nat) : ToldF := ⟨25, 2, [.row .u8 1 (.slot 0) false, .row .u8 1 (.slot 1) false], [.ty (.bool)], fun d => ref01_Same F d.1 d.2.1⟩
theorem ref01_Same_ok (F : Nat) : (ref01_Same_told F).ok Try.prog :=
  toldF_ok callable (ref01_Same_all F) (fn := Try.f25) (t := ref01_Same_told F) (anns := [(0, ref01_Same_l0_ann F)]) (by kernel_rfl) (annsOk_cons (by kernel_rfl) (fun B w => ref01_Same_l0_ok F B w) (annsOk_nil _ _))
    (fun d => (by kernel_rfl : evBody Try.prog (calT Try.prog (ref01_Same_tab F) _) (qcalT (ref01_Same_tab F) _) (annOf [(0, ref01_Same_l0_ann F)]) 25 (bldS 2 (ref01_Same_told F).ins d).tmps (bldS 2 (ref01_Same_told F).ins d).heap (endO (ref01_Same_told F).os) = ref01_Same F d.1 d.2.1))

def law10_EtconeJoins_tab (F : Nat) : List ToldF := [etcone_Join_told F, etcone_Bases_told F, etcone_Paint_told F, law10_awake_told F, ref10_Bases_told F, ref10_Paint_told F, law10_to_told F, ref10_Join_told F, ref01_Same_told F]
theorem law10_EtconeJoins_all (F : Nat) : AllOk Try.prog (law10_EtconeJoins_tab F) := ⟨etcone_Join_ok F, ⟨etcone_Bases_ok F, ⟨etcone_Paint_ok F, ⟨law10_awake_ok F, ⟨ref10_Bases_ok F, ⟨ref10_Paint_ok F, ⟨law10_to_ok F, ⟨ref10_Join_ok F, ⟨ref01_Same_ok F, trivial⟩⟩⟩⟩⟩⟩⟩⟩⟩

def law10_EtconeJoins_told (F : Nat) : ToldF := ⟨8, 1, [.slot 0 (.agg [.bool, .bool, .is .i64 3, .is .i64 3, .is .i64 2, .is .i64 16])], [.ty (.bool)], fun d => law10_EtconeJoins F d.1⟩
theorem law10_EtconeJoins_ok (F : Nat) : (law10_EtconeJoins_told F).ok Try.prog :=
  toldF_ok callable (law10_EtconeJoins_all F) (fn := Try.f8) (t := law10_EtconeJoins_told F) (anns := []) (by kernel_rfl) (annsOk_nil _ _)
    (fun d => (by kernel_rfl : evBody Try.prog (calT Try.prog (law10_EtconeJoins_tab F) _) (qcalT (law10_EtconeJoins_tab F) _) (annOf []) 8 (bldS 1 (law10_EtconeJoins_told F).ins d).tmps (bldS 1 (law10_EtconeJoins_told F).ins d).heap (endO (law10_EtconeJoins_told F).os) = law10_EtconeJoins F d.1))

def law10_EtconeBack_tab (F : Nat) : List ToldF := [etcone_Join_told F, etcone_Parts_told F, etcone_Paint_told F, etcone_Decode_told F, law10_awake_told F, ref01_Same_told F]
theorem law10_EtconeBack_all (F : Nat) : AllOk Try.prog (law10_EtconeBack_tab F) := ⟨etcone_Join_ok F, ⟨etcone_Parts_ok F, ⟨etcone_Paint_ok F, ⟨etcone_Decode_ok F, ⟨law10_awake_ok F, ⟨ref01_Same_ok F, trivial⟩⟩⟩⟩⟩⟩

def law10_EtconeBack_told (F : Nat) : ToldF := ⟨9, 2, [.row .u8 1 (.slot 0) false, .slot 1 (.agg [.bool, .bool, .is .i64 3, .is .i64 3, .is .i64 2, .is .i64 16])], [.ty (.bool)], fun d => law10_EtconeBack F d.1 d.2.1⟩
theorem law10_EtconeBack_ok (F : Nat) : (law10_EtconeBack_told F).ok Try.prog :=
  toldF_ok callable (law10_EtconeBack_all F) (fn := Try.f9) (t := law10_EtconeBack_told F) (anns := []) (by kernel_rfl) (annsOk_nil _ _)
    (fun d => (by kernel_rfl : evBody Try.prog (calT Try.prog (law10_EtconeBack_tab F) _) (qcalT (law10_EtconeBack_tab F) _) (annOf []) 9 (bldS 2 (law10_EtconeBack_told F).ins d).tmps (bldS 2 (law10_EtconeBack_told F).ins d).heap (endO (law10_EtconeBack_told F).os) = law10_EtconeBack F d.1 d.2.1))

def law10_EtconeTurns_tab (F : Nat) : List ToldF := [etcone_Join_told F, etcone_Paint_told F, law10_awake_told F]
theorem law10_EtconeTurns_all (F : Nat) : AllOk Try.prog (law10_EtconeTurns_tab F) := ⟨etcone_Join_ok F, ⟨etcone_Paint_ok F, ⟨law10_awake_ok F, trivial⟩⟩⟩

abbrev law10_EtconeTurns_l0_ins : List Go.AE.Item := [.segs [.hole (.bool), .hole (.bool), .hole (.is .i64 3), .hole (.is .i64 3), .hole (.is .i64 2), .hole (.is .i64 16)] (.slot 1) true, .ptr 1 0 26, .slot 3 (.bool), .segs [.hole (.bool), .hole (.bool), .hole (.is .i64 3), .hole (.is .i64 3), .hole (.is .i64 2), .hole (.is .i64 16)] (.slot 6) true, .ptr 6 1 26, .slot 7 (.int .i64)]
abbrev law10_EtconeTurns_l0_outs : List Go.AE.Item := [.segs [.hole (.bool), .hole (.bool), .hole (.is .i64 3), .hole (.is .i64 3), .hole (.is .i64 2), .hole (.is .i64 16)] (.slot 1) true, .ptr 1 0 26, .slot 3 (.bool), .segs [.hole (.bool), .hole (.bool), .hole (.is .i64 3), .hole (.is .i64 3), .hole (.is .i64 2), .hole (.is .i64 16)] (.slot 6) true, .ptr 6 1 26]
def law10_EtconeTurns_l0_ann (F : Nat) {ρ : Type} : Ann ρ := annS 62 law10_EtconeTurns_l0_ins law10_EtconeTurns_l0_outs fun d => law10_EtconeTurns_l0 F F d.1 d.2.1 d.2.2.1 d.2.2.2.1 d.2.2.2.2.1 d.2.2.2.2.2.1 d.2.2.2.2.2.2.1 d.2.2.2.2.2.2.2.1 d.2.2.2.2.2.2.2.2.1 d.2.2.2.2.2.2.2.2.2.1 d.2.2.2.2.2.2.2.2.2.2.1 d.2.2.2.2.2.2.2.2.2.2.2.1 d.2.2.2.2.2.2.2.2.2.2.2.2.1 d.2.2.2.2.2.2.2.2.2.2.2.2.2.1
theorem law10_EtconeTurns_l0_ok (F : Nat) {ρ : Type} (B : Base) (w : World) : AnnAt (ρ := ρ) Try.prog false B w (.block 0 (.loop (loopAt (bodyOf Try.f10) 0))) (law10_EtconeTurns_l0_ann F) :=
  toldS_ok callable (law10_EtconeTurns_all F) (ins := law10_EtconeTurns_l0_ins) (outs := law10_EtconeTurns_l0_outs) (anns := []) (L := fun k d => law10_EtconeTurns_l0 F k d.1 d.2.1 d.2.2.1 d.2.2.2.1 d.2.2.2.2.1 d.2.2.2.2.2.1 d.2.2.2.2.2.2.1 d.2.2.2.2.2.2.2.1 d.2.2.2.2.2.2.2.2.1 d.2.2.2.2.2.2.2.2.2.1 d.2.2.2.2.2.2.2.2.2.2.1 d.2.2.2.2.2.2.2.2.2.2.2.1 d.2.2.2.2.2.2.2.2.2.2.2.2.1 d.2.2.2.2.2.2.2.2.2.2.2.2.2.1) (annsOk_nil _ _) (fun d => rfl)
    (fun k d => (by kernel_rfl : evCode Try.prog (calT Try.prog (law10_EtconeTurns_tab F) _) (qcalT (law10_EtconeTurns_tab F) _) (annOf []) (loopAt (bodyOf Try.f10) 0) (bldS 62 law10_EtconeTurns_l0_ins d) (kS 62 law10_EtconeTurns_l0_ins law10_EtconeTurns_l0_outs 0 fun d => law10_EtconeTurns_l0 F k d.1 d.2.1 d.2.2.1 d.2.2.2.1 d.2.2.2.2.1 d.2.2.2.2.2.1 d.2.2.2.2.2.2.1 d.2.2.2.2.2.2.2.1 d.2.2.2.2.2.2.2.2.1 d.2.2.2.2.2.2.2.2.2.1 d.2.2.2.2.2.2.2.2.2.2.1 d.2.2.2.2.2.2.2.2.2.2.2.1 d.2.2.2.2.2.2.2.2.2.2.2.2.1 d.2.2.2.2.2.2.2.2.2.2.2.2.2.1) = law10_EtconeTurns_l0S F (law10_EtconeTurns_l0 F k) d.1 d.2.1 d.2.2.1 d.2.2.2.1 d.2.2.2.2.1 d.2.2.2.2.2.1 d.2.2.2.2.2.2.1 d.2.2.2.2.2.2.2.1 d.2.2.2.2.2.2.2.2.1 d.2.2.2.2.2.2.2.2.2.1 d.2.2.2.2.2.2.2.2.2.2.1 d.2.2.2.2.2.2.2.2.2.2.2.1 d.2.2.2.2.2.2.2.2.2.2.2.2.1 d.2.2.2.2.2.2.2.2.2.2.2.2.2.1)) F B w

abbrev law10_EtconeTurns_l2_ins : List Go.AE.Item := [.slot 3 (.bool), .segs [.hole (.is .i64 64)] (.slot 8) true, .ptr 8 0 64, .segs [.hole (.is .i64 64)] (.slot 9) true, .ptr 9 1 64, .slot 10 (.int .i64)]
abbrev law10_EtconeTurns_l2_outs : List Go.AE.Item := [.slot 3 (.bool)]
abbrev law10_EtconeTurns_l2_outX : List Go.AE.Item := [.const 2 (.bool (some false) false)]
def law10_EtconeTurns_l2_ann (F : Nat) {ρ : Type} : Ann ρ := annX 62 law10_EtconeTurns_l2_ins law10_EtconeTurns_l2_outX law10_EtconeTurns_l2_outs .ret fun d => law10_EtconeTurns_l2 F F d.1 d.2.1 d.2.2.1 d.2.2.2.1
theorem law10_EtconeTurns_l2_ok (F : Nat) {ρ : Type} (B : Base) (w : World) : AnnAt (ρ := ρ) Try.prog false B w (.block 2 (.loop (loopAt (bodyOf Try.f10) 2))) (law10_EtconeTurns_l2_ann F) :=
  toldX_ok callable (law10_EtconeTurns_all F) (ins := law10_EtconeTurns_l2_ins) (outX := law10_EtconeTurns_l2_outX) (outs := law10_EtconeTurns_l2_outs) (anns := []) (L := fun k d => law10_EtconeTurns_l2 F k d.1 d.2.1 d.2.2.1 d.2.2.2.1) (annsOk_nil _ _) (fun d => rfl)
    (fun k d => (by kernel_rfl : evCode Try.prog (calT Try.prog (law10_EtconeTurns_tab F) _) (qcalT (law10_EtconeTurns_tab F) _) (annOf []) (loopAt (bodyOf Try.f10) 2) (bldS 62 law10_EtconeTurns_l2_ins d) (kX 62 law10_EtconeTurns_l2_ins law10_EtconeTurns_l2_outX law10_EtconeTurns_l2_outs 2 .ret fun d => law10_EtconeTurns_l2 F k d.1 d.2.1 d.2.2.1 d.2.2.2.1) = law10_EtconeTurns_l2S F (law10_EtconeTurns_l2 F k) d.1 d.2.1 d.2.2.1 d.2.2.2.1)) (by first | exact .inl rfl | exact .inr ⟨_, rfl, by decide⟩) F B w

def law10_EtconeTurns_told (F : Nat) : ToldF := ⟨10, 1, [.slot 0 (.agg [.bool, .bool, .is .i64 3, .is .i64 3, .is .i64 2, .is .i64 16])], [.ty (.bool)], fun d => law10_EtconeTurns F d.1⟩
theorem law10_EtconeTurns_ok (F : Nat) : (law10_EtconeTurns_told F).ok Try.prog :=
  toldF_ok callable (law10_EtconeTurns_all F) (fn := Try.f10) (t := law10_EtconeTurns_told F) (anns := [(0, law10_EtconeTurns_l0_ann F), (2, law10_EtconeTurns_l2_ann F)]) (by kernel_rfl) (annsOk_cons (by kernel_rfl) (fun B w => law10_EtconeTurns_l0_ok F B w) (annsOk_cons (by kernel_rfl) (fun B w => law10_EtconeTurns_l2_ok F B w) (annsOk_nil _ _)))
    (fun d => (by kernel_rfl : evBody Try.prog (calT Try.prog (law10_EtconeTurns_tab F) _) (qcalT (law10_EtconeTurns_tab F) _) (annOf [(0, law10_EtconeTurns_l0_ann F), (2, law10_EtconeTurns_l2_ann F)]) 10 (bldS 1 (law10_EtconeTurns_told F).ins d).tmps (bldS 1 (law10_EtconeTurns_told F).ins d).heap (endO (law10_EtconeTurns_told F).os) = law10_EtconeTurns F d.1))

end Go.Proofs.Ytpipmhfkdeaebaa

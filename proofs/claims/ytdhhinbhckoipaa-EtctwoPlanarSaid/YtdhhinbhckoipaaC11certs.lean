/- Printed by a program of mine (gen.py): the Go functions of this part come to what is told. -/
import Derived.Test.YtdhhinbhckoipaaRows
import Derived.KernelRfl
import Derived.Test.YtdhhinbhckoipaaC11defs
set_option linter.unusedSimpArgs false
set_option maxRecDepth 100000
set_option linter.unusedVariables false
namespace Go.Proofs.Ytdhhinbhckoipaa
open Go Go.AE Go.AE.Gn
theorem callable : Callable Try.prog := callable_of (by kernel_rfl)
def bits_room_tab (F : Nat) : List ToldF := []
theorem bits_room_all (F : Nat) : AllOk Try.prog (bits_room_tab F) := trivial

def bits_room_told (F : Nat) : ToldF := ⟨128, 3, [.row .u8 1 (.slot 0) false, .slot 1 (.int .i64), .slot 2 (.int .i64)], [.ty (.bool)], fun d => bits_room F d.1 d.2.1 d.2.2.1⟩
theorem bits_room_ok (F : Nat) : (bits_room_told F).ok Try.prog :=
  toldF_ok callable (bits_room_all F) (fn := Try.f128) (t := bits_room_told F) (anns := []) (by kernel_rfl) (annsOk_nil _ _)
    (fun d => (by kernel_rfl : evBody Try.prog (calT Try.prog (bits_room_tab F) _) (qcalT (bits_room_tab F) _) (annOf []) 128 (bldS 3 (bits_room_told F).ins d).tmps (bldS 3 (bits_room_told F).ins d).heap (endO (bits_room_told F).os) = bits_room F d.1 d.2.1 d.2.2.1))

def bits_check_tab (F : Nat) : List ToldF := [bits_room_told F]
theorem bits_check_all (F : Nat) : AllOk Try.prog (bits_check_tab F) := ⟨bits_room_ok F, trivial⟩

def bits_check_told (F : Nat) : ToldF := ⟨101, 3, [.row .u8 1 (.slot 0) false, .slot 1 (.int .i64), .slot 2 (.int .i64)], [.ty (.int .i64)], fun d => bits_check F d.1 d.2.1 d.2.2.1⟩
theorem bits_check_ok (F : Nat) : (bits_check_told F).ok Try.prog :=
  toldF_ok callable (bits_check_all F) (fn := Try.f101) (t := bits_check_told F) (anns := []) (by kernel_rfl) (annsOk_nil _ _)
    (fun d => (by kernel_rfl : evBody Try.prog (calT Try.prog (bits_check_tab F) _) (qcalT (bits_check_tab F) _) (annOf []) 101 (bldS 3 (bits_check_told F).ins d).tmps (bldS 3 (bits_check_told F).ins d).heap (endO (bits_check_told F).os) = bits_check F d.1 d.2.1 d.2.2.1))

def bits_fits_tab (F : Nat) : List ToldF := [bits_check_told F]
theorem bits_fits_all (F : Nat) : AllOk Try.prog (bits_fits_tab F) := ⟨bits_check_ok F, trivial⟩

def bits_fits_told (F : Nat) : ToldF := ⟨51, 4, [.row .u8 1 (.slot 0) false, .slot 1 (.int .i64), .slot 2 (.int .i64), .slot 3 (.int .u64)], [.ty (.int .i64)], fun d => bits_fits F d.1 d.2.1 d.2.2.1 d.2.2.2.1⟩
theorem bits_fits_ok (F : Nat) : (bits_fits_told F).ok Try.prog :=
  toldF_ok callable (bits_fits_all F) (fn := Try.f51) (t := bits_fits_told F) (anns := []) (by kernel_rfl) (annsOk_nil _ _)
    (fun d => (by kernel_rfl : evBody Try.prog (calT Try.prog (bits_fits_tab F) _) (qcalT (bits_fits_tab F) _) (annOf []) 51 (bldS 4 (bits_fits_told F).ins d).tmps (bldS 4 (bits_fits_told F).ins d).heap (endO (bits_fits_told F).os) = bits_fits F d.1 d.2.1 d.2.2.1 d.2.2.2.1))

def slices_Clone_byte_byte_told (F : Nat) : ToldF := ⟨52, 1, [.row .u8 1 (.slot 0) false], [.row .u8 1], fun d => slices_Clone_byte_byte F d.1⟩
theorem slices_Clone_byte_byte_ok (F : Nat) : (slices_Clone_byte_byte_told F).ok Try.prog :=
  clone_spec callable (fn := Try.f52) (f := 52) (k := .u8) (sz := 1) (R0 := cloneR0 (bodyOf Try.f52)) (X := cloneX (bodyOf Try.f52)) (REST := cloneRest (bodyOf Try.f52)) (o3 := cloneO3 (bodyOf Try.f52)) (o4 := cloneO4 (bodyOf Try.f52)) (t := 22) (t' := 22) (e := 5) (i1 := 1) (by kernel_rfl) (by kernel_rfl) (by kernel_rfl) (by kernel_rfl) (by kernel_rfl) (by kernel_rfl) (by kernel_rfl)
    (cloneS1 1 .u8) (cloneS2 1 .u8)
    (fun l => by kernel_rfl) (fun l => by kernel_rfl) (fun l => ⟨rfl, rfl⟩) (fun l => by simp [cloneS2]) (fun l => by kernel_rfl) (fun l => by kernel_rfl)

def bits_set_tab (F : Nat) : List ToldF := []
theorem bits_set_all (F : Nat) : AllOk Try.prog (bits_set_tab F) := trivial

def bits_set_told (F : Nat) : ToldF := ⟨53, 3, [.slot 0 (.int .u8), .slot 1 (.int .i64), .slot 2 (.int .u64)], [.ty (.int .u8)], fun d => bits_set F d.1 d.2.1 d.2.2.1⟩
theorem bits_set_ok (F : Nat) : (bits_set_told F).ok Try.prog :=
  toldF_ok callable (bits_set_all F) (fn := Try.f53) (t := bits_set_told F) (anns := []) (by kernel_rfl) (annsOk_nil _ _)
    (fun d => (by kernel_rfl : evBody Try.prog (calT Try.prog (bits_set_tab F) _) (qcalT (bits_set_tab F) _) (annOf []) 53 (bldS 3 (bits_set_told F).ins d).tmps (bldS 3 (bits_set_told F).ins d).heap (endO (bits_set_told F).os) = bits_set F d.1 d.2.1 d.2.2.1))

def bits_SetHigh_tab (F : Nat) : List ToldF := [bits_fits_told F, slices_Clone_byte_byte_told F, bits_set_told F]
theorem bits_SetHigh_all (F : Nat) : AllOk Try.prog (bits_SetHigh_tab F) := ⟨bits_fits_ok F, ⟨slices_Clone_byte_byte_ok F, ⟨bits_set_ok F, trivial⟩⟩⟩

abbrev bits_SetHigh_l0_ins : List Go.AE.Item := [.slot 1 (.int .i64), .slot 2 (.int .i64), .slot 3 (.int .u64), .row .u8 1 (.slot 11) true, .slot 24 (.int .i64), .slot 25 (.int .i64)]
abbrev bits_SetHigh_l0_outs : List Go.AE.Item := [.row .u8 1 (.slot 11) true]
def bits_SetHigh_l0_ann (F : Nat) {ρ : Type} : Ann ρ := annS 52 bits_SetHigh_l0_ins bits_SetHigh_l0_outs fun d => bits_SetHigh_l0 F F d.1 d.2.1 d.2.2.1 d.2.2.2.1 d.2.2.2.2.1 d.2.2.2.2.2.1
theorem bits_SetHigh_l0_ok (F : Nat) {ρ : Type} (B : Base) (w : World) : AnnAt (ρ := ρ) Try.prog false B w (.block 0 (.loop (loopAt (bodyOf Try.f68) 0))) (bits_SetHigh_l0_ann F) :=
  toldS_ok callable (bits_SetHigh_all F) (ins := bits_SetHigh_l0_ins) (outs := bits_SetHigh_l0_outs) (anns := []) (L := fun k d => bits_SetHigh_l0 F k d.1 d.2.1 d.2.2.1 d.2.2.2.1 d.2.2.2.2.1 d.2.2.2.2.2.1) (annsOk_nil _ _) (fun d => rfl)
    (fun k d => (by kernel_rfl : evCode Try.prog (calT Try.prog (bits_SetHigh_tab F) _) (qcalT (bits_SetHigh_tab F) _) (annOf []) (loopAt (bodyOf Try.f68) 0) (bldS 52 bits_SetHigh_l0_ins d) (kS 52 bits_SetHigh_l0_ins bits_SetHigh_l0_outs 0 fun d => bits_SetHigh_l0 F k d.1 d.2.1 d.2.2.1 d.2.2.2.1 d.2.2.2.2.1 d.2.2.2.2.2.1) = bits_SetHigh_l0S F (bits_SetHigh_l0 F k) d.1 d.2.1 d.2.2.1 d.2.2.2.1 d.2.2.2.2.1 d.2.2.2.2.2.1)) F B w

def bits_SetHigh_told (F : Nat) : ToldF := ⟨68, 4, [.row .u8 1 (.slot 0) false, .slot 1 (.int .i64), .slot 2 (.int .i64), .slot 3 (.int .u64)], [.row .u8 1, .ty (.int .i64)], fun d => bits_SetHigh F d.1 d.2.1 d.2.2.1 d.2.2.2.1⟩
theorem bits_SetHigh_ok (F : Nat) : (bits_SetHigh_told F).ok Try.prog :=
  toldF_ok callable (bits_SetHigh_all F) (fn := Try.f68) (t := bits_SetHigh_told F) (anns := [(0, bits_SetHigh_l0_ann F)]) (by kernel_rfl) (annsOk_cons (by kernel_rfl) (fun B w => bits_SetHigh_l0_ok F B w) (annsOk_nil _ _))
    (fun d => (by kernel_rfl : evBody Try.prog (calT Try.prog (bits_SetHigh_tab F) _) (qcalT (bits_SetHigh_tab F) _) (annOf [(0, bits_SetHigh_l0_ann F)]) 68 (bldS 4 (bits_SetHigh_told F).ins d).tmps (bldS 4 (bits_SetHigh_told F).ins d).heap (endO (bits_SetHigh_told F).os) = bits_SetHigh F d.1 d.2.1 d.2.2.1 d.2.2.2.1))

def etctwo_Lay_c2_tab (F : Nat) : List ToldF := [bits_SetHigh_told F]
theorem etctwo_Lay_c2_all (F : Nat) : AllOk Try.prog (etctwo_Lay_c2_tab F) := ⟨bits_SetHigh_ok F, trivial⟩

def etctwo_Lay_c2_told (F : Nat) : ToldF := ⟨69, 4, [.slot 0 (.int .i64), .slot 1 (.int .i64), .slot 2 (.int .i64), .row .u8 1 (.cell (.slot 3) 0) false, .segs [.sl 0 1 .whole] (.slot 3) true (some 1), .ptr 3 1 1], [.psegs 1 [.row .u8 1 true]], fun d => etctwo_Lay_c2 F d.1 d.2.1 d.2.2.1 d.2.2.2.1⟩
theorem etctwo_Lay_c2_ok (F : Nat) : (etctwo_Lay_c2_told F).ok Try.prog :=
  toldF_ok callable (etctwo_Lay_c2_all F) (fn := Try.f69) (t := etctwo_Lay_c2_told F) (anns := []) (by kernel_rfl) (annsOk_nil _ _)
    (fun d => (by kernel_rfl : evBody Try.prog (calT Try.prog (etctwo_Lay_c2_tab F) _) (qcalT (etctwo_Lay_c2_tab F) _) (annOf []) 69 (bldS 4 (etctwo_Lay_c2_told F).ins d).tmps (bldS 4 (etctwo_Lay_c2_told F).ins d).heap (endO (etctwo_Lay_c2_told F).os) = etctwo_Lay_c2 F d.1 d.2.1 d.2.2.1 d.2.2.2.1))

def etctwo_Lay_c1_tab (F : Nat) : List ToldF := [bits_SetHigh_told F]
theorem etctwo_Lay_c1_all (F : Nat) : AllOk Try.prog (etctwo_Lay_c1_tab F) := ⟨bits_SetHigh_ok F, trivial⟩

abbrev etctwo_Lay_c1_l0_ins : List Go.AE.Item := [.slot 0 (.int .i64), .row .i64 1 (.slot 1) false, .row .u8 1 (.cell (.slot 2) 0) false, .segs [.sl 1 1 .whole] (.slot 2) true (some 2), .ptr 2 2 1, .sl 7 0 1 .whole, .slot 8 (.int .i64), .slot 9 (.int .i64)]
abbrev etctwo_Lay_c1_l0_outs : List Go.AE.Item := [.row .u8 1 (.cell (.slot 2) 0) false, .segs [.sl 0 1 .whole] (.slot 2) true (some 2), .ptr 2 1 1]
def etctwo_Lay_c1_l0_ann (F : Nat) {ρ : Type} : Ann ρ := annS 30 etctwo_Lay_c1_l0_ins etctwo_Lay_c1_l0_outs fun d => etctwo_Lay_c1_l0 F F d.1 d.2.1 d.2.2.1 d.2.2.2.1 d.2.2.2.2.1
theorem etctwo_Lay_c1_l0_ok (F : Nat) {ρ : Type} (B : Base) (w : World) : AnnAt (ρ := ρ) Try.prog false B w (.block 0 (.loop (loopAt (bodyOf Try.f67) 0))) (etctwo_Lay_c1_l0_ann F) :=
  toldS_ok callable (etctwo_Lay_c1_all F) (ins := etctwo_Lay_c1_l0_ins) (outs := etctwo_Lay_c1_l0_outs) (anns := []) (L := fun k d => etctwo_Lay_c1_l0 F k d.1 d.2.1 d.2.2.1 d.2.2.2.1 d.2.2.2.2.1) (annsOk_nil _ _) (fun d => rfl)
    (fun k d => (by kernel_rfl : evCode Try.prog (calT Try.prog (etctwo_Lay_c1_tab F) _) (qcalT (etctwo_Lay_c1_tab F) _) (annOf []) (loopAt (bodyOf Try.f67) 0) (bldS 30 etctwo_Lay_c1_l0_ins d) (kS 30 etctwo_Lay_c1_l0_ins etctwo_Lay_c1_l0_outs 0 fun d => etctwo_Lay_c1_l0 F k d.1 d.2.1 d.2.2.1 d.2.2.2.1 d.2.2.2.2.1) = etctwo_Lay_c1_l0S F (etctwo_Lay_c1_l0 F k) d.1 d.2.1 d.2.2.1 d.2.2.2.1 d.2.2.2.2.1)) F B w

def etctwo_Lay_c1_told (F : Nat) : ToldF := ⟨67, 3, [.slot 0 (.int .i64), .row .i64 1 (.slot 1) false, .row .u8 1 (.cell (.slot 2) 0) false, .segs [.sl 1 1 .whole] (.slot 2) true (some 2), .ptr 2 2 1], [.psegs 2 [.row .u8 1 false]], fun d => etctwo_Lay_c1 F d.1 d.2.1 d.2.2.1⟩
theorem etctwo_Lay_c1_ok (F : Nat) : (etctwo_Lay_c1_told F).ok Try.prog :=
  toldF_ok callable (etctwo_Lay_c1_all F) (fn := Try.f67) (t := etctwo_Lay_c1_told F) (anns := [(0, etctwo_Lay_c1_l0_ann F)]) (by kernel_rfl) (annsOk_cons (by kernel_rfl) (fun B w => etctwo_Lay_c1_l0_ok F B w) (annsOk_nil _ _))
    (fun d => (by kernel_rfl : evBody Try.prog (calT Try.prog (etctwo_Lay_c1_tab F) _) (qcalT (etctwo_Lay_c1_tab F) _) (annOf [(0, etctwo_Lay_c1_l0_ann F)]) 67 (bldS 3 (etctwo_Lay_c1_told F).ins d).tmps (bldS 3 (etctwo_Lay_c1_told F).ins d).heap (endO (etctwo_Lay_c1_told F).os) = etctwo_Lay_c1 F d.1 d.2.1 d.2.2.1))

def bits_spread_tab (F : Nat) : List ToldF := []
theorem bits_spread_all (F : Nat) : AllOk Try.prog (bits_spread_tab F) := trivial

abbrev bits_spread_l0_ins : List Go.AE.Item := [.slot 0 (.int .u8), .segs [.hole (.is .u64 8)] (.slot 2) true, .ptr 2 0 8, .segs [.hole (.is .u64 8)] (.slot 3) true, .ptr 3 1 8, .slot 5 (.int .i64)]
abbrev bits_spread_l0_outs : List Go.AE.Item := [.segs [.hole (.is .u64 8)] (.slot 2) true, .ptr 2 0 8, .segs [.hole (.is .u64 8)] (.slot 3) true, .ptr 3 1 8]
def bits_spread_l0_ann (F : Nat) {ρ : Type} : Ann ρ := annS 17 bits_spread_l0_ins bits_spread_l0_outs fun d => bits_spread_l0 F F d.1 d.2.1 d.2.2.1 d.2.2.2.1
theorem bits_spread_l0_ok (F : Nat) {ρ : Type} (B : Base) (w : World) : AnnAt (ρ := ρ) Try.prog false B w (.block 0 (.loop (loopAt (bodyOf Try.f130) 0))) (bits_spread_l0_ann F) :=
  toldS_ok callable (bits_spread_all F) (ins := bits_spread_l0_ins) (outs := bits_spread_l0_outs) (anns := []) (L := fun k d => bits_spread_l0 F k d.1 d.2.1 d.2.2.1 d.2.2.2.1) (annsOk_nil _ _) (fun d => rfl)
    (fun k d => (by kernel_rfl : evCode Try.prog (calT Try.prog (bits_spread_tab F) _) (qcalT (bits_spread_tab F) _) (annOf []) (loopAt (bodyOf Try.f130) 0) (bldS 17 bits_spread_l0_ins d) (kS 17 bits_spread_l0_ins bits_spread_l0_outs 0 fun d => bits_spread_l0 F k d.1 d.2.1 d.2.2.1 d.2.2.2.1) = bits_spread_l0S F (bits_spread_l0 F k) d.1 d.2.1 d.2.2.1 d.2.2.2.1)) F B w

def bits_spread_told (F : Nat) : ToldF := ⟨130, 1, [.slot 0 (.int .u8)], [.ty (.is .u64 8)], fun d => bits_spread F d.1⟩
theorem bits_spread_ok (F : Nat) : (bits_spread_told F).ok Try.prog :=
  toldF_ok callable (bits_spread_all F) (fn := Try.f130) (t := bits_spread_told F) (anns := [(0, bits_spread_l0_ann F)]) (by kernel_rfl) (annsOk_cons (by kernel_rfl) (fun B w => bits_spread_l0_ok F B w) (annsOk_nil _ _))
    (fun d => (by kernel_rfl : evBody Try.prog (calT Try.prog (bits_spread_tab F) _) (qcalT (bits_spread_tab F) _) (annOf [(0, bits_spread_l0_ann F)]) 130 (bldS 1 (bits_spread_told F).ins d).tmps (bldS 1 (bits_spread_told F).ins d).heap (endO (bits_spread_told F).os) = bits_spread F d.1))

def bits_high_tab (F : Nat) : List ToldF := [bits_spread_told F]
theorem bits_high_all (F : Nat) : AllOk Try.prog (bits_high_tab F) := ⟨bits_spread_ok F, trivial⟩

def bits_high_told (F : Nat) : ToldF := ⟨116, 2, [.row .u8 1 (.slot 0) false, .slot 1 (.int .i64)], [.ty (.int .u64)], fun d => bits_high F d.1 d.2.1⟩
theorem bits_high_ok (F : Nat) : (bits_high_told F).ok Try.prog :=
  toldF_ok callable (bits_high_all F) (fn := Try.f116) (t := bits_high_told F) (anns := []) (by kernel_rfl) (annsOk_nil _ _)
    (fun d => (by kernel_rfl : evBody Try.prog (calT Try.prog (bits_high_tab F) _) (qcalT (bits_high_tab F) _) (annOf []) 116 (bldS 2 (bits_high_told F).ins d).tmps (bldS 2 (bits_high_told F).ins d).heap (endO (bits_high_told F).os) = bits_high F d.1 d.2.1))

def bits_High_tab (F : Nat) : List ToldF := [bits_check_told F, bits_high_told F]
theorem bits_High_all (F : Nat) : AllOk Try.prog (bits_High_tab F) := ⟨bits_check_ok F, ⟨bits_high_ok F, trivial⟩⟩

abbrev bits_High_l0_ins : List Go.AE.Item := [.row .u8 1 (.slot 0) false, .slot 1 (.int .i64), .slot 8 (.int .i64), .slot 9 (.int .u64), .slot 15 (.int .i64), .slot 16 (.int .i64)]
abbrev bits_High_l0_outs : List Go.AE.Item := [.slot 8 (.int .i64), .slot 9 (.int .u64)]
abbrev bits_High_l0_outX : List Go.AE.Item := [.const 6 (.int .u64 (some 0) 0), .slot 7 (.int .i64)]
def bits_High_l0_ann (F : Nat) {ρ : Type} : Ann ρ := annX 33 bits_High_l0_ins bits_High_l0_outX bits_High_l0_outs .ret fun d => bits_High_l0 F F d.1 d.2.1 d.2.2.1 d.2.2.2.1 d.2.2.2.2.1 d.2.2.2.2.2.1
theorem bits_High_l0_ok (F : Nat) {ρ : Type} (B : Base) (w : World) : AnnAt (ρ := ρ) Try.prog false B w (.block 0 (.loop (loopAt (bodyOf Try.f81) 0))) (bits_High_l0_ann F) :=
  toldX_ok callable (bits_High_all F) (ins := bits_High_l0_ins) (outX := bits_High_l0_outX) (outs := bits_High_l0_outs) (anns := []) (L := fun k d => bits_High_l0 F k d.1 d.2.1 d.2.2.1 d.2.2.2.1 d.2.2.2.2.1 d.2.2.2.2.2.1) (annsOk_nil _ _) (fun d => rfl)
    (fun k d => (by kernel_rfl : evCode Try.prog (calT Try.prog (bits_High_tab F) _) (qcalT (bits_High_tab F) _) (annOf []) (loopAt (bodyOf Try.f81) 0) (bldS 33 bits_High_l0_ins d) (kX 33 bits_High_l0_ins bits_High_l0_outX bits_High_l0_outs 0 .ret fun d => bits_High_l0 F k d.1 d.2.1 d.2.2.1 d.2.2.2.1 d.2.2.2.2.1 d.2.2.2.2.2.1) = bits_High_l0S F (bits_High_l0 F k) d.1 d.2.1 d.2.2.1 d.2.2.2.1 d.2.2.2.2.1 d.2.2.2.2.2.1)) (by first | exact .inl rfl | exact .inr ⟨_, rfl, by decide⟩) F B w

def bits_High_told (F : Nat) : ToldF := ⟨81, 3, [.row .u8 1 (.slot 0) false, .slot 1 (.int .i64), .slot 2 (.int .i64)], [.ty (.int .u64), .ty (.int .i64)], fun d => bits_High F d.1 d.2.1 d.2.2.1⟩
theorem bits_High_ok (F : Nat) : (bits_High_told F).ok Try.prog :=
  toldF_ok callable (bits_High_all F) (fn := Try.f81) (t := bits_High_told F) (anns := [(0, bits_High_l0_ann F)]) (by kernel_rfl) (annsOk_cons (by kernel_rfl) (fun B w => bits_High_l0_ok F B w) (annsOk_nil _ _))
    (fun d => (by kernel_rfl : evBody Try.prog (calT Try.prog (bits_High_tab F) _) (qcalT (bits_High_tab F) _) (annOf [(0, bits_High_l0_ann F)]) 81 (bldS 3 (bits_High_told F).ins d).tmps (bldS 3 (bits_High_told F).ins d).heap (endO (bits_High_told F).os) = bits_High F d.1 d.2.1 d.2.2.1))

def etcone_Parts_c1_tab (F : Nat) : List ToldF := [bits_High_told F]
theorem etcone_Parts_c1_all (F : Nat) : AllOk Try.prog (etcone_Parts_c1_tab F) := ⟨bits_High_ok F, trivial⟩

def etcone_Parts_c1_told (F : Nat) : ToldF := ⟨80, 3, [.slot 0 (.int .i64), .slot 1 (.int .i64), .row .u8 1 (.cell (.slot 2) 0) false, .segs [.sl 0 1 .whole] (.slot 2) false, .ptr 2 1 1], [.ty (.int .i64)], fun d => etcone_Parts_c1 F d.1 d.2.1 d.2.2.1⟩
theorem etcone_Parts_c1_ok (F : Nat) : (etcone_Parts_c1_told F).ok Try.prog :=
  toldF_ok callable (etcone_Parts_c1_all F) (fn := Try.f80) (t := etcone_Parts_c1_told F) (anns := []) (by kernel_rfl) (annsOk_nil _ _)
    (fun d => (by kernel_rfl : evBody Try.prog (calT Try.prog (etcone_Parts_c1_tab F) _) (qcalT (etcone_Parts_c1_tab F) _) (annOf []) 80 (bldS 3 (etcone_Parts_c1_told F).ins d).tmps (bldS 3 (etcone_Parts_c1_told F).ins d).heap (endO (etcone_Parts_c1_told F).os) = etcone_Parts_c1 F d.1 d.2.1 d.2.2.1))

def etcone_column_tab (F : Nat) : List ToldF := []
theorem etcone_column_all (F : Nat) : AllOk Try.prog (etcone_column_tab F) := trivial

def etcone_column_told (F : Nat) : ToldF := ⟨82, 1, [.slot 0 (.int .i64)], [.ty (.int .i64)], fun d => etcone_column F d.1⟩
theorem etcone_column_ok (F : Nat) : (etcone_column_told F).ok Try.prog :=
  toldF_ok callable (etcone_column_all F) (fn := Try.f82) (t := etcone_column_told F) (anns := []) (by kernel_rfl) (annsOk_nil _ _)
    (fun d => (by kernel_rfl : evBody Try.prog (calT Try.prog (etcone_column_tab F) _) (qcalT (etcone_column_tab F) _) (annOf []) 82 (bldS 1 (etcone_column_told F).ins d).tmps (bldS 1 (etcone_column_told F).ins d).heap (endO (etcone_column_told F).os) = etcone_column F d.1))

def etcone_Parts_tab (F : Nat) : List ToldF := [etcone_Parts_c1_told F, etcone_column_told F]
theorem etcone_Parts_all (F : Nat) : AllOk Try.prog (etcone_Parts_tab F) := ⟨etcone_Parts_c1_ok F, ⟨etcone_column_ok F, trivial⟩⟩

abbrev etcone_Parts_l0_ins : List Go.AE.Item := [.segs [.const (.bool (some false) false), .const (.bool (some false) false), .hole (.is .i64 3), .hole (.is .i64 3), .hole (.is .i64 2), .hole (.is .i64 16)] (.slot 2) true, .ptr 2 0 26, .segs [.hole (.bool), .hole (.bool), .hole (.is .i64 3), .hole (.is .i64 3), .hole (.is .i64 2), .hole (.is .i64 16)] (.slot 4) true, .ptr 4 1 26, .row .u8 1 (.cell (.cap (.slot 5) 0) 0) false, .segs [.sl 2 1 .whole] (.cap (.slot 5) 0) true, .fn 5 80 [.ptr 3 1], .slot 22 (.int .i64)]
abbrev etcone_Parts_l0_outs : List Go.AE.Item := [.segs [.const (.bool (some false) false), .const (.bool (some false) false), .hole (.is .i64 3), .hole (.is .i64 3), .hole (.is .i64 2), .hole (.is .i64 16)] (.slot 2) true, .ptr 2 0 26, .segs [.hole (.bool), .hole (.bool), .hole (.is .i64 3), .hole (.is .i64 3), .hole (.is .i64 2), .hole (.is .i64 16)] (.slot 4) true, .ptr 4 1 26, .row .u8 1 (.cell (.cap (.slot 5) 0) 0) false, .segs [.sl 2 1 .whole] (.cap (.slot 5) 0) true, .fn 5 80 [.ptr 3 1]]
def etcone_Parts_l0_ann (F : Nat) {ρ : Type} : Ann ρ := annS 95 etcone_Parts_l0_ins etcone_Parts_l0_outs fun d => etcone_Parts_l0 F F d.1 d.2.1 d.2.2.1 d.2.2.2.1 d.2.2.2.2.1 d.2.2.2.2.2.1 d.2.2.2.2.2.2.1 d.2.2.2.2.2.2.2.1 d.2.2.2.2.2.2.2.2.1 d.2.2.2.2.2.2.2.2.2.1 d.2.2.2.2.2.2.2.2.2.2.1 d.2.2.2.2.2.2.2.2.2.2.2.1
theorem etcone_Parts_l0_ok (F : Nat) {ρ : Type} (B : Base) (w : World) : AnnAt (ρ := ρ) Try.prog false B w (.block 0 (.loop (loopAt (bodyOf Try.f33) 0))) (etcone_Parts_l0_ann F) :=
  toldS_ok callable (etcone_Parts_all F) (ins := etcone_Parts_l0_ins) (outs := etcone_Parts_l0_outs) (anns := []) (L := fun k d => etcone_Parts_l0 F k d.1 d.2.1 d.2.2.1 d.2.2.2.1 d.2.2.2.2.1 d.2.2.2.2.2.1 d.2.2.2.2.2.2.1 d.2.2.2.2.2.2.2.1 d.2.2.2.2.2.2.2.2.1 d.2.2.2.2.2.2.2.2.2.1 d.2.2.2.2.2.2.2.2.2.2.1 d.2.2.2.2.2.2.2.2.2.2.2.1) (annsOk_nil _ _) (fun d => rfl)
    (fun k d => (by kernel_rfl : evCode Try.prog (calT Try.prog (etcone_Parts_tab F) _) (qcalT (etcone_Parts_tab F) _) (annOf []) (loopAt (bodyOf Try.f33) 0) (bldS 95 etcone_Parts_l0_ins d) (kS 95 etcone_Parts_l0_ins etcone_Parts_l0_outs 0 fun d => etcone_Parts_l0 F k d.1 d.2.1 d.2.2.1 d.2.2.2.1 d.2.2.2.2.1 d.2.2.2.2.2.1 d.2.2.2.2.2.2.1 d.2.2.2.2.2.2.2.1 d.2.2.2.2.2.2.2.2.1 d.2.2.2.2.2.2.2.2.2.1 d.2.2.2.2.2.2.2.2.2.2.1 d.2.2.2.2.2.2.2.2.2.2.2.1) = etcone_Parts_l0S F (etcone_Parts_l0 F k) d.1 d.2.1 d.2.2.1 d.2.2.2.1 d.2.2.2.2.1 d.2.2.2.2.2.1 d.2.2.2.2.2.2.1 d.2.2.2.2.2.2.2.1 d.2.2.2.2.2.2.2.2.1 d.2.2.2.2.2.2.2.2.2.1 d.2.2.2.2.2.2.2.2.2.2.1 d.2.2.2.2.2.2.2.2.2.2.2.1)) F B w

abbrev etcone_Parts_l2_ins : List Go.AE.Item := [.segs [.const (.bool (some false) false), .const (.bool (some false) false), .hole (.is .i64 3), .hole (.is .i64 3), .hole (.is .i64 2), .hole (.is .i64 16)] (.slot 2) true, .ptr 2 0 26, .segs [.hole (.bool), .hole (.bool), .hole (.is .i64 3), .hole (.is .i64 3), .hole (.is .i64 2), .hole (.is .i64 16)] (.slot 4) true, .ptr 4 1 26, .row .u8 1 (.cell (.cap (.slot 5) 0) 0) false, .segs [.sl 2 1 .whole] (.cap (.slot 5) 0) true, .fn 5 80 [.ptr 3 1], .slot 75 (.int .i64)]
abbrev etcone_Parts_l2_outs : List Go.AE.Item := [.segs [.const (.bool (some false) false), .const (.bool (some false) false), .hole (.is .i64 3), .hole (.is .i64 3), .hole (.is .i64 2), .hole (.is .i64 16)] (.slot 2) true, .ptr 2 0 26, .segs [.hole (.bool), .hole (.bool), .hole (.is .i64 3), .hole (.is .i64 3), .hole (.is .i64 2), .hole (.is .i64 16)] (.slot 4) true, .ptr 4 1 26]
def etcone_Parts_l2_ann (F : Nat) {ρ : Type} : Ann ρ := annS 95 etcone_Parts_l2_ins etcone_Parts_l2_outs fun d => etcone_Parts_l2 F F d.1 d.2.1 d.2.2.1 d.2.2.2.1 d.2.2.2.2.1 d.2.2.2.2.2.1 d.2.2.2.2.2.2.1 d.2.2.2.2.2.2.2.1 d.2.2.2.2.2.2.2.2.1 d.2.2.2.2.2.2.2.2.2.1 d.2.2.2.2.2.2.2.2.2.2.1 d.2.2.2.2.2.2.2.2.2.2.2.1
theorem etcone_Parts_l2_ok (F : Nat) {ρ : Type} (B : Base) (w : World) : AnnAt (ρ := ρ) Try.prog false B w (.block 2 (.loop (loopAt (bodyOf Try.f33) 2))) (etcone_Parts_l2_ann F) :=
  toldS_ok callable (etcone_Parts_all F) (ins := etcone_Parts_l2_ins) (outs := etcone_Parts_l2_outs) (anns := []) (L := fun k d => etcone_Parts_l2 F k d.1 d.2.1 d.2.2.1 d.2.2.2.1 d.2.2.2.2.1 d.2.2.2.2.2.1 d.2.2.2.2.2.2.1 d.2.2.2.2.2.2.2.1 d.2.2.2.2.2.2.2.2.1 d.2.2.2.2.2.2.2.2.2.1 d.2.2.2.2.2.2.2.2.2.2.1 d.2.2.2.2.2.2.2.2.2.2.2.1) (annsOk_nil _ _) (fun d => rfl)
    (fun k d => (by kernel_rfl : evCode Try.prog (calT Try.prog (etcone_Parts_tab F) _) (qcalT (etcone_Parts_tab F) _) (annOf []) (loopAt (bodyOf Try.f33) 2) (bldS 95 etcone_Parts_l2_ins d) (kS 95 etcone_Parts_l2_ins etcone_Parts_l2_outs 2 fun d => etcone_Parts_l2 F k d.1 d.2.1 d.2.2.1 d.2.2.2.1 d.2.2.2.2.1 d.2.2.2.2.2.1 d.2.2.2.2.2.2.1 d.2.2.2.2.2.2.2.1 d.2.2.2.2.2.2.2.2.1 d.2.2.2.2.2.2.2.2.2.1 d.2.2.2.2.2.2.2.2.2.2.1 d.2.2.2.2.2.2.2.2.2.2.2.1) = etcone_Parts_l2S F (etcone_Parts_l2 F k) d.1 d.2.1 d.2.2.1 d.2.2.2.1 d.2.2.2.2.1 d.2.2.2.2.2.1 d.2.2.2.2.2.2.1 d.2.2.2.2.2.2.2.1 d.2.2.2.2.2.2.2.2.1 d.2.2.2.2.2.2.2.2.2.1 d.2.2.2.2.2.2.2.2.2.2.1 d.2.2.2.2.2.2.2.2.2.2.2.1)) F B w

def etcone_Parts_told (F : Nat) : ToldF := ⟨33, 1, [.row .u8 1 (.slot 0) false], [.ty (.agg [.bool, .bool, .is .i64 3, .is .i64 3, .is .i64 2, .is .i64 16]), .ty (.int .i64)], fun d => etcone_Parts F d.1⟩
theorem etcone_Parts_ok (F : Nat) : (etcone_Parts_told F).ok Try.prog :=
  toldF_ok callable (etcone_Parts_all F) (fn := Try.f33) (t := etcone_Parts_told F) (anns := [(0, etcone_Parts_l0_ann F), (2, etcone_Parts_l2_ann F)]) (by kernel_rfl) (annsOk_cons (by kernel_rfl) (fun B w => etcone_Parts_l0_ok F B w) (annsOk_cons (by kernel_rfl) (fun B w => etcone_Parts_l2_ok F B w) (annsOk_nil _ _)))
    (fun d => (by kernel_rfl : evBody Try.prog (calT Try.prog (etcone_Parts_tab F) _) (qcalT (etcone_Parts_tab F) _) (annOf [(0, etcone_Parts_l0_ann F), (2, etcone_Parts_l2_ann F)]) 33 (bldS 1 (etcone_Parts_told F).ins d).tmps (bldS 1 (etcone_Parts_told F).ins d).heap (endO (etcone_Parts_told F).os) = etcone_Parts F d.1))

def etctwo_block_run_tab (F : Nat) : List ToldF := [bits_High_told F]
theorem etctwo_block_run_all (F : Nat) : AllOk Try.prog (etctwo_block_run_tab F) := ⟨bits_High_ok F, trivial⟩

def etctwo_block_run_told (F : Nat) : ToldF := ⟨70, 3, [.row .u8 1 (.part (.slot 0) 0) false, .cells 0 [.sl 0 1 .whole, .hole (.bool), .hole (.bool), .hole (.is .i64 3), .hole (.is .i64 3), .hole (.is .i64 2), .hole (.is .i64 16), .hole (.bool)], .slot 1 (.int .i64), .slot 2 (.int .i64)], [.ty (.int .i64)], fun d => etctwo_block_run F d.1 d.2.1 d.2.2.1 d.2.2.2.1 d.2.2.2.2.1 d.2.2.2.2.2.1 d.2.2.2.2.2.2.1 d.2.2.2.2.2.2.2.1 d.2.2.2.2.2.2.2.2.1 d.2.2.2.2.2.2.2.2.2.1⟩
theorem etctwo_block_run_ok (F : Nat) : (etctwo_block_run_told F).ok Try.prog :=
  toldF_ok callable (etctwo_block_run_all F) (fn := Try.f70) (t := etctwo_block_run_told F) (anns := []) (by kernel_rfl) (annsOk_nil _ _)
    (fun d => (by kernel_rfl : evBody Try.prog (calT Try.prog (etctwo_block_run_tab F) _) (qcalT (etctwo_block_run_tab F) _) (annOf []) 70 (bldS 3 (etctwo_block_run_told F).ins d).tmps (bldS 3 (etctwo_block_run_told F).ins d).heap (endO (etctwo_block_run_told F).os) = etctwo_block_run F d.1 d.2.1 d.2.2.1 d.2.2.2.1 d.2.2.2.2.1 d.2.2.2.2.2.1 d.2.2.2.2.2.2.1 d.2.2.2.2.2.2.2.1 d.2.2.2.2.2.2.2.2.1 d.2.2.2.2.2.2.2.2.2.1))

def etctwo_Lay_tab (F : Nat) : List ToldF := [etctwo_Lay_c2_told F, etctwo_Lay_c1_told F, etcone_Parts_told F, etctwo_block_run_told F]
theorem etctwo_Lay_all (F : Nat) : AllOk Try.prog (etctwo_Lay_tab F) := ⟨etctwo_Lay_c2_ok F, ⟨etctwo_Lay_c1_ok F, ⟨etcone_Parts_ok F, ⟨etctwo_block_run_ok F, trivial⟩⟩⟩⟩

abbrev etctwo_Lay_l0_ins : List Go.AE.Item := [.segs [.hole (.is .i64 3)] (.slot 3) true, .ptr 3 0 3, .segs [.hole (.is .i64 3)] (.slot 4) true, .ptr 4 1 3, .segs [.hole (.is .i64 3)] (.slot 5) true, .ptr 5 2 3, .slot 21 (.is .i64 9), .slot 22 (.int .i64)]
abbrev etctwo_Lay_l0_outs : List Go.AE.Item := [.segs [.hole (.is .i64 3)] (.slot 3) true, .ptr 3 0 3, .segs [.hole (.is .i64 3)] (.slot 4) true, .ptr 4 1 3, .segs [.hole (.is .i64 3)] (.slot 5) true, .ptr 5 2 3]
abbrev etctwo_Lay_l0_outX : List Go.AE.Item := [.const 6 .nils, .const 7 (.int .i64 (some 1) 1)]
def etctwo_Lay_l0_ann (F : Nat) {ρ : Type} : Ann ρ := annX 127 etctwo_Lay_l0_ins etctwo_Lay_l0_outX etctwo_Lay_l0_outs .ret fun d => etctwo_Lay_l0 F F d.1 d.2.1 d.2.2.1 d.2.2.2.1 d.2.2.2.2.1
theorem etctwo_Lay_l0_ok (F : Nat) {ρ : Type} (B : Base) (w : World) : AnnAt (ρ := ρ) Try.prog false B w (.block 0 (.loop (loopAt (bodyOf Try.f26) 0))) (etctwo_Lay_l0_ann F) :=
  toldX_ok callable (etctwo_Lay_all F) (ins := etctwo_Lay_l0_ins) (outX := etctwo_Lay_l0_outX) (outs := etctwo_Lay_l0_outs) (anns := []) (L := fun k d => etctwo_Lay_l0 F k d.1 d.2.1 d.2.2.1 d.2.2.2.1 d.2.2.2.2.1) (annsOk_nil _ _) (fun d => rfl)
    (fun k d => (by kernel_rfl : evCode Try.prog (calT Try.prog (etctwo_Lay_tab F) _) (qcalT (etctwo_Lay_tab F) _) (annOf []) (loopAt (bodyOf Try.f26) 0) (bldS 127 etctwo_Lay_l0_ins d) (kX 127 etctwo_Lay_l0_ins etctwo_Lay_l0_outX etctwo_Lay_l0_outs 0 .ret fun d => etctwo_Lay_l0 F k d.1 d.2.1 d.2.2.1 d.2.2.2.1 d.2.2.2.2.1) = etctwo_Lay_l0S F (etctwo_Lay_l0 F k) d.1 d.2.1 d.2.2.1 d.2.2.2.1 d.2.2.2.2.1)) (by first | exact .inl rfl | exact .inr ⟨_, rfl, by decide⟩) F B w

abbrev etctwo_Lay_l2_ins : List Go.AE.Item := [.row .u8 1 (.cell (.slot 10) 0) false, .segs [.sl 0 1 .whole] (.slot 10) true, .ptr 10 1 1, .fn 11 67 [.ptr 1 1], .fn 12 69 [.ptr 1 1], .segs [.hole (.bool), .hole (.bool), .hole (.is .i64 3), .hole (.is .i64 3), .hole (.is .i64 2), .hole (.is .i64 16)] (.slot 13) true, .ptr 13 2 26, .slot 89 (.int .i64)]
abbrev etctwo_Lay_l2_outs : List Go.AE.Item := [.row .u8 1 (.cell (.slot 10) 0) false, .segs [.sl 0 1 .whole] (.slot 10) true, .ptr 10 1 1, .fn 11 67 [.ptr 1 1], .fn 12 69 [.ptr 1 1]]
def etctwo_Lay_l2_ann (F : Nat) {ρ : Type} : Ann ρ := annS 127 etctwo_Lay_l2_ins etctwo_Lay_l2_outs fun d => etctwo_Lay_l2 F F d.1 d.2.1 d.2.2.1 d.2.2.2.1 d.2.2.2.2.1 d.2.2.2.2.2.1 d.2.2.2.2.2.2.1 d.2.2.2.2.2.2.2.1
theorem etctwo_Lay_l2_ok (F : Nat) {ρ : Type} (B : Base) (w : World) : AnnAt (ρ := ρ) Try.prog false B w (.block 2 (.loop (loopAt (bodyOf Try.f26) 2))) (etctwo_Lay_l2_ann F) :=
  toldS_ok callable (etctwo_Lay_all F) (ins := etctwo_Lay_l2_ins) (outs := etctwo_Lay_l2_outs) (anns := []) (L := fun k d => etctwo_Lay_l2 F k d.1 d.2.1 d.2.2.1 d.2.2.2.1 d.2.2.2.2.1 d.2.2.2.2.2.1 d.2.2.2.2.2.2.1 d.2.2.2.2.2.2.2.1) (annsOk_nil _ _) (fun d => rfl)
    (fun k d => (by kernel_rfl : evCode Try.prog (calT Try.prog (etctwo_Lay_tab F) _) (qcalT (etctwo_Lay_tab F) _) (annOf []) (loopAt (bodyOf Try.f26) 2) (bldS 127 etctwo_Lay_l2_ins d) (kS 127 etctwo_Lay_l2_ins etctwo_Lay_l2_outs 2 fun d => etctwo_Lay_l2 F k d.1 d.2.1 d.2.2.1 d.2.2.2.1 d.2.2.2.2.1 d.2.2.2.2.2.1 d.2.2.2.2.2.2.1 d.2.2.2.2.2.2.2.1) = etctwo_Lay_l2S F (etctwo_Lay_l2 F k) d.1 d.2.1 d.2.2.1 d.2.2.2.1 d.2.2.2.2.1 d.2.2.2.2.2.1 d.2.2.2.2.2.2.1 d.2.2.2.2.2.2.2.1)) F B w

def etctwo_Lay_told (F : Nat) : ToldF := ⟨26, 3, [.slot 0 (.is .i64 3), .slot 1 (.is .i64 3), .slot 2 (.is .i64 3)], [.row .u8 1 false, .ty (.int .i64)], fun d => etctwo_Lay F d.1 d.2.1 d.2.2.1⟩
theorem etctwo_Lay_ok (F : Nat) : (etctwo_Lay_told F).ok Try.prog :=
  toldF_ok callable (etctwo_Lay_all F) (fn := Try.f26) (t := etctwo_Lay_told F) (anns := [(0, etctwo_Lay_l0_ann F), (2, etctwo_Lay_l2_ann F)]) (by kernel_rfl) (annsOk_cons (by kernel_rfl) (fun B w => etctwo_Lay_l0_ok F B w) (annsOk_cons (by kernel_rfl) (fun B w => etctwo_Lay_l2_ok F B w) (annsOk_nil _ _)))
    (fun d => (by kernel_rfl : evBody Try.prog (calT Try.prog (etctwo_Lay_tab F) _) (qcalT (etctwo_Lay_tab F) _) (annOf [(0, etctwo_Lay_l0_ann F), (2, etctwo_Lay_l2_ann F)]) 26 (bldS 3 (etctwo_Lay_told F).ins d).tmps (bldS 3 (etctwo_Lay_told F).ins d).heap (endO (etctwo_Lay_told F).os) = etctwo_Lay F d.1 d.2.1 d.2.2.1))

def etctwo_block_get_tab (F : Nat) : List ToldF := [bits_High_told F]
theorem etctwo_block_get_all (F : Nat) : AllOk Try.prog (etctwo_block_get_tab F) := ⟨bits_High_ok F, trivial⟩

abbrev etctwo_block_get_l0_ins : List Go.AE.Item := [.row .u8 1 (.cell (.slot 2) 0) false, .segs [.sl 0 1 .whole, .hole (.bool), .hole (.bool), .hole (.is .i64 3), .hole (.is .i64 3), .hole (.is .i64 2), .hole (.is .i64 16), .hole (.bool)] (.slot 2) true, .ptr 2 1 28, .slot 5 (.int .i64), .row .i64 1 (.slot 10) false, .slot 11 (.int .i64), .slot 12 (.int .i64)]
abbrev etctwo_block_get_l0_outs : List Go.AE.Item := [.slot 5 (.int .i64)]
def etctwo_block_get_l0_ann (F : Nat) {ρ : Type} : Ann ρ := annS 30 etctwo_block_get_l0_ins etctwo_block_get_l0_outs fun d => etctwo_block_get_l0 F F d.1 d.2.1 d.2.2.1 d.2.2.2.1 d.2.2.2.2.1 d.2.2.2.2.2.1 d.2.2.2.2.2.2.1 d.2.2.2.2.2.2.2.1 d.2.2.2.2.2.2.2.2.1 d.2.2.2.2.2.2.2.2.2.1 d.2.2.2.2.2.2.2.2.2.2.1 d.2.2.2.2.2.2.2.2.2.2.2.1
theorem etctwo_block_get_l0_ok (F : Nat) {ρ : Type} (B : Base) (w : World) : AnnAt (ρ := ρ) Try.prog false B w (.block 0 (.loop (loopAt (bodyOf Try.f102) 0))) (etctwo_block_get_l0_ann F) :=
  toldS_ok callable (etctwo_block_get_all F) (ins := etctwo_block_get_l0_ins) (outs := etctwo_block_get_l0_outs) (anns := []) (L := fun k d => etctwo_block_get_l0 F k d.1 d.2.1 d.2.2.1 d.2.2.2.1 d.2.2.2.2.1 d.2.2.2.2.2.1 d.2.2.2.2.2.2.1 d.2.2.2.2.2.2.2.1 d.2.2.2.2.2.2.2.2.1 d.2.2.2.2.2.2.2.2.2.1 d.2.2.2.2.2.2.2.2.2.2.1 d.2.2.2.2.2.2.2.2.2.2.2.1) (annsOk_nil _ _) (fun d => rfl)
    (fun k d => (by kernel_rfl : evCode Try.prog (calT Try.prog (etctwo_block_get_tab F) _) (qcalT (etctwo_block_get_tab F) _) (annOf []) (loopAt (bodyOf Try.f102) 0) (bldS 30 etctwo_block_get_l0_ins d) (kS 30 etctwo_block_get_l0_ins etctwo_block_get_l0_outs 0 fun d => etctwo_block_get_l0 F k d.1 d.2.1 d.2.2.1 d.2.2.2.1 d.2.2.2.2.1 d.2.2.2.2.2.1 d.2.2.2.2.2.2.1 d.2.2.2.2.2.2.2.1 d.2.2.2.2.2.2.2.2.1 d.2.2.2.2.2.2.2.2.2.1 d.2.2.2.2.2.2.2.2.2.2.1 d.2.2.2.2.2.2.2.2.2.2.2.1) = etctwo_block_get_l0S F (etctwo_block_get_l0 F k) d.1 d.2.1 d.2.2.1 d.2.2.2.1 d.2.2.2.2.1 d.2.2.2.2.2.1 d.2.2.2.2.2.2.1 d.2.2.2.2.2.2.2.1 d.2.2.2.2.2.2.2.2.1 d.2.2.2.2.2.2.2.2.2.1 d.2.2.2.2.2.2.2.2.2.2.1 d.2.2.2.2.2.2.2.2.2.2.2.1)) F B w

def etctwo_block_get_told (F : Nat) : ToldF := ⟨102, 2, [.row .u8 1 (.part (.slot 0) 0) false, .cells 0 [.sl 0 1 .whole, .hole (.bool), .hole (.bool), .hole (.is .i64 3), .hole (.is .i64 3), .hole (.is .i64 2), .hole (.is .i64 16), .hole (.bool)], .row .i64 1 (.slot 1) false], [.ty (.int .i64)], fun d => etctwo_block_get F d.1 d.2.1 d.2.2.1 d.2.2.2.1 d.2.2.2.2.1 d.2.2.2.2.2.1 d.2.2.2.2.2.2.1 d.2.2.2.2.2.2.2.1 d.2.2.2.2.2.2.2.2.1⟩
theorem etctwo_block_get_ok (F : Nat) : (etctwo_block_get_told F).ok Try.prog :=
  toldF_ok callable (etctwo_block_get_all F) (fn := Try.f102) (t := etctwo_block_get_told F) (anns := [(0, etctwo_block_get_l0_ann F)]) (by kernel_rfl) (annsOk_cons (by kernel_rfl) (fun B w => etctwo_block_get_l0_ok F B w) (annsOk_nil _ _))
    (fun d => (by kernel_rfl : evBody Try.prog (calT Try.prog (etctwo_block_get_tab F) _) (qcalT (etctwo_block_get_tab F) _) (annOf [(0, etctwo_block_get_l0_ann F)]) 102 (bldS 2 (etctwo_block_get_told F).ins d).tmps (bldS 2 (etctwo_block_get_told F).ins d).heap (endO (etctwo_block_get_told F).os) = etctwo_block_get F d.1 d.2.1 d.2.2.1 d.2.2.2.1 d.2.2.2.2.1 d.2.2.2.2.2.1 d.2.2.2.2.2.2.1 d.2.2.2.2.2.2.2.1 d.2.2.2.2.2.2.2.2.1))

def etctwo_read_tab (F : Nat) : List ToldF := [bits_SetHigh_told F, etcone_Parts_told F, etctwo_block_get_told F]
theorem etctwo_read_all (F : Nat) : AllOk Try.prog (etctwo_read_tab F) := ⟨bits_SetHigh_ok F, ⟨etcone_Parts_ok F, ⟨etctwo_block_get_ok F, trivial⟩⟩⟩

def etctwo_read_told (F : Nat) : ToldF := ⟨54, 2, [.row .u8 1 (.slot 0) false, .slot 1 (.bool)], [.agg [.row .u8 1 false, .hole (.bool), .hole (.bool), .hole (.is .i64 3), .hole (.is .i64 3), .hole (.is .i64 2), .hole (.is .i64 16), .hole (.bool)]], fun d => etctwo_read F d.1 d.2.1⟩
theorem etctwo_read_ok (F : Nat) : (etctwo_read_told F).ok Try.prog :=
  toldF_ok callable (etctwo_read_all F) (fn := Try.f54) (t := etctwo_read_told F) (anns := []) (by kernel_rfl) (annsOk_nil _ _)
    (fun d => (by kernel_rfl : evBody Try.prog (calT Try.prog (etctwo_read_tab F) _) (qcalT (etctwo_read_tab F) _) (annOf []) 54 (bldS 2 (etctwo_read_told F).ins d).tmps (bldS 2 (etctwo_read_told F).ins d).heap (endO (etctwo_read_told F).os) = etctwo_read F d.1 d.2.1))

def level_odd_tab (F : Nat) : List ToldF := []
theorem level_odd_all (F : Nat) : AllOk Try.prog (level_odd_tab F) := trivial

def level_odd_told (F : Nat) : ToldF := ⟨117, 1, [.slot 0 (.int .i64)], [.ty (.bool)], fun d => level_odd F d.1⟩
theorem level_odd_ok (F : Nat) : (level_odd_told F).ok Try.prog :=
  toldF_ok callable (level_odd_all F) (fn := Try.f117) (t := level_odd_told F) (anns := []) (by kernel_rfl) (annsOk_nil _ _)
    (fun d => (by kernel_rfl : evBody Try.prog (calT Try.prog (level_odd_tab F) _) (qcalT (level_odd_tab F) _) (annOf []) 117 (bldS 1 (level_odd_told F).ins d).tmps (bldS 1 (level_odd_told F).ins d).heap (endO (level_odd_told F).os) = level_odd F d.1))

def level_Wide_tab (F : Nat) : List ToldF := [level_odd_told F]
theorem level_Wide_all (F : Nat) : AllOk Try.prog (level_Wide_tab F) := ⟨level_odd_ok F, trivial⟩

abbrev level_Wide_l0_ins : List Go.AE.Item := [.slot 0 (.int .i64), .slot 1 (.int .i64), .slot 5 (.int .i64), .slot 6 (.int .i64)]
abbrev level_Wide_l0_outs : List Go.AE.Item := [.slot 5 (.int .i64), .slot 6 (.int .i64)]
def level_Wide_l0_ann (F : Nat) {ρ : Type} : Ann ρ := annS 28 level_Wide_l0_ins level_Wide_l0_outs fun d => level_Wide_l0 F F d.1 d.2.1 d.2.2.1 d.2.2.2.1
theorem level_Wide_l0_ok (F : Nat) {ρ : Type} (B : Base) (w : World) : AnnAt (ρ := ρ) Try.prog false B w (.block 0 (.loop (loopAt (bodyOf Try.f83) 0))) (level_Wide_l0_ann F) :=
  toldS_ok callable (level_Wide_all F) (ins := level_Wide_l0_ins) (outs := level_Wide_l0_outs) (anns := []) (L := fun k d => level_Wide_l0 F k d.1 d.2.1 d.2.2.1 d.2.2.2.1) (annsOk_nil _ _) (fun d => rfl)
    (fun k d => (by kernel_rfl : evCode Try.prog (calT Try.prog (level_Wide_tab F) _) (qcalT (level_Wide_tab F) _) (annOf []) (loopAt (bodyOf Try.f83) 0) (bldS 28 level_Wide_l0_ins d) (kS 28 level_Wide_l0_ins level_Wide_l0_outs 0 fun d => level_Wide_l0 F k d.1 d.2.1 d.2.2.1 d.2.2.2.1) = level_Wide_l0S F (level_Wide_l0 F k) d.1 d.2.1 d.2.2.1 d.2.2.2.1)) F B w

def level_Wide_told (F : Nat) : ToldF := ⟨83, 2, [.slot 0 (.int .i64), .slot 1 (.int .i64)], [.ty (.int .i64)], fun d => level_Wide F d.1 d.2.1⟩
theorem level_Wide_ok (F : Nat) : (level_Wide_told F).ok Try.prog :=
  toldF_ok callable (level_Wide_all F) (fn := Try.f83) (t := level_Wide_told F) (anns := [(0, level_Wide_l0_ann F)]) (by kernel_rfl) (annsOk_cons (by kernel_rfl) (fun B w => level_Wide_l0_ok F B w) (annsOk_nil _ _))
    (fun d => (by kernel_rfl : evBody Try.prog (calT Try.prog (level_Wide_tab F) _) (qcalT (level_Wide_tab F) _) (annOf [(0, level_Wide_l0_ann F)]) 83 (bldS 2 (level_Wide_told F).ins d).tmps (bldS 2 (level_Wide_told F).ins d).heap (endO (level_Wide_told F).os) = level_Wide F d.1 d.2.1))

def etcone_Bases_tab (F : Nat) : List ToldF := [level_Wide_told F]
theorem etcone_Bases_all (F : Nat) : AllOk Try.prog (etcone_Bases_tab F) := ⟨level_Wide_ok F, trivial⟩

abbrev etcone_Bases_l0_ins : List Go.AE.Item := [.segs [.hole (.bool), .hole (.bool), .hole (.is .i64 3), .hole (.is .i64 3), .hole (.is .i64 2), .hole (.is .i64 16)] (.slot 1) true, .ptr 1 0 26, .segs [.hole (.is .i64 8)] (.slot 2) true, .ptr 2 1 8, .segs [.hole (.is .i64 8)] (.slot 4) true, .ptr 4 2 8, .slot 5 (.int .i64), .slot 13 (.int .i64)]
abbrev etcone_Bases_l0_outs : List Go.AE.Item := [.segs [.hole (.is .i64 8)] (.slot 2) true, .ptr 2 0 8, .segs [.hole (.is .i64 8)] (.slot 4) true, .ptr 4 1 8, .slot 5 (.int .i64)]
def etcone_Bases_l0_ann (F : Nat) {ρ : Type} : Ann ρ := annS 61 etcone_Bases_l0_ins etcone_Bases_l0_outs fun d => etcone_Bases_l0 F F d.1 d.2.1 d.2.2.1 d.2.2.2.1 d.2.2.2.2.1 d.2.2.2.2.2.1 d.2.2.2.2.2.2.1 d.2.2.2.2.2.2.2.1 d.2.2.2.2.2.2.2.2.1 d.2.2.2.2.2.2.2.2.2.1
theorem etcone_Bases_l0_ok (F : Nat) {ρ : Type} (B : Base) (w : World) : AnnAt (ρ := ρ) Try.prog false B w (.block 0 (.loop (loopAt (bodyOf Try.f34) 0))) (etcone_Bases_l0_ann F) :=
  toldS_ok callable (etcone_Bases_all F) (ins := etcone_Bases_l0_ins) (outs := etcone_Bases_l0_outs) (anns := []) (L := fun k d => etcone_Bases_l0 F k d.1 d.2.1 d.2.2.1 d.2.2.2.1 d.2.2.2.2.1 d.2.2.2.2.2.1 d.2.2.2.2.2.2.1 d.2.2.2.2.2.2.2.1 d.2.2.2.2.2.2.2.2.1 d.2.2.2.2.2.2.2.2.2.1) (annsOk_nil _ _) (fun d => rfl)
    (fun k d => (by kernel_rfl : evCode Try.prog (calT Try.prog (etcone_Bases_tab F) _) (qcalT (etcone_Bases_tab F) _) (annOf []) (loopAt (bodyOf Try.f34) 0) (bldS 61 etcone_Bases_l0_ins d) (kS 61 etcone_Bases_l0_ins etcone_Bases_l0_outs 0 fun d => etcone_Bases_l0 F k d.1 d.2.1 d.2.2.1 d.2.2.2.1 d.2.2.2.2.1 d.2.2.2.2.2.1 d.2.2.2.2.2.2.1 d.2.2.2.2.2.2.2.1 d.2.2.2.2.2.2.2.2.1 d.2.2.2.2.2.2.2.2.2.1) = etcone_Bases_l0S F (etcone_Bases_l0 F k) d.1 d.2.1 d.2.2.1 d.2.2.2.1 d.2.2.2.2.1 d.2.2.2.2.2.1 d.2.2.2.2.2.2.1 d.2.2.2.2.2.2.2.1 d.2.2.2.2.2.2.2.2.1 d.2.2.2.2.2.2.2.2.2.1)) F B w

def etcone_Bases_told (F : Nat) : ToldF := ⟨34, 1, [.slot 0 (.agg [.bool, .bool, .is .i64 3, .is .i64 3, .is .i64 2, .is .i64 16])], [.ty (.is .i64 8), .ty (.int .i64)], fun d => etcone_Bases F d.1⟩
theorem etcone_Bases_ok (F : Nat) : (etcone_Bases_told F).ok Try.prog :=
  toldF_ok callable (etcone_Bases_all F) (fn := Try.f34) (t := etcone_Bases_told F) (anns := [(0, etcone_Bases_l0_ann F)]) (by kernel_rfl) (annsOk_cons (by kernel_rfl) (fun B w => etcone_Bases_l0_ok F B w) (annsOk_nil _ _))
    (fun d => (by kernel_rfl : evBody Try.prog (calT Try.prog (etcone_Bases_tab F) _) (qcalT (etcone_Bases_tab F) _) (annOf [(0, etcone_Bases_l0_ann F)]) 34 (bldS 1 (etcone_Bases_told F).ins d).tmps (bldS 1 (etcone_Bases_told F).ins d).heap (endO (etcone_Bases_told F).os) = etcone_Bases F d.1))

def etctwo_block_kind_tab (F : Nat) : List ToldF := [etcone_Bases_told F]
theorem etctwo_block_kind_all (F : Nat) : AllOk Try.prog (etctwo_block_kind_tab F) := ⟨etcone_Bases_ok F, trivial⟩

def etctwo_block_kind_told (F : Nat) : ToldF := ⟨55, 1, [.row .u8 1 (.part (.slot 0) 0) false, .cells 0 [.sl 0 1 .whole, .hole (.bool), .hole (.bool), .hole (.is .i64 3), .hole (.is .i64 3), .hole (.is .i64 2), .hole (.is .i64 16), .hole (.bool)]], [.ty (.int .i64)], fun d => etctwo_block_kind F d.1 d.2.1 d.2.2.1 d.2.2.2.1 d.2.2.2.2.1 d.2.2.2.2.2.1 d.2.2.2.2.2.2.1 d.2.2.2.2.2.2.2.1⟩
theorem etctwo_block_kind_ok (F : Nat) : (etctwo_block_kind_told F).ok Try.prog :=
  toldF_ok callable (etctwo_block_kind_all F) (fn := Try.f55) (t := etctwo_block_kind_told F) (anns := []) (by kernel_rfl) (annsOk_nil _ _)
    (fun d => (by kernel_rfl : evBody Try.prog (calT Try.prog (etctwo_block_kind_tab F) _) (qcalT (etctwo_block_kind_tab F) _) (annOf []) 55 (bldS 1 (etctwo_block_kind_told F).ins d).tmps (bldS 1 (etctwo_block_kind_told F).ins d).heap (endO (etctwo_block_kind_told F).os) = etctwo_block_kind F d.1 d.2.1 d.2.2.1 d.2.2.2.1 d.2.2.2.2.1 d.2.2.2.2.2.1 d.2.2.2.2.2.2.1 d.2.2.2.2.2.2.2.1))

def etcone_Half_tab (F : Nat) : List ToldF := []
theorem etcone_Half_all (F : Nat) : AllOk Try.prog (etcone_Half_tab F) := trivial

def etcone_Half_told (F : Nat) : ToldF := ⟨103, 2, [.slot 0 (.bool), .slot 1 (.int .i64)], [.ty (.int .i64)], fun d => etcone_Half F d.1 d.2.1⟩
theorem etcone_Half_ok (F : Nat) : (etcone_Half_told F).ok Try.prog :=
  toldF_ok callable (etcone_Half_all F) (fn := Try.f103) (t := etcone_Half_told F) (anns := []) (by kernel_rfl) (annsOk_nil _ _)
    (fun d => (by kernel_rfl : evBody Try.prog (calT Try.prog (etcone_Half_tab F) _) (qcalT (etcone_Half_tab F) _) (annOf []) 103 (bldS 2 (etcone_Half_told F).ins d).tmps (bldS 2 (etcone_Half_told F).ins d).heap (endO (etcone_Half_told F).os) = etcone_Half F d.1 d.2.1))

def etcone_Table_tab (F : Nat) : List ToldF := []
theorem etcone_Table_all (F : Nat) : AllOk Try.prog (etcone_Table_tab F) := trivial

def etcone_Table_told (F : Nat) : ToldF := ⟨115, 1, [.slot 0 (.int .i64)], [.ty (.is .i64 4)], fun d => etcone_Table F d.1⟩
theorem etcone_Table_ok (F : Nat) : (etcone_Table_told F).ok Try.prog :=
  toldF_ok callable (etcone_Table_all F) (fn := Try.f115) (t := etcone_Table_told F) (anns := []) (by kernel_rfl) (annsOk_nil _ _)
    (fun d => (by kernel_rfl : evBody Try.prog (calT Try.prog (etcone_Table_tab F) _) (qcalT (etcone_Table_tab F) _) (annOf []) 115 (bldS 1 (etcone_Table_told F).ins d).tmps (bldS 1 (etcone_Table_told F).ins d).heap (endO (etcone_Table_told F).os) = etcone_Table F d.1))

def level_Clamp_tab (F : Nat) : List ToldF := []
theorem level_Clamp_all (F : Nat) : AllOk Try.prog (level_Clamp_tab F) := trivial

def level_Clamp_told (F : Nat) : ToldF := ⟨76, 2, [.slot 0 (.int .i64), .slot 1 (.int .i64)], [.ty (.int .i64)], fun d => level_Clamp F d.1 d.2.1⟩
theorem level_Clamp_ok (F : Nat) : (level_Clamp_told F).ok Try.prog :=
  toldF_ok callable (level_Clamp_all F) (fn := Try.f76) (t := level_Clamp_told F) (anns := []) (by kernel_rfl) (annsOk_nil _ _)
    (fun d => (by kernel_rfl : evBody Try.prog (calT Try.prog (level_Clamp_tab F) _) (qcalT (level_Clamp_tab F) _) (annOf []) 76 (bldS 2 (level_Clamp_told F).ins d).tmps (bldS 2 (level_Clamp_told F).ins d).heap (endO (level_Clamp_told F).os) = level_Clamp F d.1 d.2.1))

def etcone_Paint_tab (F : Nat) : List ToldF := [etcone_Bases_told F, etcone_Half_told F, etcone_Table_told F, level_Clamp_told F]
theorem etcone_Paint_all (F : Nat) : AllOk Try.prog (etcone_Paint_tab F) := ⟨etcone_Bases_ok F, ⟨etcone_Half_ok F, ⟨etcone_Table_ok F, ⟨level_Clamp_ok F, trivial⟩⟩⟩⟩

abbrev etcone_Paint_l2_ins : List Go.AE.Item := [.segs [.hole (.bool), .hole (.bool), .hole (.is .i64 3), .hole (.is .i64 3), .hole (.is .i64 2), .hole (.is .i64 16)] (.slot 1) true, .ptr 1 0 26, .segs [.hole (.is .i64 64)] (.slot 2) true, .ptr 2 1 64, .segs [.hole (.is .i64 8)] (.slot 3) true, .ptr 3 2 8, .segs [.hole (.is .i64 64)] (.slot 5) true, .ptr 5 3 64, .slot 6 (.int .i64), .slot 7 (.int .i64), .slot 8 (.int .i64), .slot 16 (.is .i64 16), .slot 17 (.int .i64), .slot 30 (.int .i64)]
abbrev etcone_Paint_l2_outs : List Go.AE.Item := [.segs [.hole (.bool), .hole (.bool), .hole (.is .i64 3), .hole (.is .i64 3), .hole (.is .i64 2), .hole (.is .i64 16)] (.slot 1) true, .ptr 1 0 26, .segs [.hole (.is .i64 64)] (.slot 2) true, .ptr 2 1 64, .segs [.hole (.is .i64 8)] (.slot 3) true, .ptr 3 2 8, .segs [.hole (.is .i64 64)] (.slot 5) true, .ptr 5 3 64, .slot 16 (.is .i64 16), .slot 17 (.int .i64)]
def etcone_Paint_l2_ann (F : Nat) {ρ : Type} : Ann ρ := annS 55 etcone_Paint_l2_ins etcone_Paint_l2_outs fun d => etcone_Paint_l2 F F d.1 d.2.1 d.2.2.1 d.2.2.2.1 d.2.2.2.2.1 d.2.2.2.2.2.1 d.2.2.2.2.2.2.1 d.2.2.2.2.2.2.2.1 d.2.2.2.2.2.2.2.2.1 d.2.2.2.2.2.2.2.2.2.1 d.2.2.2.2.2.2.2.2.2.2.1 d.2.2.2.2.2.2.2.2.2.2.2.1 d.2.2.2.2.2.2.2.2.2.2.2.2.1 d.2.2.2.2.2.2.2.2.2.2.2.2.2.1 d.2.2.2.2.2.2.2.2.2.2.2.2.2.2.1
theorem etcone_Paint_l2_ok (F : Nat) {ρ : Type} (B : Base) (w : World) : AnnAt (ρ := ρ) Try.prog false B w (.block 2 (.loop (loopAt (bodyOf Try.f79) 2))) (etcone_Paint_l2_ann F) :=
  toldS_ok callable (etcone_Paint_all F) (ins := etcone_Paint_l2_ins) (outs := etcone_Paint_l2_outs) (anns := []) (L := fun k d => etcone_Paint_l2 F k d.1 d.2.1 d.2.2.1 d.2.2.2.1 d.2.2.2.2.1 d.2.2.2.2.2.1 d.2.2.2.2.2.2.1 d.2.2.2.2.2.2.2.1 d.2.2.2.2.2.2.2.2.1 d.2.2.2.2.2.2.2.2.2.1 d.2.2.2.2.2.2.2.2.2.2.1 d.2.2.2.2.2.2.2.2.2.2.2.1 d.2.2.2.2.2.2.2.2.2.2.2.2.1 d.2.2.2.2.2.2.2.2.2.2.2.2.2.1 d.2.2.2.2.2.2.2.2.2.2.2.2.2.2.1) (annsOk_nil _ _) (fun d => rfl)
    (fun k d => (by kernel_rfl : evCode Try.prog (calT Try.prog (etcone_Paint_tab F) _) (qcalT (etcone_Paint_tab F) _) (annOf []) (loopAt (bodyOf Try.f79) 2) (bldS 55 etcone_Paint_l2_ins d) (kS 55 etcone_Paint_l2_ins etcone_Paint_l2_outs 2 fun d => etcone_Paint_l2 F k d.1 d.2.1 d.2.2.1 d.2.2.2.1 d.2.2.2.2.1 d.2.2.2.2.2.1 d.2.2.2.2.2.2.1 d.2.2.2.2.2.2.2.1 d.2.2.2.2.2.2.2.2.1 d.2.2.2.2.2.2.2.2.2.1 d.2.2.2.2.2.2.2.2.2.2.1 d.2.2.2.2.2.2.2.2.2.2.2.1 d.2.2.2.2.2.2.2.2.2.2.2.2.1 d.2.2.2.2.2.2.2.2.2.2.2.2.2.1 d.2.2.2.2.2.2.2.2.2.2.2.2.2.2.1) = etcone_Paint_l2S F (etcone_Paint_l2 F k) d.1 d.2.1 d.2.2.1 d.2.2.2.1 d.2.2.2.2.1 d.2.2.2.2.2.1 d.2.2.2.2.2.2.1 d.2.2.2.2.2.2.2.1 d.2.2.2.2.2.2.2.2.1 d.2.2.2.2.2.2.2.2.2.1 d.2.2.2.2.2.2.2.2.2.2.1 d.2.2.2.2.2.2.2.2.2.2.2.1 d.2.2.2.2.2.2.2.2.2.2.2.2.1 d.2.2.2.2.2.2.2.2.2.2.2.2.2.1 d.2.2.2.2.2.2.2.2.2.2.2.2.2.2.1)) F B w

abbrev etcone_Paint_l0_ins : List Go.AE.Item := [.segs [.hole (.bool), .hole (.bool), .hole (.is .i64 3), .hole (.is .i64 3), .hole (.is .i64 2), .hole (.is .i64 16)] (.slot 1) true, .ptr 1 0 26, .segs [.hole (.is .i64 64)] (.slot 2) true, .ptr 2 1 64, .segs [.hole (.is .i64 8)] (.slot 3) true, .ptr 3 2 8, .segs [.hole (.is .i64 64)] (.slot 5) true, .ptr 5 3 64, .slot 16 (.is .i64 16), .slot 17 (.int .i64)]
abbrev etcone_Paint_l0_outs : List Go.AE.Item := [.segs [.hole (.is .i64 64)] (.slot 2) true, .ptr 2 0 64, .segs [.hole (.is .i64 64)] (.slot 5) true, .ptr 5 1 64]
def etcone_Paint_l0_ann (F : Nat) {ρ : Type} : Ann ρ := annS 55 etcone_Paint_l0_ins etcone_Paint_l0_outs fun d => etcone_Paint_l0 F F d.1 d.2.1 d.2.2.1 d.2.2.2.1 d.2.2.2.2.1 d.2.2.2.2.2.1 d.2.2.2.2.2.2.1 d.2.2.2.2.2.2.2.1 d.2.2.2.2.2.2.2.2.1 d.2.2.2.2.2.2.2.2.2.1 d.2.2.2.2.2.2.2.2.2.2.1
theorem etcone_Paint_l0_ok (F : Nat) {ρ : Type} (B : Base) (w : World) : AnnAt (ρ := ρ) Try.prog false B w (.block 0 (.loop (loopAt (bodyOf Try.f79) 0))) (etcone_Paint_l0_ann F) :=
  toldS_ok callable (etcone_Paint_all F) (ins := etcone_Paint_l0_ins) (outs := etcone_Paint_l0_outs) (anns := [(2, etcone_Paint_l2_ann F)]) (L := fun k d => etcone_Paint_l0 F k d.1 d.2.1 d.2.2.1 d.2.2.2.1 d.2.2.2.2.1 d.2.2.2.2.2.1 d.2.2.2.2.2.2.1 d.2.2.2.2.2.2.2.1 d.2.2.2.2.2.2.2.2.1 d.2.2.2.2.2.2.2.2.2.1 d.2.2.2.2.2.2.2.2.2.2.1) (annsOk_cons (by kernel_rfl) (fun B w => etcone_Paint_l2_ok F B w) (annsOk_nil _ _)) (fun d => rfl)
    (fun k d => (by kernel_rfl : evCode Try.prog (calT Try.prog (etcone_Paint_tab F) _) (qcalT (etcone_Paint_tab F) _) (annOf [(2, etcone_Paint_l2_ann F)]) (loopAt (bodyOf Try.f79) 0) (bldS 55 etcone_Paint_l0_ins d) (kS 55 etcone_Paint_l0_ins etcone_Paint_l0_outs 0 fun d => etcone_Paint_l0 F k d.1 d.2.1 d.2.2.1 d.2.2.2.1 d.2.2.2.2.1 d.2.2.2.2.2.1 d.2.2.2.2.2.2.1 d.2.2.2.2.2.2.2.1 d.2.2.2.2.2.2.2.2.1 d.2.2.2.2.2.2.2.2.2.1 d.2.2.2.2.2.2.2.2.2.2.1) = etcone_Paint_l0S F (etcone_Paint_l0 F k) d.1 d.2.1 d.2.2.1 d.2.2.2.1 d.2.2.2.2.1 d.2.2.2.2.2.1 d.2.2.2.2.2.2.1 d.2.2.2.2.2.2.2.1 d.2.2.2.2.2.2.2.2.1 d.2.2.2.2.2.2.2.2.2.1 d.2.2.2.2.2.2.2.2.2.2.1)) F B w

def etcone_Paint_told (F : Nat) : ToldF := ⟨79, 1, [.slot 0 (.agg [.bool, .bool, .is .i64 3, .is .i64 3, .is .i64 2, .is .i64 16])], [.ty (.is .i64 64)], fun d => etcone_Paint F d.1⟩
theorem etcone_Paint_ok (F : Nat) : (etcone_Paint_told F).ok Try.prog :=
  toldF_ok callable (etcone_Paint_all F) (fn := Try.f79) (t := etcone_Paint_told F) (anns := [(2, etcone_Paint_l2_ann F), (0, etcone_Paint_l0_ann F)]) (by kernel_rfl) (annsOk_cons (by kernel_rfl) (fun B w => etcone_Paint_l2_ok F B w) (annsOk_cons (by kernel_rfl) (fun B w => etcone_Paint_l0_ok F B w) (annsOk_nil _ _)))
    (fun d => (by kernel_rfl : evBody Try.prog (calT Try.prog (etcone_Paint_tab F) _) (qcalT (etcone_Paint_tab F) _) (annOf [(2, etcone_Paint_l2_ann F), (0, etcone_Paint_l0_ann F)]) 79 (bldS 1 (etcone_Paint_told F).ins d).tmps (bldS 1 (etcone_Paint_told F).ins d).heap (endO (etcone_Paint_told F).os) = etcone_Paint F d.1))

def etctwo_block_halves_tab (F : Nat) : List ToldF := [etcone_Bases_told F, etcone_Half_told F, etcone_Paint_told F]
theorem etctwo_block_halves_all (F : Nat) : AllOk Try.prog (etctwo_block_halves_tab F) := ⟨etcone_Bases_ok F, ⟨etcone_Half_ok F, ⟨etcone_Paint_ok F, trivial⟩⟩⟩

abbrev etctwo_block_halves_l0_ins : List Go.AE.Item := [.row .u8 1 (.cell (.slot 1) 0) false, .segs [.sl 0 1 .whole, .hole (.bool), .hole (.bool), .hole (.is .i64 3), .hole (.is .i64 3), .hole (.is .i64 2), .hole (.is .i64 16), .hole (.bool)] (.slot 1) true, .ptr 1 1 28, .segs [.hole (.is .i64 64)] (.slot 2) true, .ptr 2 2 64, .segs [.hole (.is .i64 64)] (.slot 3) true, .ptr 3 3 64, .segs [.hole (.is .i64 8)] (.slot 4) true, .ptr 4 4 8, .slot 19 (.is .i64 16), .slot 20 (.int .i64)]
abbrev etctwo_block_halves_l0_outs : List Go.AE.Item := [.segs [.hole (.is .i64 64)] (.slot 2) true, .ptr 2 0 64, .segs [.hole (.is .i64 64)] (.slot 3) true, .ptr 3 1 64]
def etctwo_block_halves_l0_ann (F : Nat) {ρ : Type} : Ann ρ := annS 42 etctwo_block_halves_l0_ins etctwo_block_halves_l0_outs fun d => etctwo_block_halves_l0 F F d.1 d.2.1 d.2.2.1 d.2.2.2.1 d.2.2.2.2.1 d.2.2.2.2.2.1 d.2.2.2.2.2.2.1 d.2.2.2.2.2.2.2.1 d.2.2.2.2.2.2.2.2.1 d.2.2.2.2.2.2.2.2.2.1 d.2.2.2.2.2.2.2.2.2.2.1 d.2.2.2.2.2.2.2.2.2.2.2.1 d.2.2.2.2.2.2.2.2.2.2.2.2.1
theorem etctwo_block_halves_l0_ok (F : Nat) {ρ : Type} (B : Base) (w : World) : AnnAt (ρ := ρ) Try.prog false B w (.block 0 (.loop (loopAt (bodyOf Try.f56) 0))) (etctwo_block_halves_l0_ann F) :=
  toldS_ok callable (etctwo_block_halves_all F) (ins := etctwo_block_halves_l0_ins) (outs := etctwo_block_halves_l0_outs) (anns := []) (L := fun k d => etctwo_block_halves_l0 F k d.1 d.2.1 d.2.2.1 d.2.2.2.1 d.2.2.2.2.1 d.2.2.2.2.2.1 d.2.2.2.2.2.2.1 d.2.2.2.2.2.2.2.1 d.2.2.2.2.2.2.2.2.1 d.2.2.2.2.2.2.2.2.2.1 d.2.2.2.2.2.2.2.2.2.2.1 d.2.2.2.2.2.2.2.2.2.2.2.1 d.2.2.2.2.2.2.2.2.2.2.2.2.1) (annsOk_nil _ _) (fun d => rfl)
    (fun k d => (by kernel_rfl : evCode Try.prog (calT Try.prog (etctwo_block_halves_tab F) _) (qcalT (etctwo_block_halves_tab F) _) (annOf []) (loopAt (bodyOf Try.f56) 0) (bldS 42 etctwo_block_halves_l0_ins d) (kS 42 etctwo_block_halves_l0_ins etctwo_block_halves_l0_outs 0 fun d => etctwo_block_halves_l0 F k d.1 d.2.1 d.2.2.1 d.2.2.2.1 d.2.2.2.2.1 d.2.2.2.2.2.1 d.2.2.2.2.2.2.1 d.2.2.2.2.2.2.2.1 d.2.2.2.2.2.2.2.2.1 d.2.2.2.2.2.2.2.2.2.1 d.2.2.2.2.2.2.2.2.2.2.1 d.2.2.2.2.2.2.2.2.2.2.2.1 d.2.2.2.2.2.2.2.2.2.2.2.2.1) = etctwo_block_halves_l0S F (etctwo_block_halves_l0 F k) d.1 d.2.1 d.2.2.1 d.2.2.2.1 d.2.2.2.2.1 d.2.2.2.2.2.1 d.2.2.2.2.2.2.1 d.2.2.2.2.2.2.2.1 d.2.2.2.2.2.2.2.2.1 d.2.2.2.2.2.2.2.2.2.1 d.2.2.2.2.2.2.2.2.2.2.1 d.2.2.2.2.2.2.2.2.2.2.2.1 d.2.2.2.2.2.2.2.2.2.2.2.2.1)) F B w

def etctwo_block_halves_told (F : Nat) : ToldF := ⟨56, 1, [.row .u8 1 (.part (.slot 0) 0) false, .cells 0 [.sl 0 1 .whole, .hole (.bool), .hole (.bool), .hole (.is .i64 3), .hole (.is .i64 3), .hole (.is .i64 2), .hole (.is .i64 16), .hole (.bool)]], [.ty (.is .i64 64)], fun d => etctwo_block_halves F d.1 d.2.1 d.2.2.1 d.2.2.2.1 d.2.2.2.2.1 d.2.2.2.2.2.1 d.2.2.2.2.2.2.1 d.2.2.2.2.2.2.2.1⟩
theorem etctwo_block_halves_ok (F : Nat) : (etctwo_block_halves_told F).ok Try.prog :=
  toldF_ok callable (etctwo_block_halves_all F) (fn := Try.f56) (t := etctwo_block_halves_told F) (anns := [(0, etctwo_block_halves_l0_ann F)]) (by kernel_rfl) (annsOk_cons (by kernel_rfl) (fun B w => etctwo_block_halves_l0_ok F B w) (annsOk_nil _ _))
    (fun d => (by kernel_rfl : evBody Try.prog (calT Try.prog (etctwo_block_halves_tab F) _) (qcalT (etctwo_block_halves_tab F) _) (annOf [(0, etctwo_block_halves_l0_ann F)]) 56 (bldS 1 (etctwo_block_halves_told F).ins d).tmps (bldS 1 (etctwo_block_halves_told F).ins d).heap (endO (etctwo_block_halves_told F).os) = etctwo_block_halves F d.1 d.2.1 d.2.2.1 d.2.2.2.1 d.2.2.2.2.1 d.2.2.2.2.2.1 d.2.2.2.2.2.2.1 d.2.2.2.2.2.2.2.1))

def etctwo_wide_tab (F : Nat) : List ToldF := [level_Wide_told F]
theorem etctwo_wide_all (F : Nat) : AllOk Try.prog (etctwo_wide_tab F) := ⟨level_Wide_ok F, trivial⟩

abbrev etctwo_wide_l0_ins : List Go.AE.Item := [.segs [.hole (.is .i64 3)] (.slot 3) true, .ptr 3 0 3, .segs [.hole (.is .i64 4)] (.slot 4) true, .ptr 4 1 4, .segs [.hole (.is .i64 4)] (.slot 5) true, .ptr 5 2 4, .slot 9 (.is .i64 3), .slot 10 (.int .i64)]
abbrev etctwo_wide_l0_outs : List Go.AE.Item := [.segs [.hole (.is .i64 4)] (.slot 4) true, .ptr 4 0 4, .segs [.hole (.is .i64 4)] (.slot 5) true, .ptr 5 1 4]
def etctwo_wide_l0_ann (F : Nat) {ρ : Type} : Ann ρ := annS 23 etctwo_wide_l0_ins etctwo_wide_l0_outs fun d => etctwo_wide_l0 F F d.1 d.2.1 d.2.2.1 d.2.2.2.1 d.2.2.2.2.1
theorem etctwo_wide_l0_ok (F : Nat) {ρ : Type} (B : Base) (w : World) : AnnAt (ρ := ρ) Try.prog false B w (.block 0 (.loop (loopAt (bodyOf Try.f129) 0))) (etctwo_wide_l0_ann F) :=
  toldS_ok callable (etctwo_wide_all F) (ins := etctwo_wide_l0_ins) (outs := etctwo_wide_l0_outs) (anns := []) (L := fun k d => etctwo_wide_l0 F k d.1 d.2.1 d.2.2.1 d.2.2.2.1 d.2.2.2.2.1) (annsOk_nil _ _) (fun d => rfl)
    (fun k d => (by kernel_rfl : evCode Try.prog (calT Try.prog (etctwo_wide_tab F) _) (qcalT (etctwo_wide_tab F) _) (annOf []) (loopAt (bodyOf Try.f129) 0) (bldS 23 etctwo_wide_l0_ins d) (kS 23 etctwo_wide_l0_ins etctwo_wide_l0_outs 0 fun d => etctwo_wide_l0 F k d.1 d.2.1 d.2.2.1 d.2.2.2.1 d.2.2.2.2.1) = etctwo_wide_l0S F (etctwo_wide_l0 F k) d.1 d.2.1 d.2.2.1 d.2.2.2.1 d.2.2.2.2.1)) F B w

def etctwo_wide_told (F : Nat) : ToldF := ⟨129, 2, [.slot 0 (.is .i64 3), .slot 1 (.is .i64 3)], [.ty (.is .i64 4)], fun d => etctwo_wide F d.1 d.2.1⟩
theorem etctwo_wide_ok (F : Nat) : (etctwo_wide_told F).ok Try.prog :=
  toldF_ok callable (etctwo_wide_all F) (fn := Try.f129) (t := etctwo_wide_told F) (anns := [(0, etctwo_wide_l0_ann F)]) (by kernel_rfl) (annsOk_cons (by kernel_rfl) (fun B w => etctwo_wide_l0_ok F B w) (annsOk_nil _ _))
    (fun d => (by kernel_rfl : evBody Try.prog (calT Try.prog (etctwo_wide_tab F) _) (qcalT (etctwo_wide_tab F) _) (annOf [(0, etctwo_wide_l0_ann F)]) 129 (bldS 2 (etctwo_wide_told F).ins d).tmps (bldS 2 (etctwo_wide_told F).ins d).heap (endO (etctwo_wide_told F).os) = etctwo_wide F d.1 d.2.1))

def etctwo_plain_tab (F : Nat) : List ToldF := [etctwo_wide_told F]
theorem etctwo_plain_all (F : Nat) : AllOk Try.prog (etctwo_plain_tab F) := ⟨etctwo_wide_ok F, trivial⟩

def etctwo_plain_told (F : Nat) : ToldF := ⟨104, 1, [.slot 0 (.is .i64 3)], [.ty (.is .i64 4)], fun d => etctwo_plain F d.1⟩
theorem etctwo_plain_ok (F : Nat) : (etctwo_plain_told F).ok Try.prog :=
  toldF_ok callable (etctwo_plain_all F) (fn := Try.f104) (t := etctwo_plain_told F) (anns := []) (by kernel_rfl) (annsOk_nil _ _)
    (fun d => (by kernel_rfl : evBody Try.prog (calT Try.prog (etctwo_plain_tab F) _) (qcalT (etctwo_plain_tab F) _) (annOf []) 104 (bldS 1 (etctwo_plain_told F).ins d).tmps (bldS 1 (etctwo_plain_told F).ins d).heap (endO (etctwo_plain_told F).os) = etctwo_plain F d.1))

def etctwo_Distance_tab (F : Nat) : List ToldF := []
theorem etctwo_Distance_all (F : Nat) : AllOk Try.prog (etctwo_Distance_tab F) := trivial

def etctwo_Distance_told (F : Nat) : ToldF := ⟨24, 1, [.slot 0 (.int .i64)], [.ty (.int .i64)], fun d => etctwo_Distance F d.1⟩
theorem etctwo_Distance_ok (F : Nat) : (etctwo_Distance_told F).ok Try.prog :=
  toldF_ok callable (etctwo_Distance_all F) (fn := Try.f24) (t := etctwo_Distance_told F) (anns := []) (by kernel_rfl) (annsOk_nil _ _)
    (fun d => (by kernel_rfl : evBody Try.prog (calT Try.prog (etctwo_Distance_tab F) _) (qcalT (etctwo_Distance_tab F) _) (annOf []) 24 (bldS 1 (etctwo_Distance_told F).ins d).tmps (bldS 1 (etctwo_Distance_told F).ins d).heap (endO (etctwo_Distance_told F).os) = etctwo_Distance F d.1))

def etctwo_moved_tab (F : Nat) : List ToldF := [level_Clamp_told F]
theorem etctwo_moved_all (F : Nat) : AllOk Try.prog (etctwo_moved_tab F) := ⟨level_Clamp_ok F, trivial⟩

abbrev etctwo_moved_l0_ins : List Go.AE.Item := [.slot 1 (.int .i64), .segs [.hole (.is .i64 4)] (.slot 2) true, .ptr 2 0 4, .segs [.hole (.is .i64 4)] (.slot 4) true, .ptr 4 1 4, .slot 6 (.int .i64)]
abbrev etctwo_moved_l0_outs : List Go.AE.Item := [.segs [.hole (.is .i64 4)] (.slot 2) true, .ptr 2 0 4, .segs [.hole (.is .i64 4)] (.slot 4) true, .ptr 4 1 4]
def etctwo_moved_l0_ann (F : Nat) {ρ : Type} : Ann ρ := annS 19 etctwo_moved_l0_ins etctwo_moved_l0_outs fun d => etctwo_moved_l0 F F d.1 d.2.1 d.2.2.1 d.2.2.2.1
theorem etctwo_moved_l0_ok (F : Nat) {ρ : Type} (B : Base) (w : World) : AnnAt (ρ := ρ) Try.prog false B w (.block 0 (.loop (loopAt (bodyOf Try.f106) 0))) (etctwo_moved_l0_ann F) :=
  toldS_ok callable (etctwo_moved_all F) (ins := etctwo_moved_l0_ins) (outs := etctwo_moved_l0_outs) (anns := []) (L := fun k d => etctwo_moved_l0 F k d.1 d.2.1 d.2.2.1 d.2.2.2.1) (annsOk_nil _ _) (fun d => rfl)
    (fun k d => (by kernel_rfl : evCode Try.prog (calT Try.prog (etctwo_moved_tab F) _) (qcalT (etctwo_moved_tab F) _) (annOf []) (loopAt (bodyOf Try.f106) 0) (bldS 19 etctwo_moved_l0_ins d) (kS 19 etctwo_moved_l0_ins etctwo_moved_l0_outs 0 fun d => etctwo_moved_l0 F k d.1 d.2.1 d.2.2.1 d.2.2.2.1) = etctwo_moved_l0S F (etctwo_moved_l0 F k) d.1 d.2.1 d.2.2.1 d.2.2.2.1)) F B w

def etctwo_moved_told (F : Nat) : ToldF := ⟨106, 2, [.slot 0 (.is .i64 4), .slot 1 (.int .i64)], [.ty (.is .i64 4)], fun d => etctwo_moved F d.1 d.2.1⟩
theorem etctwo_moved_ok (F : Nat) : (etctwo_moved_told F).ok Try.prog :=
  toldF_ok callable (etctwo_moved_all F) (fn := Try.f106) (t := etctwo_moved_told F) (anns := [(0, etctwo_moved_l0_ann F)]) (by kernel_rfl) (annsOk_cons (by kernel_rfl) (fun B w => etctwo_moved_l0_ok F B w) (annsOk_nil _ _))
    (fun d => (by kernel_rfl : evBody Try.prog (calT Try.prog (etctwo_moved_tab F) _) (qcalT (etctwo_moved_tab F) _) (annOf [(0, etctwo_moved_l0_ann F)]) 106 (bldS 2 (etctwo_moved_told F).ins d).tmps (bldS 2 (etctwo_moved_told F).ins d).heap (endO (etctwo_moved_told F).os) = etctwo_moved F d.1 d.2.1))

def etctwo_block_four_tab (F : Nat) : List ToldF := []
theorem etctwo_block_four_all (F : Nat) : AllOk Try.prog (etctwo_block_four_tab F) := trivial

abbrev etctwo_block_four_l0_ins : List Go.AE.Item := [.segs [.hole (.is .i64 16)] (.slot 3) true, .ptr 3 0 16, .segs [.hole (.is .i64 64)] (.slot 4) true, .ptr 4 1 64, .segs [.hole (.is .i64 64)] (.slot 5) true, .ptr 5 2 64, .slot 10 (.is .i64 16), .slot 11 (.int .i64)]
abbrev etctwo_block_four_l0_outs : List Go.AE.Item := [.segs [.hole (.is .i64 64)] (.slot 4) true, .ptr 4 0 64, .segs [.hole (.is .i64 64)] (.slot 5) true, .ptr 5 1 64]
def etctwo_block_four_l0_ann (F : Nat) {ρ : Type} : Ann ρ := annS 22 etctwo_block_four_l0_ins etctwo_block_four_l0_outs fun d => etctwo_block_four_l0 F F d.1 d.2.1 d.2.2.1 d.2.2.2.1 d.2.2.2.2.1
theorem etctwo_block_four_l0_ok (F : Nat) {ρ : Type} (B : Base) (w : World) : AnnAt (ρ := ρ) Try.prog false B w (.block 0 (.loop (loopAt (bodyOf Try.f105) 0))) (etctwo_block_four_l0_ann F) :=
  toldS_ok callable (etctwo_block_four_all F) (ins := etctwo_block_four_l0_ins) (outs := etctwo_block_four_l0_outs) (anns := []) (L := fun k d => etctwo_block_four_l0 F k d.1 d.2.1 d.2.2.1 d.2.2.2.1 d.2.2.2.2.1) (annsOk_nil _ _) (fun d => rfl)
    (fun k d => (by kernel_rfl : evCode Try.prog (calT Try.prog (etctwo_block_four_tab F) _) (qcalT (etctwo_block_four_tab F) _) (annOf []) (loopAt (bodyOf Try.f105) 0) (bldS 22 etctwo_block_four_l0_ins d) (kS 22 etctwo_block_four_l0_ins etctwo_block_four_l0_outs 0 fun d => etctwo_block_four_l0 F k d.1 d.2.1 d.2.2.1 d.2.2.2.1 d.2.2.2.2.1) = etctwo_block_four_l0S F (etctwo_block_four_l0 F k) d.1 d.2.1 d.2.2.1 d.2.2.2.1 d.2.2.2.2.1)) F B w

def etctwo_block_four_told (F : Nat) : ToldF := ⟨105, 2, [.row .u8 1 (.part (.slot 0) 0) false, .cells 0 [.sl 0 1 .whole, .hole (.bool), .hole (.bool), .hole (.is .i64 3), .hole (.is .i64 3), .hole (.is .i64 2), .hole (.is .i64 16), .hole (.bool)], .slot 1 (.is .i64 16)], [.ty (.is .i64 64)], fun d => etctwo_block_four F d.1 d.2.1 d.2.2.1 d.2.2.2.1 d.2.2.2.2.1 d.2.2.2.2.2.1 d.2.2.2.2.2.2.1 d.2.2.2.2.2.2.2.1 d.2.2.2.2.2.2.2.2.1⟩
theorem etctwo_block_four_ok (F : Nat) : (etctwo_block_four_told F).ok Try.prog :=
  toldF_ok callable (etctwo_block_four_all F) (fn := Try.f105) (t := etctwo_block_four_told F) (anns := [(0, etctwo_block_four_l0_ann F)]) (by kernel_rfl) (annsOk_cons (by kernel_rfl) (fun B w => etctwo_block_four_l0_ok F B w) (annsOk_nil _ _))
    (fun d => (by kernel_rfl : evBody Try.prog (calT Try.prog (etctwo_block_four_tab F) _) (qcalT (etctwo_block_four_tab F) _) (annOf [(0, etctwo_block_four_l0_ann F)]) 105 (bldS 2 (etctwo_block_four_told F).ins d).tmps (bldS 2 (etctwo_block_four_told F).ins d).heap (endO (etctwo_block_four_told F).os) = etctwo_block_four F d.1 d.2.1 d.2.2.1 d.2.2.2.1 d.2.2.2.2.1 d.2.2.2.2.2.1 d.2.2.2.2.2.2.1 d.2.2.2.2.2.2.2.1 d.2.2.2.2.2.2.2.2.1))

def etctwo_block_ofT_tab (F : Nat) : List ToldF := [etctwo_block_run_told F, etctwo_block_get_told F, etctwo_plain_told F, etctwo_Distance_told F, etctwo_moved_told F, etctwo_block_four_told F]
theorem etctwo_block_ofT_all (F : Nat) : AllOk Try.prog (etctwo_block_ofT_tab F) := ⟨etctwo_block_run_ok F, ⟨etctwo_block_get_ok F, ⟨etctwo_plain_ok F, ⟨etctwo_Distance_ok F, ⟨etctwo_moved_ok F, ⟨etctwo_block_four_ok F, trivial⟩⟩⟩⟩⟩⟩

def etctwo_block_ofT_told (F : Nat) : ToldF := ⟨57, 1, [.row .u8 1 (.part (.slot 0) 0) false, .cells 0 [.sl 0 1 .whole, .hole (.bool), .hole (.bool), .hole (.is .i64 3), .hole (.is .i64 3), .hole (.is .i64 2), .hole (.is .i64 16), .hole (.bool)]], [.ty (.is .i64 64)], fun d => etctwo_block_ofT F d.1 d.2.1 d.2.2.1 d.2.2.2.1 d.2.2.2.2.1 d.2.2.2.2.2.1 d.2.2.2.2.2.2.1 d.2.2.2.2.2.2.2.1⟩
theorem etctwo_block_ofT_ok (F : Nat) : (etctwo_block_ofT_told F).ok Try.prog :=
  toldF_ok callable (etctwo_block_ofT_all F) (fn := Try.f57) (t := etctwo_block_ofT_told F) (anns := []) (by kernel_rfl) (annsOk_nil _ _)
    (fun d => (by kernel_rfl : evBody Try.prog (calT Try.prog (etctwo_block_ofT_tab F) _) (qcalT (etctwo_block_ofT_tab F) _) (annOf []) 57 (bldS 1 (etctwo_block_ofT_told F).ins d).tmps (bldS 1 (etctwo_block_ofT_told F).ins d).heap (endO (etctwo_block_ofT_told F).os) = etctwo_block_ofT F d.1 d.2.1 d.2.2.1 d.2.2.2.1 d.2.2.2.2.1 d.2.2.2.2.2.1 d.2.2.2.2.2.2.1 d.2.2.2.2.2.2.2.1))

def etctwo_block_ofH_tab (F : Nat) : List ToldF := [etctwo_block_run_told F, etctwo_block_get_told F, etctwo_plain_told F, etctwo_Distance_told F, etctwo_moved_told F, etctwo_block_four_told F]
theorem etctwo_block_ofH_all (F : Nat) : AllOk Try.prog (etctwo_block_ofH_tab F) := ⟨etctwo_block_run_ok F, ⟨etctwo_block_get_ok F, ⟨etctwo_plain_ok F, ⟨etctwo_Distance_ok F, ⟨etctwo_moved_ok F, ⟨etctwo_block_four_ok F, trivial⟩⟩⟩⟩⟩⟩

def etctwo_block_ofH_told (F : Nat) : ToldF := ⟨58, 1, [.row .u8 1 (.part (.slot 0) 0) false, .cells 0 [.sl 0 1 .whole, .hole (.bool), .hole (.bool), .hole (.is .i64 3), .hole (.is .i64 3), .hole (.is .i64 2), .hole (.is .i64 16), .hole (.bool)]], [.ty (.is .i64 64)], fun d => etctwo_block_ofH F d.1 d.2.1 d.2.2.1 d.2.2.2.1 d.2.2.2.2.1 d.2.2.2.2.2.1 d.2.2.2.2.2.2.1 d.2.2.2.2.2.2.2.1⟩
theorem etctwo_block_ofH_ok (F : Nat) : (etctwo_block_ofH_told F).ok Try.prog :=
  toldF_ok callable (etctwo_block_ofH_all F) (fn := Try.f58) (t := etctwo_block_ofH_told F) (anns := []) (by kernel_rfl) (annsOk_nil _ _)
    (fun d => (by kernel_rfl : evBody Try.prog (calT Try.prog (etctwo_block_ofH_tab F) _) (qcalT (etctwo_block_ofH_tab F) _) (annOf []) 58 (bldS 1 (etctwo_block_ofH_told F).ins d).tmps (bldS 1 (etctwo_block_ofH_told F).ins d).heap (endO (etctwo_block_ofH_told F).os) = etctwo_block_ofH F d.1 d.2.1 d.2.2.1 d.2.2.2.1 d.2.2.2.2.1 d.2.2.2.2.2.1 d.2.2.2.2.2.2.1 d.2.2.2.2.2.2.2.1))

def etctwo_plane_tab (F : Nat) : List ToldF := [etctwo_wide_told F]
theorem etctwo_plane_all (F : Nat) : AllOk Try.prog (etctwo_plane_tab F) := ⟨etctwo_wide_ok F, trivial⟩

def etctwo_plane_told (F : Nat) : ToldF := ⟨107, 1, [.slot 0 (.is .i64 3)], [.ty (.is .i64 4)], fun d => etctwo_plane F d.1⟩
theorem etctwo_plane_ok (F : Nat) : (etctwo_plane_told F).ok Try.prog :=
  toldF_ok callable (etctwo_plane_all F) (fn := Try.f107) (t := etctwo_plane_told F) (anns := []) (by kernel_rfl) (annsOk_nil _ _)
    (fun d => (by kernel_rfl : evBody Try.prog (calT Try.prog (etctwo_plane_tab F) _) (qcalT (etctwo_plane_tab F) _) (annOf []) 107 (bldS 1 (etctwo_plane_told F).ins d).tmps (bldS 1 (etctwo_plane_told F).ins d).heap (endO (etctwo_plane_told F).os) = etctwo_plane F d.1))

def etctwo_Plane_tab (F : Nat) : List ToldF := [level_Clamp_told F]
theorem etctwo_Plane_all (F : Nat) : AllOk Try.prog (etctwo_Plane_tab F) := ⟨level_Clamp_ok F, trivial⟩

abbrev etctwo_Plane_l2_ins : List Go.AE.Item := [.segs [.hole (.is .i64 4)] (.slot 3) true, .ptr 3 0 4, .segs [.hole (.is .i64 4)] (.slot 4) true, .ptr 4 1 4, .segs [.hole (.is .i64 4)] (.slot 5) true, .ptr 5 2 4, .segs [.hole (.is .i64 64)] (.slot 6) true, .ptr 6 3 64, .segs [.hole (.is .i64 64)] (.slot 7) true, .ptr 7 4 64, .slot 8 (.int .i64), .slot 11 (.int .i64), .slot 17 (.int .i64)]
abbrev etctwo_Plane_l2_outs : List Go.AE.Item := [.segs [.hole (.is .i64 4)] (.slot 3) true, .ptr 3 0 4, .segs [.hole (.is .i64 4)] (.slot 4) true, .ptr 4 1 4, .segs [.hole (.is .i64 4)] (.slot 5) true, .ptr 5 2 4, .segs [.hole (.is .i64 64)] (.slot 6) true, .ptr 6 3 64, .segs [.hole (.is .i64 64)] (.slot 7) true, .ptr 7 4 64, .slot 11 (.int .i64)]
def etctwo_Plane_l2_ann (F : Nat) {ρ : Type} : Ann ρ := annS 57 etctwo_Plane_l2_ins etctwo_Plane_l2_outs fun d => etctwo_Plane_l2 F F d.1 d.2.1 d.2.2.1 d.2.2.2.1 d.2.2.2.2.1 d.2.2.2.2.2.1 d.2.2.2.2.2.2.1 d.2.2.2.2.2.2.2.1
theorem etctwo_Plane_l2_ok (F : Nat) {ρ : Type} (B : Base) (w : World) : AnnAt (ρ := ρ) Try.prog false B w (.block 2 (.loop (loopAt (bodyOf Try.f29) 2))) (etctwo_Plane_l2_ann F) :=
  toldS_ok callable (etctwo_Plane_all F) (ins := etctwo_Plane_l2_ins) (outs := etctwo_Plane_l2_outs) (anns := []) (L := fun k d => etctwo_Plane_l2 F k d.1 d.2.1 d.2.2.1 d.2.2.2.1 d.2.2.2.2.1 d.2.2.2.2.2.1 d.2.2.2.2.2.2.1 d.2.2.2.2.2.2.2.1) (annsOk_nil _ _) (fun d => rfl)
    (fun k d => (by kernel_rfl : evCode Try.prog (calT Try.prog (etctwo_Plane_tab F) _) (qcalT (etctwo_Plane_tab F) _) (annOf []) (loopAt (bodyOf Try.f29) 2) (bldS 57 etctwo_Plane_l2_ins d) (kS 57 etctwo_Plane_l2_ins etctwo_Plane_l2_outs 2 fun d => etctwo_Plane_l2 F k d.1 d.2.1 d.2.2.1 d.2.2.2.1 d.2.2.2.2.1 d.2.2.2.2.2.1 d.2.2.2.2.2.2.1 d.2.2.2.2.2.2.2.1) = etctwo_Plane_l2S F (etctwo_Plane_l2 F k) d.1 d.2.1 d.2.2.1 d.2.2.2.1 d.2.2.2.2.1 d.2.2.2.2.2.1 d.2.2.2.2.2.2.1 d.2.2.2.2.2.2.2.1)) F B w

abbrev etctwo_Plane_l0_ins : List Go.AE.Item := [.segs [.hole (.is .i64 4)] (.slot 3) true, .ptr 3 0 4, .segs [.hole (.is .i64 4)] (.slot 4) true, .ptr 4 1 4, .segs [.hole (.is .i64 4)] (.slot 5) true, .ptr 5 2 4, .segs [.hole (.is .i64 64)] (.slot 6) true, .ptr 6 3 64, .segs [.hole (.is .i64 64)] (.slot 7) true, .ptr 7 4 64, .slot 11 (.int .i64)]
abbrev etctwo_Plane_l0_outs : List Go.AE.Item := [.segs [.hole (.is .i64 64)] (.slot 6) true, .ptr 6 0 64, .segs [.hole (.is .i64 64)] (.slot 7) true, .ptr 7 1 64]
def etctwo_Plane_l0_ann (F : Nat) {ρ : Type} : Ann ρ := annS 57 etctwo_Plane_l0_ins etctwo_Plane_l0_outs fun d => etctwo_Plane_l0 F F d.1 d.2.1 d.2.2.1 d.2.2.2.1 d.2.2.2.2.1 d.2.2.2.2.2.1
theorem etctwo_Plane_l0_ok (F : Nat) {ρ : Type} (B : Base) (w : World) : AnnAt (ρ := ρ) Try.prog false B w (.block 0 (.loop (loopAt (bodyOf Try.f29) 0))) (etctwo_Plane_l0_ann F) :=
  toldS_ok callable (etctwo_Plane_all F) (ins := etctwo_Plane_l0_ins) (outs := etctwo_Plane_l0_outs) (anns := [(2, etctwo_Plane_l2_ann F)]) (L := fun k d => etctwo_Plane_l0 F k d.1 d.2.1 d.2.2.1 d.2.2.2.1 d.2.2.2.2.1 d.2.2.2.2.2.1) (annsOk_cons (by kernel_rfl) (fun B w => etctwo_Plane_l2_ok F B w) (annsOk_nil _ _)) (fun d => rfl)
    (fun k d => (by kernel_rfl : evCode Try.prog (calT Try.prog (etctwo_Plane_tab F) _) (qcalT (etctwo_Plane_tab F) _) (annOf [(2, etctwo_Plane_l2_ann F)]) (loopAt (bodyOf Try.f29) 0) (bldS 57 etctwo_Plane_l0_ins d) (kS 57 etctwo_Plane_l0_ins etctwo_Plane_l0_outs 0 fun d => etctwo_Plane_l0 F k d.1 d.2.1 d.2.2.1 d.2.2.2.1 d.2.2.2.2.1 d.2.2.2.2.2.1) = etctwo_Plane_l0S F (etctwo_Plane_l0 F k) d.1 d.2.1 d.2.2.1 d.2.2.2.1 d.2.2.2.2.1 d.2.2.2.2.2.1)) F B w

def etctwo_Plane_told (F : Nat) : ToldF := ⟨29, 3, [.slot 0 (.is .i64 4), .slot 1 (.is .i64 4), .slot 2 (.is .i64 4)], [.ty (.is .i64 64)], fun d => etctwo_Plane F d.1 d.2.1 d.2.2.1⟩
theorem etctwo_Plane_ok (F : Nat) : (etctwo_Plane_told F).ok Try.prog :=
  toldF_ok callable (etctwo_Plane_all F) (fn := Try.f29) (t := etctwo_Plane_told F) (anns := [(2, etctwo_Plane_l2_ann F), (0, etctwo_Plane_l0_ann F)]) (by kernel_rfl) (annsOk_cons (by kernel_rfl) (fun B w => etctwo_Plane_l2_ok F B w) (annsOk_cons (by kernel_rfl) (fun B w => etctwo_Plane_l0_ok F B w) (annsOk_nil _ _)))
    (fun d => (by kernel_rfl : evBody Try.prog (calT Try.prog (etctwo_Plane_tab F) _) (qcalT (etctwo_Plane_tab F) _) (annOf [(2, etctwo_Plane_l2_ann F), (0, etctwo_Plane_l0_ann F)]) 29 (bldS 3 (etctwo_Plane_told F).ins d).tmps (bldS 3 (etctwo_Plane_told F).ins d).heap (endO (etctwo_Plane_told F).os) = etctwo_Plane F d.1 d.2.1 d.2.2.1))

def etctwo_block_planar_tab (F : Nat) : List ToldF := [etctwo_block_run_told F, etctwo_block_get_told F, etctwo_plane_told F, etctwo_Plane_told F]
theorem etctwo_block_planar_all (F : Nat) : AllOk Try.prog (etctwo_block_planar_tab F) := ⟨etctwo_block_run_ok F, ⟨etctwo_block_get_ok F, ⟨etctwo_plane_ok F, ⟨etctwo_Plane_ok F, trivial⟩⟩⟩⟩

def etctwo_block_planar_told (F : Nat) : ToldF := ⟨59, 1, [.row .u8 1 (.part (.slot 0) 0) false, .cells 0 [.sl 0 1 .whole, .hole (.bool), .hole (.bool), .hole (.is .i64 3), .hole (.is .i64 3), .hole (.is .i64 2), .hole (.is .i64 16), .hole (.bool)]], [.ty (.is .i64 64)], fun d => etctwo_block_planar F d.1 d.2.1 d.2.2.1 d.2.2.2.1 d.2.2.2.2.1 d.2.2.2.2.2.1 d.2.2.2.2.2.2.1 d.2.2.2.2.2.2.2.1⟩
theorem etctwo_block_planar_ok (F : Nat) : (etctwo_block_planar_told F).ok Try.prog :=
  toldF_ok callable (etctwo_block_planar_all F) (fn := Try.f59) (t := etctwo_block_planar_told F) (anns := []) (by kernel_rfl) (annsOk_nil _ _)
    (fun d => (by kernel_rfl : evBody Try.prog (calT Try.prog (etctwo_block_planar_tab F) _) (qcalT (etctwo_block_planar_tab F) _) (annOf []) 59 (bldS 1 (etctwo_block_planar_told F).ins d).tmps (bldS 1 (etctwo_block_planar_told F).ins d).heap (endO (etctwo_block_planar_told F).os) = etctwo_block_planar F d.1 d.2.1 d.2.2.1 d.2.2.2.1 d.2.2.2.2.1 d.2.2.2.2.2.1 d.2.2.2.2.2.2.1 d.2.2.2.2.2.2.2.1))

def etctwo_Decode_tab (F : Nat) : List ToldF := [etctwo_read_told F, etctwo_block_kind_told F, etctwo_block_halves_told F, etctwo_block_ofT_told F, etctwo_block_ofH_told F, etctwo_block_planar_told F]
theorem etctwo_Decode_all (F : Nat) : AllOk Try.prog (etctwo_Decode_tab F) := ⟨etctwo_read_ok F, ⟨etctwo_block_kind_ok F, ⟨etctwo_block_halves_ok F, ⟨etctwo_block_ofT_ok F, ⟨etctwo_block_ofH_ok F, ⟨etctwo_block_planar_ok F, trivial⟩⟩⟩⟩⟩⟩

abbrev etctwo_Decode_l0_ins : List Go.AE.Item := [.segs [.hole (.is .i64 64)] (.slot 4) true, .ptr 4 0 64, .row .u8 1 (.cell (.slot 6) 0) false, .segs [.sl 1 1 .whole, .hole (.bool), .hole (.bool), .hole (.is .i64 3), .hole (.is .i64 3), .hole (.is .i64 2), .hole (.is .i64 16), .hole (.bool)] (.slot 6) true, .ptr 6 2 28, .slot 7 (.int .i64), .segs [.hole (.is .i64 64)] (.slot 9) true, .ptr 9 3 64, .slot 36 (.is .i64 16), .slot 37 (.int .i64)]
abbrev etctwo_Decode_l0_outs : List Go.AE.Item := [.segs [.hole (.is .i64 64)] (.slot 4) true, .ptr 4 0 64, .segs [.hole (.is .i64 64)] (.slot 9) true, .ptr 9 1 64]
def etctwo_Decode_l0_ann (F : Nat) {ρ : Type} : Ann ρ := annS 57 etctwo_Decode_l0_ins etctwo_Decode_l0_outs fun d => etctwo_Decode_l0 F F d.1 d.2.1 d.2.2.1 d.2.2.2.1 d.2.2.2.2.1 d.2.2.2.2.2.1 d.2.2.2.2.2.2.1 d.2.2.2.2.2.2.2.1 d.2.2.2.2.2.2.2.2.1 d.2.2.2.2.2.2.2.2.2.1 d.2.2.2.2.2.2.2.2.2.2.1 d.2.2.2.2.2.2.2.2.2.2.2.1 d.2.2.2.2.2.2.2.2.2.2.2.2.1
theorem etctwo_Decode_l0_ok (F : Nat) {ρ : Type} (B : Base) (w : World) : AnnAt (ρ := ρ) Try.prog false B w (.block 0 (.loop (loopAt (bodyOf Try.f20) 0))) (etctwo_Decode_l0_ann F) :=
  toldS_ok callable (etctwo_Decode_all F) (ins := etctwo_Decode_l0_ins) (outs := etctwo_Decode_l0_outs) (anns := []) (L := fun k d => etctwo_Decode_l0 F k d.1 d.2.1 d.2.2.1 d.2.2.2.1 d.2.2.2.2.1 d.2.2.2.2.2.1 d.2.2.2.2.2.2.1 d.2.2.2.2.2.2.2.1 d.2.2.2.2.2.2.2.2.1 d.2.2.2.2.2.2.2.2.2.1 d.2.2.2.2.2.2.2.2.2.2.1 d.2.2.2.2.2.2.2.2.2.2.2.1 d.2.2.2.2.2.2.2.2.2.2.2.2.1) (annsOk_nil _ _) (fun d => rfl)
    (fun k d => (by kernel_rfl : evCode Try.prog (calT Try.prog (etctwo_Decode_tab F) _) (qcalT (etctwo_Decode_tab F) _) (annOf []) (loopAt (bodyOf Try.f20) 0) (bldS 57 etctwo_Decode_l0_ins d) (kS 57 etctwo_Decode_l0_ins etctwo_Decode_l0_outs 0 fun d => etctwo_Decode_l0 F k d.1 d.2.1 d.2.2.1 d.2.2.2.1 d.2.2.2.2.1 d.2.2.2.2.2.1 d.2.2.2.2.2.2.1 d.2.2.2.2.2.2.2.1 d.2.2.2.2.2.2.2.2.1 d.2.2.2.2.2.2.2.2.2.1 d.2.2.2.2.2.2.2.2.2.2.1 d.2.2.2.2.2.2.2.2.2.2.2.1 d.2.2.2.2.2.2.2.2.2.2.2.2.1) = etctwo_Decode_l0S F (etctwo_Decode_l0 F k) d.1 d.2.1 d.2.2.1 d.2.2.2.1 d.2.2.2.2.1 d.2.2.2.2.2.1 d.2.2.2.2.2.2.1 d.2.2.2.2.2.2.2.1 d.2.2.2.2.2.2.2.2.1 d.2.2.2.2.2.2.2.2.2.1 d.2.2.2.2.2.2.2.2.2.2.1 d.2.2.2.2.2.2.2.2.2.2.2.1 d.2.2.2.2.2.2.2.2.2.2.2.2.1)) F B w

def etctwo_Decode_told (F : Nat) : ToldF := ⟨20, 2, [.row .u8 1 (.slot 0) false, .slot 1 (.bool)], [.ty (.is .i64 64), .ty (.int .i64)], fun d => etctwo_Decode F d.1 d.2.1⟩
theorem etctwo_Decode_ok (F : Nat) : (etctwo_Decode_told F).ok Try.prog :=
  toldF_ok callable (etctwo_Decode_all F) (fn := Try.f20) (t := etctwo_Decode_told F) (anns := [(0, etctwo_Decode_l0_ann F)]) (by kernel_rfl) (annsOk_cons (by kernel_rfl) (fun B w => etctwo_Decode_l0_ok F B w) (annsOk_nil _ _))
    (fun d => (by kernel_rfl : evBody Try.prog (calT Try.prog (etctwo_Decode_tab F) _) (qcalT (etctwo_Decode_tab F) _) (annOf [(0, etctwo_Decode_l0_ann F)]) 20 (bldS 2 (etctwo_Decode_told F).ins d).tmps (bldS 2 (etctwo_Decode_told F).ins d).heap (endO (etctwo_Decode_told F).os) = etctwo_Decode F d.1 d.2.1))

def etctwo_Kind_tab (F : Nat) : List ToldF := [etctwo_read_told F, etctwo_block_kind_told F]
theorem etctwo_Kind_all (F : Nat) : AllOk Try.prog (etctwo_Kind_tab F) := ⟨etctwo_read_ok F, ⟨etctwo_block_kind_ok F, trivial⟩⟩

def etctwo_Kind_told (F : Nat) : ToldF := ⟨22, 2, [.row .u8 1 (.slot 0) false, .slot 1 (.bool)], [.ty (.int .i64)], fun d => etctwo_Kind F d.1 d.2.1⟩
theorem etctwo_Kind_ok (F : Nat) : (etctwo_Kind_told F).ok Try.prog :=
  toldF_ok callable (etctwo_Kind_all F) (fn := Try.f22) (t := etctwo_Kind_told F) (anns := []) (by kernel_rfl) (annsOk_nil _ _)
    (fun d => (by kernel_rfl : evBody Try.prog (calT Try.prog (etctwo_Kind_tab F) _) (qcalT (etctwo_Kind_tab F) _) (annOf []) 22 (bldS 2 (etctwo_Kind_told F).ins d).tmps (bldS 2 (etctwo_Kind_told F).ins d).heap (endO (etctwo_Kind_told F).os) = etctwo_Kind F d.1 d.2.1))

def law11_awake_tab (F : Nat) : List ToldF := [etctwo_Lay_told F, etctwo_Distance_told F, etctwo_Decode_told F, etctwo_Kind_told F]
theorem law11_awake_all (F : Nat) : AllOk Try.prog (law11_awake_tab F) := ⟨etctwo_Lay_ok F, ⟨etctwo_Distance_ok F, ⟨etctwo_Decode_ok F, ⟨etctwo_Kind_ok F, trivial⟩⟩⟩⟩

def law11_awake_told (F : Nat) : ToldF := ⟨19, 0, [], [.ty (.bool)], fun d => law11_awake F⟩
theorem law11_awake_ok (F : Nat) : (law11_awake_told F).ok Try.prog :=
  toldF_ok callable (law11_awake_all F) (fn := Try.f19) (t := law11_awake_told F) (anns := []) (by kernel_rfl) (annsOk_nil _ _)
    (fun d => (by kernel_rfl : evBody Try.prog (calT Try.prog (law11_awake_tab F) _) (qcalT (law11_awake_tab F) _) (annOf []) 19 (bldS 0 (law11_awake_told F).ins d).tmps (bldS 0 (law11_awake_told F).ins d).heap (endO (law11_awake_told F).os) = law11_awake F))

def ref02_fits_tab (F : Nat) : List ToldF := []
theorem ref02_fits_all (F : Nat) : AllOk Try.prog (ref02_fits_tab F) := trivial

def ref02_fits_told (F : Nat) : ToldF := ⟨127, 3, [.row .u8 1 (.slot 0) false, .slot 1 (.int .i64), .slot 2 (.int .i64)], [.ty (.bool)], fun d => ref02_fits F d.1 d.2.1 d.2.2.1⟩
theorem ref02_fits_ok (F : Nat) : (ref02_fits_told F).ok Try.prog :=
  toldF_ok callable (ref02_fits_all F) (fn := Try.f127) (t := ref02_fits_told F) (anns := []) (by kernel_rfl) (annsOk_nil _ _)
    (fun d => (by kernel_rfl : evBody Try.prog (calT Try.prog (ref02_fits_tab F) _) (qcalT (ref02_fits_tab F) _) (annOf []) 127 (bldS 3 (ref02_fits_told F).ins d).tmps (bldS 3 (ref02_fits_told F).ins d).heap (endO (ref02_fits_told F).os) = ref02_fits F d.1 d.2.1 d.2.2.1))

def ref02_bit_tab (F : Nat) : List ToldF := []
theorem ref02_bit_all (F : Nat) : AllOk Try.prog (ref02_bit_tab F) := trivial

abbrev ref02_bit_l0_ins : List Go.AE.Item := [.slot 7 (.int .i64), .slot 8 (.int .i64), .slot 9 (.int .i64)]
abbrev ref02_bit_l0_outs : List Go.AE.Item := [.slot 8 (.int .i64)]
def ref02_bit_l0_ann (F : Nat) {ρ : Type} : Ann ρ := annS 30 ref02_bit_l0_ins ref02_bit_l0_outs fun d => ref02_bit_l0 F F d.1 d.2.1 d.2.2.1
theorem ref02_bit_l0_ok (F : Nat) {ρ : Type} (B : Base) (w : World) : AnnAt (ρ := ρ) Try.prog false B w (.block 0 (.loop (loopAt (bodyOf Try.f119) 0))) (ref02_bit_l0_ann F) :=
  toldS_ok callable (ref02_bit_all F) (ins := ref02_bit_l0_ins) (outs := ref02_bit_l0_outs) (anns := []) (L := fun k d => ref02_bit_l0 F k d.1 d.2.1 d.2.2.1) (annsOk_nil _ _) (fun d => rfl)
    (fun k d => (by kernel_rfl : evCode Try.prog (calT Try.prog (ref02_bit_tab F) _) (qcalT (ref02_bit_tab F) _) (annOf []) (loopAt (bodyOf Try.f119) 0) (bldS 30 ref02_bit_l0_ins d) (kS 30 ref02_bit_l0_ins ref02_bit_l0_outs 0 fun d => ref02_bit_l0 F k d.1 d.2.1 d.2.2.1) = ref02_bit_l0S F (ref02_bit_l0 F k) d.1 d.2.1 d.2.2.1)) F B w

def ref02_bit_told (F : Nat) : ToldF := ⟨119, 3, [.row .u8 1 (.slot 0) false, .slot 1 (.int .i64), .slot 2 (.bool)], [.ty (.int .i64)], fun d => ref02_bit F d.1 d.2.1 d.2.2.1⟩
theorem ref02_bit_ok (F : Nat) : (ref02_bit_told F).ok Try.prog :=
  toldF_ok callable (ref02_bit_all F) (fn := Try.f119) (t := ref02_bit_told F) (anns := [(0, ref02_bit_l0_ann F)]) (by kernel_rfl) (annsOk_cons (by kernel_rfl) (fun B w => ref02_bit_l0_ok F B w) (annsOk_nil _ _))
    (fun d => (by kernel_rfl : evBody Try.prog (calT Try.prog (ref02_bit_tab F) _) (qcalT (ref02_bit_tab F) _) (annOf [(0, ref02_bit_l0_ann F)]) 119 (bldS 3 (ref02_bit_told F).ins d).tmps (bldS 3 (ref02_bit_told F).ins d).heap (endO (ref02_bit_told F).os) = ref02_bit F d.1 d.2.1 d.2.2.1))

def ref02_Get_tab (F : Nat) : List ToldF := [ref02_fits_told F, ref02_bit_told F]
theorem ref02_Get_all (F : Nat) : AllOk Try.prog (ref02_Get_tab F) := ⟨ref02_fits_ok F, ⟨ref02_bit_ok F, trivial⟩⟩

abbrev ref02_Get_l0_ins : List Go.AE.Item := [.row .u8 1 (.slot 0) false, .slot 1 (.int .i64), .slot 2 (.int .i64), .slot 3 (.bool), .slot 10 (.int .u64), .slot 11 (.int .i64)]
abbrev ref02_Get_l0_outs : List Go.AE.Item := [.slot 10 (.int .u64)]
def ref02_Get_l0_ann (F : Nat) {ρ : Type} : Ann ρ := annS 52 ref02_Get_l0_ins ref02_Get_l0_outs fun d => ref02_Get_l0 F F d.1 d.2.1 d.2.2.1 d.2.2.2.1 d.2.2.2.2.1 d.2.2.2.2.2.1
theorem ref02_Get_l0_ok (F : Nat) {ρ : Type} (B : Base) (w : World) : AnnAt (ρ := ρ) Try.prog false B w (.block 0 (.loop (loopAt (bodyOf Try.f100) 0))) (ref02_Get_l0_ann F) :=
  toldS_ok callable (ref02_Get_all F) (ins := ref02_Get_l0_ins) (outs := ref02_Get_l0_outs) (anns := []) (L := fun k d => ref02_Get_l0 F k d.1 d.2.1 d.2.2.1 d.2.2.2.1 d.2.2.2.2.1 d.2.2.2.2.2.1) (annsOk_nil _ _) (fun d => rfl)
    (fun k d => (by kernel_rfl : evCode Try.prog (calT Try.prog (ref02_Get_tab F) _) (qcalT (ref02_Get_tab F) _) (annOf []) (loopAt (bodyOf Try.f100) 0) (bldS 52 ref02_Get_l0_ins d) (kS 52 ref02_Get_l0_ins ref02_Get_l0_outs 0 fun d => ref02_Get_l0 F k d.1 d.2.1 d.2.2.1 d.2.2.2.1 d.2.2.2.2.1 d.2.2.2.2.2.1) = ref02_Get_l0S F (ref02_Get_l0 F k) d.1 d.2.1 d.2.2.1 d.2.2.2.1 d.2.2.2.2.1 d.2.2.2.2.2.1)) F B w

def ref02_Get_told (F : Nat) : ToldF := ⟨100, 4, [.row .u8 1 (.slot 0) false, .slot 1 (.int .i64), .slot 2 (.int .i64), .slot 3 (.bool)], [.ty (.int .u64), .ty (.int .i64)], fun d => ref02_Get F d.1 d.2.1 d.2.2.1 d.2.2.2.1⟩
theorem ref02_Get_ok (F : Nat) : (ref02_Get_told F).ok Try.prog :=
  toldF_ok callable (ref02_Get_all F) (fn := Try.f100) (t := ref02_Get_told F) (anns := [(0, ref02_Get_l0_ann F)]) (by kernel_rfl) (annsOk_cons (by kernel_rfl) (fun B w => ref02_Get_l0_ok F B w) (annsOk_nil _ _))
    (fun d => (by kernel_rfl : evBody Try.prog (calT Try.prog (ref02_Get_tab F) _) (qcalT (ref02_Get_tab F) _) (annOf [(0, ref02_Get_l0_ann F)]) 100 (bldS 4 (ref02_Get_told F).ins d).tmps (bldS 4 (ref02_Get_told F).ins d).heap (endO (ref02_Get_told F).os) = ref02_Get F d.1 d.2.1 d.2.2.1 d.2.2.2.1))

def ref02_power_tab (F : Nat) : List ToldF := []
theorem ref02_power_all (F : Nat) : AllOk Try.prog (ref02_power_tab F) := trivial

abbrev ref02_power_l0_ins : List Go.AE.Item := [.slot 0 (.int .i64), .slot 3 (.int .u64), .slot 4 (.int .i64)]
abbrev ref02_power_l0_outs : List Go.AE.Item := [.slot 3 (.int .u64)]
def ref02_power_l0_ann (F : Nat) {ρ : Type} : Ann ρ := annS 13 ref02_power_l0_ins ref02_power_l0_outs fun d => ref02_power_l0 F F d.1 d.2.1 d.2.2.1
theorem ref02_power_l0_ok (F : Nat) {ρ : Type} (B : Base) (w : World) : AnnAt (ρ := ρ) Try.prog false B w (.block 0 (.loop (loopAt (bodyOf Try.f118) 0))) (ref02_power_l0_ann F) :=
  toldS_ok callable (ref02_power_all F) (ins := ref02_power_l0_ins) (outs := ref02_power_l0_outs) (anns := []) (L := fun k d => ref02_power_l0 F k d.1 d.2.1 d.2.2.1) (annsOk_nil _ _) (fun d => rfl)
    (fun k d => (by kernel_rfl : evCode Try.prog (calT Try.prog (ref02_power_tab F) _) (qcalT (ref02_power_tab F) _) (annOf []) (loopAt (bodyOf Try.f118) 0) (bldS 13 ref02_power_l0_ins d) (kS 13 ref02_power_l0_ins ref02_power_l0_outs 0 fun d => ref02_power_l0 F k d.1 d.2.1 d.2.2.1) = ref02_power_l0S F (ref02_power_l0 F k) d.1 d.2.1 d.2.2.1)) F B w

def ref02_power_told (F : Nat) : ToldF := ⟨118, 1, [.slot 0 (.int .i64)], [.ty (.int .u64)], fun d => ref02_power F d.1⟩
theorem ref02_power_ok (F : Nat) : (ref02_power_told F).ok Try.prog :=
  toldF_ok callable (ref02_power_all F) (fn := Try.f118) (t := ref02_power_told F) (anns := [(0, ref02_power_l0_ann F)]) (by kernel_rfl) (annsOk_cons (by kernel_rfl) (fun B w => ref02_power_l0_ok F B w) (annsOk_nil _ _))
    (fun d => (by kernel_rfl : evBody Try.prog (calT Try.prog (ref02_power_tab F) _) (qcalT (ref02_power_tab F) _) (annOf [(0, ref02_power_l0_ann F)]) 118 (bldS 1 (ref02_power_told F).ins d).tmps (bldS 1 (ref02_power_told F).ins d).heap (endO (ref02_power_told F).os) = ref02_power F d.1))

def ref02_Set_tab (F : Nat) : List ToldF := [ref02_bit_told F, ref02_Get_told F, ref02_power_told F]
theorem ref02_Set_all (F : Nat) : AllOk Try.prog (ref02_Set_tab F) := ⟨ref02_bit_ok F, ⟨ref02_Get_ok F, ⟨ref02_power_ok F, trivial⟩⟩⟩

abbrev ref02_Set_l0_ins : List Go.AE.Item := [.slot 1 (.int .i64), .slot 2 (.int .i64), .slot 3 (.bool), .slot 4 (.int .u64), .row .u8 1 (.slot 14) true, .slot 15 (.int .i64)]
abbrev ref02_Set_l0_outs : List Go.AE.Item := [.row .u8 1 (.slot 14) true]
def ref02_Set_l0_ann (F : Nat) {ρ : Type} : Ann ρ := annS 91 ref02_Set_l0_ins ref02_Set_l0_outs fun d => ref02_Set_l0 F F d.1 d.2.1 d.2.2.1 d.2.2.2.1 d.2.2.2.2.1 d.2.2.2.2.2.1
theorem ref02_Set_l0_ok (F : Nat) {ρ : Type} (B : Base) (w : World) : AnnAt (ρ := ρ) Try.prog false B w (.block 0 (.loop (loopAt (bodyOf Try.f85) 0))) (ref02_Set_l0_ann F) :=
  toldS_ok callable (ref02_Set_all F) (ins := ref02_Set_l0_ins) (outs := ref02_Set_l0_outs) (anns := []) (L := fun k d => ref02_Set_l0 F k d.1 d.2.1 d.2.2.1 d.2.2.2.1 d.2.2.2.2.1 d.2.2.2.2.2.1) (annsOk_nil _ _) (fun d => rfl)
    (fun k d => (by kernel_rfl : evCode Try.prog (calT Try.prog (ref02_Set_tab F) _) (qcalT (ref02_Set_tab F) _) (annOf []) (loopAt (bodyOf Try.f85) 0) (bldS 91 ref02_Set_l0_ins d) (kS 91 ref02_Set_l0_ins ref02_Set_l0_outs 0 fun d => ref02_Set_l0 F k d.1 d.2.1 d.2.2.1 d.2.2.2.1 d.2.2.2.2.1 d.2.2.2.2.2.1) = ref02_Set_l0S F (ref02_Set_l0 F k) d.1 d.2.1 d.2.2.1 d.2.2.2.1 d.2.2.2.2.1 d.2.2.2.2.2.1)) F B w

def ref02_Set_told (F : Nat) : ToldF := ⟨85, 5, [.row .u8 1 (.slot 0) false, .slot 1 (.int .i64), .slot 2 (.int .i64), .slot 3 (.bool), .slot 4 (.int .u64)], [.row .u8 1, .ty (.int .i64)], fun d => ref02_Set F d.1 d.2.1 d.2.2.1 d.2.2.2.1 d.2.2.2.2.1⟩
theorem ref02_Set_ok (F : Nat) : (ref02_Set_told F).ok Try.prog :=
  toldF_ok callable (ref02_Set_all F) (fn := Try.f85) (t := ref02_Set_told F) (anns := [(0, ref02_Set_l0_ann F)]) (by kernel_rfl) (annsOk_cons (by kernel_rfl) (fun B w => ref02_Set_l0_ok F B w) (annsOk_nil _ _))
    (fun d => (by kernel_rfl : evBody Try.prog (calT Try.prog (ref02_Set_tab F) _) (qcalT (ref02_Set_tab F) _) (annOf [(0, ref02_Set_l0_ann F)]) 85 (bldS 5 (ref02_Set_told F).ins d).tmps (bldS 5 (ref02_Set_told F).ins d).heap (endO (ref02_Set_told F).os) = ref02_Set F d.1 d.2.1 d.2.2.1 d.2.2.2.1 d.2.2.2.2.1))

def ref02_Top_tab (F : Nat) : List ToldF := [ref02_Get_told F]
theorem ref02_Top_all (F : Nat) : AllOk Try.prog (ref02_Top_tab F) := ⟨ref02_Get_ok F, trivial⟩

def ref02_Top_told (F : Nat) : ToldF := ⟨61, 3, [.row .u8 1 (.slot 0) false, .slot 1 (.int .i64), .slot 2 (.int .i64)], [.ty (.int .i64)], fun d => ref02_Top F d.1 d.2.1 d.2.2.1⟩
theorem ref02_Top_ok (F : Nat) : (ref02_Top_told F).ok Try.prog :=
  toldF_ok callable (ref02_Top_all F) (fn := Try.f61) (t := ref02_Top_told F) (anns := []) (by kernel_rfl) (annsOk_nil _ _)
    (fun d => (by kernel_rfl : evBody Try.prog (calT Try.prog (ref02_Top_tab F) _) (qcalT (ref02_Top_tab F) _) (annOf []) 61 (bldS 3 (ref02_Top_told F).ins d).tmps (bldS 3 (ref02_Top_told F).ins d).heap (endO (ref02_Top_told F).os) = ref02_Top F d.1 d.2.1 d.2.2.1))

def ref10_Which_tab (F : Nat) : List ToldF := [ref02_Top_told F]
theorem ref10_Which_all (F : Nat) : AllOk Try.prog (ref10_Which_tab F) := ⟨ref02_Top_ok F, trivial⟩

abbrev ref10_Which_l0_ins : List Go.AE.Item := [.row .u8 1 (.slot 0) false, .segs [.hole (.is .i64 16)] (.slot 2) true, .ptr 2 1 16, .segs [.hole (.is .i64 16)] (.slot 3) true, .ptr 3 2 16, .slot 4 (.int .i64)]
abbrev ref10_Which_l0_outs : List Go.AE.Item := [.segs [.hole (.is .i64 16)] (.slot 2) true, .ptr 2 0 16, .segs [.hole (.is .i64 16)] (.slot 3) true, .ptr 3 1 16]
def ref10_Which_l0_ann (F : Nat) {ρ : Type} : Ann ρ := annS 30 ref10_Which_l0_ins ref10_Which_l0_outs fun d => ref10_Which_l0 F F d.1 d.2.1 d.2.2.1 d.2.2.2.1
theorem ref10_Which_l0_ok (F : Nat) {ρ : Type} (B : Base) (w : World) : AnnAt (ρ := ρ) Try.prog false B w (.block 0 (.loop (loopAt (bodyOf Try.f114) 0))) (ref10_Which_l0_ann F) :=
  toldS_ok callable (ref10_Which_all F) (ins := ref10_Which_l0_ins) (outs := ref10_Which_l0_outs) (anns := []) (L := fun k d => ref10_Which_l0 F k d.1 d.2.1 d.2.2.1 d.2.2.2.1) (annsOk_nil _ _) (fun d => rfl)
    (fun k d => (by kernel_rfl : evCode Try.prog (calT Try.prog (ref10_Which_tab F) _) (qcalT (ref10_Which_tab F) _) (annOf []) (loopAt (bodyOf Try.f114) 0) (bldS 30 ref10_Which_l0_ins d) (kS 30 ref10_Which_l0_ins ref10_Which_l0_outs 0 fun d => ref10_Which_l0 F k d.1 d.2.1 d.2.2.1 d.2.2.2.1) = ref10_Which_l0S F (ref10_Which_l0 F k) d.1 d.2.1 d.2.2.1 d.2.2.2.1)) F B w

def ref10_Which_told (F : Nat) : ToldF := ⟨114, 1, [.row .u8 1 (.slot 0) false], [.ty (.is .i64 16)], fun d => ref10_Which F d.1⟩
theorem ref10_Which_ok (F : Nat) : (ref10_Which_told F).ok Try.prog :=
  toldF_ok callable (ref10_Which_all F) (fn := Try.f114) (t := ref10_Which_told F) (anns := [(0, ref10_Which_l0_ann F)]) (by kernel_rfl) (annsOk_cons (by kernel_rfl) (fun B w => ref10_Which_l0_ok F B w) (annsOk_nil _ _))
    (fun d => (by kernel_rfl : evBody Try.prog (calT Try.prog (ref10_Which_tab F) _) (qcalT (ref10_Which_tab F) _) (annOf [(0, ref10_Which_l0_ann F)]) 114 (bldS 1 (ref10_Which_told F).ins d).tmps (bldS 1 (ref10_Which_told F).ins d).heap (endO (ref10_Which_told F).os) = ref10_Which F d.1))

def ref10_Parts_tab (F : Nat) : List ToldF := [ref02_Top_told F, ref10_Which_told F]
theorem ref10_Parts_all (F : Nat) : AllOk Try.prog (ref10_Parts_tab F) := ⟨ref02_Top_ok F, ⟨ref10_Which_ok F, trivial⟩⟩

abbrev ref10_Parts_l0_ins : List Go.AE.Item := [.row .u8 1 (.slot 0) false, .segs [.const (.bool (some false) false), .const (.bool (some false) false), .hole (.is .i64 3), .hole (.is .i64 3), .hole (.is .i64 2), .hole (.is .i64 16)] (.slot 2) true, .ptr 2 1 26, .segs [.hole (.bool), .hole (.bool), .hole (.is .i64 3), .hole (.is .i64 3), .hole (.is .i64 2), .hole (.is .i64 16)] (.slot 4) true, .ptr 4 2 26, .slot 5 (.int .i64)]
abbrev ref10_Parts_l0_outs : List Go.AE.Item := [.row .u8 1 (.slot 0) false, .segs [.const (.bool (some false) false), .const (.bool (some false) false), .hole (.is .i64 3), .hole (.is .i64 3), .hole (.is .i64 2), .hole (.is .i64 16)] (.slot 2) true, .ptr 2 1 26, .segs [.hole (.bool), .hole (.bool), .hole (.is .i64 3), .hole (.is .i64 3), .hole (.is .i64 2), .hole (.is .i64 16)] (.slot 4) true, .ptr 4 2 26]
def ref10_Parts_l0_ann (F : Nat) {ρ : Type} : Ann ρ := annS 78 ref10_Parts_l0_ins ref10_Parts_l0_outs fun d => ref10_Parts_l0 F F d.1 d.2.1 d.2.2.1 d.2.2.2.1 d.2.2.2.2.1 d.2.2.2.2.2.1 d.2.2.2.2.2.2.1 d.2.2.2.2.2.2.2.1 d.2.2.2.2.2.2.2.2.1 d.2.2.2.2.2.2.2.2.2.1 d.2.2.2.2.2.2.2.2.2.2.1 d.2.2.2.2.2.2.2.2.2.2.2.1
theorem ref10_Parts_l0_ok (F : Nat) {ρ : Type} (B : Base) (w : World) : AnnAt (ρ := ρ) Try.prog false B w (.block 0 (.loop (loopAt (bodyOf Try.f74) 0))) (ref10_Parts_l0_ann F) :=
  toldS_ok callable (ref10_Parts_all F) (ins := ref10_Parts_l0_ins) (outs := ref10_Parts_l0_outs) (anns := []) (L := fun k d => ref10_Parts_l0 F k d.1 d.2.1 d.2.2.1 d.2.2.2.1 d.2.2.2.2.1 d.2.2.2.2.2.1 d.2.2.2.2.2.2.1 d.2.2.2.2.2.2.2.1 d.2.2.2.2.2.2.2.2.1 d.2.2.2.2.2.2.2.2.2.1 d.2.2.2.2.2.2.2.2.2.2.1 d.2.2.2.2.2.2.2.2.2.2.2.1) (annsOk_nil _ _) (fun d => rfl)
    (fun k d => (by kernel_rfl : evCode Try.prog (calT Try.prog (ref10_Parts_tab F) _) (qcalT (ref10_Parts_tab F) _) (annOf []) (loopAt (bodyOf Try.f74) 0) (bldS 78 ref10_Parts_l0_ins d) (kS 78 ref10_Parts_l0_ins ref10_Parts_l0_outs 0 fun d => ref10_Parts_l0 F k d.1 d.2.1 d.2.2.1 d.2.2.2.1 d.2.2.2.2.1 d.2.2.2.2.2.1 d.2.2.2.2.2.2.1 d.2.2.2.2.2.2.2.1 d.2.2.2.2.2.2.2.2.1 d.2.2.2.2.2.2.2.2.2.1 d.2.2.2.2.2.2.2.2.2.2.1 d.2.2.2.2.2.2.2.2.2.2.2.1) = ref10_Parts_l0S F (ref10_Parts_l0 F k) d.1 d.2.1 d.2.2.1 d.2.2.2.1 d.2.2.2.2.1 d.2.2.2.2.2.1 d.2.2.2.2.2.2.1 d.2.2.2.2.2.2.2.1 d.2.2.2.2.2.2.2.2.1 d.2.2.2.2.2.2.2.2.2.1 d.2.2.2.2.2.2.2.2.2.2.1 d.2.2.2.2.2.2.2.2.2.2.2.1)) F B w

def ref10_Parts_told (F : Nat) : ToldF := ⟨74, 1, [.row .u8 1 (.slot 0) false], [.ty (.agg [.bool, .bool, .is .i64 3, .is .i64 3, .is .i64 2, .is .i64 16]), .ty (.int .i64)], fun d => ref10_Parts F d.1⟩
theorem ref10_Parts_ok (F : Nat) : (ref10_Parts_told F).ok Try.prog :=
  toldF_ok callable (ref10_Parts_all F) (fn := Try.f74) (t := ref10_Parts_told F) (anns := [(0, ref10_Parts_l0_ann F)]) (by kernel_rfl) (annsOk_cons (by kernel_rfl) (fun B w => ref10_Parts_l0_ok F B w) (annsOk_nil _ _))
    (fun d => (by kernel_rfl : evBody Try.prog (calT Try.prog (ref10_Parts_tab F) _) (qcalT (ref10_Parts_tab F) _) (annOf [(0, ref10_Parts_l0_ann F)]) 74 (bldS 1 (ref10_Parts_told F).ins d).tmps (bldS 1 (ref10_Parts_told F).ins d).heap (endO (ref10_Parts_told F).os) = ref10_Parts F d.1))

def ref11_parts_tab (F : Nat) : List ToldF := [ref02_Set_told F, ref10_Parts_told F]
theorem ref11_parts_all (F : Nat) : AllOk Try.prog (ref11_parts_tab F) := ⟨ref02_Set_ok F, ⟨ref10_Parts_ok F, trivial⟩⟩

def ref11_parts_told (F : Nat) : ToldF := ⟨62, 2, [.row .u8 1 (.slot 0) false, .slot 1 (.bool)], [.ty (.agg [.bool, .bool, .is .i64 3, .is .i64 3, .is .i64 2, .is .i64 16])], fun d => ref11_parts F d.1 d.2.1⟩
theorem ref11_parts_ok (F : Nat) : (ref11_parts_told F).ok Try.prog :=
  toldF_ok callable (ref11_parts_all F) (fn := Try.f62) (t := ref11_parts_told F) (anns := []) (by kernel_rfl) (annsOk_nil _ _)
    (fun d => (by kernel_rfl : evBody Try.prog (calT Try.prog (ref11_parts_tab F) _) (qcalT (ref11_parts_tab F) _) (annOf []) 62 (bldS 2 (ref11_parts_told F).ins d).tmps (bldS 2 (ref11_parts_told F).ins d).heap (endO (ref11_parts_told F).os) = ref11_parts F d.1 d.2.1))

def ref10_In_tab (F : Nat) : List ToldF := []
theorem ref10_In_all (F : Nat) : AllOk Try.prog (ref10_In_tab F) := trivial

def ref10_In_told (F : Nat) : ToldF := ⟨71, 3, [.slot 0 (.int .i64), .slot 1 (.int .i64), .slot 2 (.int .i64)], [.ty (.bool)], fun d => ref10_In F d.1 d.2.1 d.2.2.1⟩
theorem ref10_In_ok (F : Nat) : (ref10_In_told F).ok Try.prog :=
  toldF_ok callable (ref10_In_all F) (fn := Try.f71) (t := ref10_In_told F) (anns := []) (by kernel_rfl) (annsOk_nil _ _)
    (fun d => (by kernel_rfl : evBody Try.prog (calT Try.prog (ref10_In_tab F) _) (qcalT (ref10_In_tab F) _) (annOf []) 71 (bldS 3 (ref10_In_told F).ins d).tmps (bldS 3 (ref10_In_told F).ins d).heap (endO (ref10_In_told F).os) = ref10_In F d.1 d.2.1 d.2.2.1))

def ref03_power_tab (F : Nat) : List ToldF := []
theorem ref03_power_all (F : Nat) : AllOk Try.prog (ref03_power_tab F) := trivial

abbrev ref03_power_l0_ins : List Go.AE.Item := [.slot 0 (.int .i64), .slot 3 (.int .i64), .slot 4 (.int .i64)]
abbrev ref03_power_l0_outs : List Go.AE.Item := [.slot 3 (.int .i64)]
def ref03_power_l0_ann (F : Nat) {ρ : Type} : Ann ρ := annS 13 ref03_power_l0_ins ref03_power_l0_outs fun d => ref03_power_l0 F F d.1 d.2.1 d.2.2.1
theorem ref03_power_l0_ok (F : Nat) {ρ : Type} (B : Base) (w : World) : AnnAt (ρ := ρ) Try.prog false B w (.block 0 (.loop (loopAt (bodyOf Try.f95) 0))) (ref03_power_l0_ann F) :=
  toldS_ok callable (ref03_power_all F) (ins := ref03_power_l0_ins) (outs := ref03_power_l0_outs) (anns := []) (L := fun k d => ref03_power_l0 F k d.1 d.2.1 d.2.2.1) (annsOk_nil _ _) (fun d => rfl)
    (fun k d => (by kernel_rfl : evCode Try.prog (calT Try.prog (ref03_power_tab F) _) (qcalT (ref03_power_tab F) _) (annOf []) (loopAt (bodyOf Try.f95) 0) (bldS 13 ref03_power_l0_ins d) (kS 13 ref03_power_l0_ins ref03_power_l0_outs 0 fun d => ref03_power_l0 F k d.1 d.2.1 d.2.2.1) = ref03_power_l0S F (ref03_power_l0 F k) d.1 d.2.1 d.2.2.1)) F B w

def ref03_power_told (F : Nat) : ToldF := ⟨95, 1, [.slot 0 (.int .i64)], [.ty (.int .i64)], fun d => ref03_power F d.1⟩
theorem ref03_power_ok (F : Nat) : (ref03_power_told F).ok Try.prog :=
  toldF_ok callable (ref03_power_all F) (fn := Try.f95) (t := ref03_power_told F) (anns := [(0, ref03_power_l0_ann F)]) (by kernel_rfl) (annsOk_cons (by kernel_rfl) (fun B w => ref03_power_l0_ok F B w) (annsOk_nil _ _))
    (fun d => (by kernel_rfl : evBody Try.prog (calT Try.prog (ref03_power_tab F) _) (qcalT (ref03_power_tab F) _) (annOf [(0, ref03_power_l0_ann F)]) 95 (bldS 1 (ref03_power_told F).ins d).tmps (bldS 1 (ref03_power_told F).ins d).heap (endO (ref03_power_told F).os) = ref03_power F d.1))

def ref03_mod_tab (F : Nat) : List ToldF := []
theorem ref03_mod_all (F : Nat) : AllOk Try.prog (ref03_mod_tab F) := trivial

def ref03_mod_told (F : Nat) : ToldF := ⟨94, 2, [.slot 0 (.int .i64), .slot 1 (.int .i64)], [.ty (.int .i64)], fun d => ref03_mod F d.1 d.2.1⟩
theorem ref03_mod_ok (F : Nat) : (ref03_mod_told F).ok Try.prog :=
  toldF_ok callable (ref03_mod_all F) (fn := Try.f94) (t := ref03_mod_told F) (anns := []) (by kernel_rfl) (annsOk_nil _ _)
    (fun d => (by kernel_rfl : evBody Try.prog (calT Try.prog (ref03_mod_tab F) _) (qcalT (ref03_mod_tab F) _) (annOf []) 94 (bldS 2 (ref03_mod_told F).ins d).tmps (bldS 2 (ref03_mod_told F).ins d).heap (endO (ref03_mod_told F).os) = ref03_mod F d.1 d.2.1))

def ref03_Wide_tab (F : Nat) : List ToldF := [ref03_power_told F, ref03_mod_told F]
theorem ref03_Wide_all (F : Nat) : AllOk Try.prog (ref03_Wide_tab F) := ⟨ref03_power_ok F, ⟨ref03_mod_ok F, trivial⟩⟩

abbrev ref03_Wide_l0_ins : List Go.AE.Item := [.slot 0 (.int .i64), .slot 1 (.int .i64), .slot 5 (.int .i64), .slot 6 (.int .i64)]
abbrev ref03_Wide_l0_outs : List Go.AE.Item := [.slot 5 (.int .i64)]
def ref03_Wide_l0_ann (F : Nat) {ρ : Type} : Ann ρ := annS 35 ref03_Wide_l0_ins ref03_Wide_l0_outs fun d => ref03_Wide_l0 F F d.1 d.2.1 d.2.2.1 d.2.2.2.1
theorem ref03_Wide_l0_ok (F : Nat) {ρ : Type} (B : Base) (w : World) : AnnAt (ρ := ρ) Try.prog false B w (.block 0 (.loop (loopAt (bodyOf Try.f45) 0))) (ref03_Wide_l0_ann F) :=
  toldS_ok callable (ref03_Wide_all F) (ins := ref03_Wide_l0_ins) (outs := ref03_Wide_l0_outs) (anns := []) (L := fun k d => ref03_Wide_l0 F k d.1 d.2.1 d.2.2.1 d.2.2.2.1) (annsOk_nil _ _) (fun d => rfl)
    (fun k d => (by kernel_rfl : evCode Try.prog (calT Try.prog (ref03_Wide_tab F) _) (qcalT (ref03_Wide_tab F) _) (annOf []) (loopAt (bodyOf Try.f45) 0) (bldS 35 ref03_Wide_l0_ins d) (kS 35 ref03_Wide_l0_ins ref03_Wide_l0_outs 0 fun d => ref03_Wide_l0 F k d.1 d.2.1 d.2.2.1 d.2.2.2.1) = ref03_Wide_l0S F (ref03_Wide_l0 F k) d.1 d.2.1 d.2.2.1 d.2.2.2.1)) F B w

def ref03_Wide_told (F : Nat) : ToldF := ⟨45, 2, [.slot 0 (.int .i64), .slot 1 (.int .i64)], [.ty (.int .i64)], fun d => ref03_Wide F d.1 d.2.1⟩
theorem ref03_Wide_ok (F : Nat) : (ref03_Wide_told F).ok Try.prog :=
  toldF_ok callable (ref03_Wide_all F) (fn := Try.f45) (t := ref03_Wide_told F) (anns := [(0, ref03_Wide_l0_ann F)]) (by kernel_rfl) (annsOk_cons (by kernel_rfl) (fun B w => ref03_Wide_l0_ok F B w) (annsOk_nil _ _))
    (fun d => (by kernel_rfl : evBody Try.prog (calT Try.prog (ref03_Wide_tab F) _) (qcalT (ref03_Wide_tab F) _) (annOf [(0, ref03_Wide_l0_ann F)]) 45 (bldS 2 (ref03_Wide_told F).ins d).tmps (bldS 2 (ref03_Wide_told F).ins d).heap (endO (ref03_Wide_told F).os) = ref03_Wide F d.1 d.2.1))

def ref10_mod_tab (F : Nat) : List ToldF := []
theorem ref10_mod_all (F : Nat) : AllOk Try.prog (ref10_mod_tab F) := trivial

def ref10_mod_told (F : Nat) : ToldF := ⟨111, 2, [.slot 0 (.int .i64), .slot 1 (.int .i64)], [.ty (.int .i64)], fun d => ref10_mod F d.1 d.2.1⟩
theorem ref10_mod_ok (F : Nat) : (ref10_mod_told F).ok Try.prog :=
  toldF_ok callable (ref10_mod_all F) (fn := Try.f111) (t := ref10_mod_told F) (anns := []) (by kernel_rfl) (annsOk_nil _ _)
    (fun d => (by kernel_rfl : evBody Try.prog (calT Try.prog (ref10_mod_tab F) _) (qcalT (ref10_mod_tab F) _) (annOf []) 111 (bldS 2 (ref10_mod_told F).ins d).tmps (bldS 2 (ref10_mod_told F).ins d).heap (endO (ref10_mod_told F).os) = ref10_mod F d.1 d.2.1))

def ref10_Bases_tab (F : Nat) : List ToldF := [ref10_In_told F, ref03_Wide_told F, ref10_mod_told F]
theorem ref10_Bases_all (F : Nat) : AllOk Try.prog (ref10_Bases_tab F) := ⟨ref10_In_ok F, ⟨ref03_Wide_ok F, ⟨ref10_mod_ok F, trivial⟩⟩⟩

abbrev ref10_Bases_l0_ins : List Go.AE.Item := [.segs [.hole (.bool), .hole (.bool), .hole (.is .i64 3), .hole (.is .i64 3), .hole (.is .i64 2), .hole (.is .i64 16)] (.slot 1) true, .ptr 1 0 26, .segs [.hole (.is .i64 8)] (.slot 2) true, .ptr 2 1 8, .segs [.hole (.is .i64 8)] (.slot 4) true, .ptr 4 2 8, .slot 5 (.int .i64), .slot 6 (.int .i64)]
abbrev ref10_Bases_l0_outs : List Go.AE.Item := [.segs [.hole (.is .i64 8)] (.slot 2) true, .ptr 2 0 8, .segs [.hole (.is .i64 8)] (.slot 4) true, .ptr 4 1 8, .slot 5 (.int .i64)]
def ref10_Bases_l0_ann (F : Nat) {ρ : Type} : Ann ρ := annS 62 ref10_Bases_l0_ins ref10_Bases_l0_outs fun d => ref10_Bases_l0 F F d.1 d.2.1 d.2.2.1 d.2.2.2.1 d.2.2.2.2.1 d.2.2.2.2.2.1 d.2.2.2.2.2.2.1 d.2.2.2.2.2.2.2.1 d.2.2.2.2.2.2.2.2.1 d.2.2.2.2.2.2.2.2.2.1
theorem ref10_Bases_l0_ok (F : Nat) {ρ : Type} (B : Base) (w : World) : AnnAt (ρ := ρ) Try.prog false B w (.block 0 (.loop (loopAt (bodyOf Try.f64) 0))) (ref10_Bases_l0_ann F) :=
  toldS_ok callable (ref10_Bases_all F) (ins := ref10_Bases_l0_ins) (outs := ref10_Bases_l0_outs) (anns := []) (L := fun k d => ref10_Bases_l0 F k d.1 d.2.1 d.2.2.1 d.2.2.2.1 d.2.2.2.2.1 d.2.2.2.2.2.1 d.2.2.2.2.2.2.1 d.2.2.2.2.2.2.2.1 d.2.2.2.2.2.2.2.2.1 d.2.2.2.2.2.2.2.2.2.1) (annsOk_nil _ _) (fun d => rfl)
    (fun k d => (by kernel_rfl : evCode Try.prog (calT Try.prog (ref10_Bases_tab F) _) (qcalT (ref10_Bases_tab F) _) (annOf []) (loopAt (bodyOf Try.f64) 0) (bldS 62 ref10_Bases_l0_ins d) (kS 62 ref10_Bases_l0_ins ref10_Bases_l0_outs 0 fun d => ref10_Bases_l0 F k d.1 d.2.1 d.2.2.1 d.2.2.2.1 d.2.2.2.2.1 d.2.2.2.2.2.1 d.2.2.2.2.2.2.1 d.2.2.2.2.2.2.2.1 d.2.2.2.2.2.2.2.2.1 d.2.2.2.2.2.2.2.2.2.1) = ref10_Bases_l0S F (ref10_Bases_l0 F k) d.1 d.2.1 d.2.2.1 d.2.2.2.1 d.2.2.2.2.1 d.2.2.2.2.2.1 d.2.2.2.2.2.2.1 d.2.2.2.2.2.2.2.1 d.2.2.2.2.2.2.2.2.1 d.2.2.2.2.2.2.2.2.2.1)) F B w

def ref10_Bases_told (F : Nat) : ToldF := ⟨64, 1, [.slot 0 (.agg [.bool, .bool, .is .i64 3, .is .i64 3, .is .i64 2, .is .i64 16])], [.ty (.is .i64 8), .ty (.int .i64)], fun d => ref10_Bases F d.1⟩
theorem ref10_Bases_ok (F : Nat) : (ref10_Bases_told F).ok Try.prog :=
  toldF_ok callable (ref10_Bases_all F) (fn := Try.f64) (t := ref10_Bases_told F) (anns := [(0, ref10_Bases_l0_ann F)]) (by kernel_rfl) (annsOk_cons (by kernel_rfl) (fun B w => ref10_Bases_l0_ok F B w) (annsOk_nil _ _))
    (fun d => (by kernel_rfl : evBody Try.prog (calT Try.prog (ref10_Bases_tab F) _) (qcalT (ref10_Bases_tab F) _) (annOf [(0, ref10_Bases_l0_ann F)]) 64 (bldS 1 (ref10_Bases_told F).ins d).tmps (bldS 1 (ref10_Bases_told F).ins d).heap (endO (ref10_Bases_told F).os) = ref10_Bases F d.1))

def ref11_Kind_tab (F : Nat) : List ToldF := [ref11_parts_told F, ref10_Bases_told F]
theorem ref11_Kind_all (F : Nat) : AllOk Try.prog (ref11_Kind_tab F) := ⟨ref11_parts_ok F, ⟨ref10_Bases_ok F, trivial⟩⟩

def ref11_Kind_told (F : Nat) : ToldF := ⟨23, 2, [.row .u8 1 (.slot 0) false, .slot 1 (.bool)], [.ty (.int .i64)], fun d => ref11_Kind F d.1 d.2.1⟩
theorem ref11_Kind_ok (F : Nat) : (ref11_Kind_told F).ok Try.prog :=
  toldF_ok callable (ref11_Kind_all F) (fn := Try.f23) (t := ref11_Kind_told F) (anns := []) (by kernel_rfl) (annsOk_nil _ _)
    (fun d => (by kernel_rfl : evBody Try.prog (calT Try.prog (ref11_Kind_tab F) _) (qcalT (ref11_Kind_tab F) _) (annOf []) 23 (bldS 2 (ref11_Kind_told F).ins d).tmps (bldS 2 (ref11_Kind_told F).ins d).heap (endO (ref11_Kind_told F).os) = ref11_Kind F d.1 d.2.1))

def ref11_run_tab (F : Nat) : List ToldF := [ref02_Top_told F]
theorem ref11_run_all (F : Nat) : AllOk Try.prog (ref11_run_tab F) := ⟨ref02_Top_ok F, trivial⟩

def ref11_run_told (F : Nat) : ToldF := ⟨75, 3, [.row .u8 1 (.slot 0) false, .slot 1 (.int .i64), .slot 2 (.int .i64)], [.ty (.int .i64)], fun d => ref11_run F d.1 d.2.1 d.2.2.1⟩
theorem ref11_run_ok (F : Nat) : (ref11_run_told F).ok Try.prog :=
  toldF_ok callable (ref11_run_all F) (fn := Try.f75) (t := ref11_run_told F) (anns := []) (by kernel_rfl) (annsOk_nil _ _)
    (fun d => (by kernel_rfl : evBody Try.prog (calT Try.prog (ref11_run_tab F) _) (qcalT (ref11_run_tab F) _) (annOf []) 75 (bldS 3 (ref11_run_told F).ins d).tmps (bldS 3 (ref11_run_told F).ins d).heap (endO (ref11_run_told F).os) = ref11_run F d.1 d.2.1 d.2.2.1))

def ref11_pick_tab (F : Nat) : List ToldF := [ref02_Top_told F]
theorem ref11_pick_all (F : Nat) : AllOk Try.prog (ref11_pick_tab F) := ⟨ref02_Top_ok F, trivial⟩

abbrev ref11_pick_l0_ins : List Go.AE.Item := [.row .u8 1 (.slot 0) false, .row .i64 1 (.slot 1) false, .slot 5 (.int .i64), .slot 6 (.int .i64)]
abbrev ref11_pick_l0_outs : List Go.AE.Item := [.slot 5 (.int .i64)]
def ref11_pick_l0_ann (F : Nat) {ρ : Type} : Ann ρ := annS 23 ref11_pick_l0_ins ref11_pick_l0_outs fun d => ref11_pick_l0 F F d.1 d.2.1 d.2.2.1 d.2.2.2.1
theorem ref11_pick_l0_ok (F : Nat) {ρ : Type} (B : Base) (w : World) : AnnAt (ρ := ρ) Try.prog false B w (.block 0 (.loop (loopAt (bodyOf Try.f108) 0))) (ref11_pick_l0_ann F) :=
  toldS_ok callable (ref11_pick_all F) (ins := ref11_pick_l0_ins) (outs := ref11_pick_l0_outs) (anns := []) (L := fun k d => ref11_pick_l0 F k d.1 d.2.1 d.2.2.1 d.2.2.2.1) (annsOk_nil _ _) (fun d => rfl)
    (fun k d => (by kernel_rfl : evCode Try.prog (calT Try.prog (ref11_pick_tab F) _) (qcalT (ref11_pick_tab F) _) (annOf []) (loopAt (bodyOf Try.f108) 0) (bldS 23 ref11_pick_l0_ins d) (kS 23 ref11_pick_l0_ins ref11_pick_l0_outs 0 fun d => ref11_pick_l0 F k d.1 d.2.1 d.2.2.1 d.2.2.2.1) = ref11_pick_l0S F (ref11_pick_l0 F k) d.1 d.2.1 d.2.2.1 d.2.2.2.1)) F B w

def ref11_pick_told (F : Nat) : ToldF := ⟨108, 2, [.row .u8 1 (.slot 0) false, .row .i64 1 (.slot 1) false], [.ty (.int .i64)], fun d => ref11_pick F d.1 d.2.1⟩
theorem ref11_pick_ok (F : Nat) : (ref11_pick_told F).ok Try.prog :=
  toldF_ok callable (ref11_pick_all F) (fn := Try.f108) (t := ref11_pick_told F) (anns := [(0, ref11_pick_l0_ann F)]) (by kernel_rfl) (annsOk_cons (by kernel_rfl) (fun B w => ref11_pick_l0_ok F B w) (annsOk_nil _ _))
    (fun d => (by kernel_rfl : evBody Try.prog (calT Try.prog (ref11_pick_tab F) _) (qcalT (ref11_pick_tab F) _) (annOf [(0, ref11_pick_l0_ann F)]) 108 (bldS 2 (ref11_pick_told F).ins d).tmps (bldS 2 (ref11_pick_told F).ins d).heap (endO (ref11_pick_told F).os) = ref11_pick F d.1 d.2.1))

def ref11_Wide_tab (F : Nat) : List ToldF := [ref03_Wide_told F]
theorem ref11_Wide_all (F : Nat) : AllOk Try.prog (ref11_Wide_tab F) := ⟨ref03_Wide_ok F, trivial⟩

def ref11_Wide_told (F : Nat) : ToldF := ⟨31, 1, [.slot 0 (.is .i64 3)], [.ty (.is .i64 4)], fun d => ref11_Wide F d.1⟩
theorem ref11_Wide_ok (F : Nat) : (ref11_Wide_told F).ok Try.prog :=
  toldF_ok callable (ref11_Wide_all F) (fn := Try.f31) (t := ref11_Wide_told F) (anns := []) (by kernel_rfl) (annsOk_nil _ _)
    (fun d => (by kernel_rfl : evBody Try.prog (calT Try.prog (ref11_Wide_tab F) _) (qcalT (ref11_Wide_tab F) _) (annOf []) 31 (bldS 1 (ref11_Wide_told F).ins d).tmps (bldS 1 (ref11_Wide_told F).ins d).heap (endO (ref11_Wide_told F).os) = ref11_Wide F d.1))

def ref03_Mix_tab (F : Nat) : List ToldF := [ref03_mod_told F]
theorem ref03_Mix_all (F : Nat) : AllOk Try.prog (ref03_Mix_tab F) := ⟨ref03_mod_ok F, trivial⟩

def ref03_Mix_told (F : Nat) : ToldF := ⟨78, 5, [.slot 0 (.int .i64), .slot 1 (.int .i64), .slot 2 (.int .i64), .slot 3 (.int .i64), .slot 4 (.int .i64)], [.ty (.int .i64)], fun d => ref03_Mix F d.1 d.2.1 d.2.2.1 d.2.2.2.1 d.2.2.2.2.1⟩
theorem ref03_Mix_ok (F : Nat) : (ref03_Mix_told F).ok Try.prog :=
  toldF_ok callable (ref03_Mix_all F) (fn := Try.f78) (t := ref03_Mix_told F) (anns := []) (by kernel_rfl) (annsOk_nil _ _)
    (fun d => (by kernel_rfl : evBody Try.prog (calT Try.prog (ref03_Mix_tab F) _) (qcalT (ref03_Mix_tab F) _) (annOf []) 78 (bldS 5 (ref03_Mix_told F).ins d).tmps (bldS 5 (ref03_Mix_told F).ins d).heap (endO (ref03_Mix_told F).os) = ref03_Mix F d.1 d.2.1 d.2.2.1 d.2.2.2.1 d.2.2.2.2.1))

def ref03_Clamp_tab (F : Nat) : List ToldF := []
theorem ref03_Clamp_all (F : Nat) : AllOk Try.prog (ref03_Clamp_tab F) := trivial

def ref03_Clamp_told (F : Nat) : ToldF := ⟨77, 2, [.slot 0 (.int .i64), .slot 1 (.int .i64)], [.ty (.int .i64)], fun d => ref03_Clamp F d.1 d.2.1⟩
theorem ref03_Clamp_ok (F : Nat) : (ref03_Clamp_told F).ok Try.prog :=
  toldF_ok callable (ref03_Clamp_all F) (fn := Try.f77) (t := ref03_Clamp_told F) (anns := []) (by kernel_rfl) (annsOk_nil _ _)
    (fun d => (by kernel_rfl : evBody Try.prog (calT Try.prog (ref03_Clamp_tab F) _) (qcalT (ref03_Clamp_tab F) _) (annOf []) 77 (bldS 2 (ref03_Clamp_told F).ins d).tmps (bldS 2 (ref03_Clamp_told F).ins d).heap (endO (ref03_Clamp_told F).os) = ref03_Clamp F d.1 d.2.1))

def ref11_Plane_tab (F : Nat) : List ToldF := [ref03_Mix_told F, ref03_Clamp_told F]
theorem ref11_Plane_all (F : Nat) : AllOk Try.prog (ref11_Plane_tab F) := ⟨ref03_Mix_ok F, ⟨ref03_Clamp_ok F, trivial⟩⟩

abbrev ref11_Plane_l2_ins : List Go.AE.Item := [.segs [.hole (.is .i64 4)] (.slot 3) true, .ptr 3 0 4, .segs [.hole (.is .i64 4)] (.slot 4) true, .ptr 4 1 4, .segs [.hole (.is .i64 4)] (.slot 5) true, .ptr 5 2 4, .segs [.hole (.is .i64 64)] (.slot 6) true, .ptr 6 3 64, .segs [.hole (.is .i64 64)] (.slot 7) true, .ptr 7 4 64, .slot 8 (.int .i64), .slot 9 (.int .i64)]
abbrev ref11_Plane_l2_outs : List Go.AE.Item := [.segs [.hole (.is .i64 4)] (.slot 3) true, .ptr 3 0 4, .segs [.hole (.is .i64 4)] (.slot 4) true, .ptr 4 1 4, .segs [.hole (.is .i64 4)] (.slot 5) true, .ptr 5 2 4, .segs [.hole (.is .i64 64)] (.slot 6) true, .ptr 6 3 64, .segs [.hole (.is .i64 64)] (.slot 7) true, .ptr 7 4 64, .slot 8 (.int .i64)]
def ref11_Plane_l2_ann (F : Nat) {ρ : Type} : Ann ρ := annS 58 ref11_Plane_l2_ins ref11_Plane_l2_outs fun d => ref11_Plane_l2 F F d.1 d.2.1 d.2.2.1 d.2.2.2.1 d.2.2.2.2.1 d.2.2.2.2.2.1 d.2.2.2.2.2.2.1
theorem ref11_Plane_l2_ok (F : Nat) {ρ : Type} (B : Base) (w : World) : AnnAt (ρ := ρ) Try.prog false B w (.block 2 (.loop (loopAt (bodyOf Try.f30) 2))) (ref11_Plane_l2_ann F) :=
  toldS_ok callable (ref11_Plane_all F) (ins := ref11_Plane_l2_ins) (outs := ref11_Plane_l2_outs) (anns := []) (L := fun k d => ref11_Plane_l2 F k d.1 d.2.1 d.2.2.1 d.2.2.2.1 d.2.2.2.2.1 d.2.2.2.2.2.1 d.2.2.2.2.2.2.1) (annsOk_nil _ _) (fun d => rfl)
    (fun k d => (by kernel_rfl : evCode Try.prog (calT Try.prog (ref11_Plane_tab F) _) (qcalT (ref11_Plane_tab F) _) (annOf []) (loopAt (bodyOf Try.f30) 2) (bldS 58 ref11_Plane_l2_ins d) (kS 58 ref11_Plane_l2_ins ref11_Plane_l2_outs 2 fun d => ref11_Plane_l2 F k d.1 d.2.1 d.2.2.1 d.2.2.2.1 d.2.2.2.2.1 d.2.2.2.2.2.1 d.2.2.2.2.2.2.1) = ref11_Plane_l2S F (ref11_Plane_l2 F k) d.1 d.2.1 d.2.2.1 d.2.2.2.1 d.2.2.2.2.1 d.2.2.2.2.2.1 d.2.2.2.2.2.2.1)) F B w

abbrev ref11_Plane_l0_ins : List Go.AE.Item := [.segs [.hole (.is .i64 4)] (.slot 3) true, .ptr 3 0 4, .segs [.hole (.is .i64 4)] (.slot 4) true, .ptr 4 1 4, .segs [.hole (.is .i64 4)] (.slot 5) true, .ptr 5 2 4, .segs [.hole (.is .i64 64)] (.slot 6) true, .ptr 6 3 64, .segs [.hole (.is .i64 64)] (.slot 7) true, .ptr 7 4 64, .slot 8 (.int .i64)]
abbrev ref11_Plane_l0_outs : List Go.AE.Item := [.segs [.hole (.is .i64 64)] (.slot 6) true, .ptr 6 0 64, .segs [.hole (.is .i64 64)] (.slot 7) true, .ptr 7 1 64]
def ref11_Plane_l0_ann (F : Nat) {ρ : Type} : Ann ρ := annS 58 ref11_Plane_l0_ins ref11_Plane_l0_outs fun d => ref11_Plane_l0 F F d.1 d.2.1 d.2.2.1 d.2.2.2.1 d.2.2.2.2.1 d.2.2.2.2.2.1
theorem ref11_Plane_l0_ok (F : Nat) {ρ : Type} (B : Base) (w : World) : AnnAt (ρ := ρ) Try.prog false B w (.block 0 (.loop (loopAt (bodyOf Try.f30) 0))) (ref11_Plane_l0_ann F) :=
  toldS_ok callable (ref11_Plane_all F) (ins := ref11_Plane_l0_ins) (outs := ref11_Plane_l0_outs) (anns := [(2, ref11_Plane_l2_ann F)]) (L := fun k d => ref11_Plane_l0 F k d.1 d.2.1 d.2.2.1 d.2.2.2.1 d.2.2.2.2.1 d.2.2.2.2.2.1) (annsOk_cons (by kernel_rfl) (fun B w => ref11_Plane_l2_ok F B w) (annsOk_nil _ _)) (fun d => rfl)
    (fun k d => (by kernel_rfl : evCode Try.prog (calT Try.prog (ref11_Plane_tab F) _) (qcalT (ref11_Plane_tab F) _) (annOf [(2, ref11_Plane_l2_ann F)]) (loopAt (bodyOf Try.f30) 0) (bldS 58 ref11_Plane_l0_ins d) (kS 58 ref11_Plane_l0_ins ref11_Plane_l0_outs 0 fun d => ref11_Plane_l0 F k d.1 d.2.1 d.2.2.1 d.2.2.2.1 d.2.2.2.2.1 d.2.2.2.2.2.1) = ref11_Plane_l0S F (ref11_Plane_l0 F k) d.1 d.2.1 d.2.2.1 d.2.2.2.1 d.2.2.2.2.1 d.2.2.2.2.2.1)) F B w

def ref11_Plane_told (F : Nat) : ToldF := ⟨30, 3, [.slot 0 (.is .i64 4), .slot 1 (.is .i64 4), .slot 2 (.is .i64 4)], [.ty (.is .i64 64)], fun d => ref11_Plane F d.1 d.2.1 d.2.2.1⟩
theorem ref11_Plane_ok (F : Nat) : (ref11_Plane_told F).ok Try.prog :=
  toldF_ok callable (ref11_Plane_all F) (fn := Try.f30) (t := ref11_Plane_told F) (anns := [(2, ref11_Plane_l2_ann F), (0, ref11_Plane_l0_ann F)]) (by kernel_rfl) (annsOk_cons (by kernel_rfl) (fun B w => ref11_Plane_l2_ok F B w) (annsOk_cons (by kernel_rfl) (fun B w => ref11_Plane_l0_ok F B w) (annsOk_nil _ _)))
    (fun d => (by kernel_rfl : evBody Try.prog (calT Try.prog (ref11_Plane_tab F) _) (qcalT (ref11_Plane_tab F) _) (annOf [(2, ref11_Plane_l2_ann F), (0, ref11_Plane_l0_ann F)]) 30 (bldS 3 (ref11_Plane_told F).ins d).tmps (bldS 3 (ref11_Plane_told F).ins d).heap (endO (ref11_Plane_told F).os) = ref11_Plane F d.1 d.2.1 d.2.2.1))

def ref11_planar_tab (F : Nat) : List ToldF := [ref11_run_told F, ref11_pick_told F, ref11_Wide_told F, ref11_Plane_told F]
theorem ref11_planar_all (F : Nat) : AllOk Try.prog (ref11_planar_tab F) := ⟨ref11_run_ok F, ⟨ref11_pick_ok F, ⟨ref11_Wide_ok F, ⟨ref11_Plane_ok F, trivial⟩⟩⟩⟩

def ref11_planar_told (F : Nat) : ToldF := ⟨60, 1, [.row .u8 1 (.slot 0) false], [.ty (.is .i64 64)], fun d => ref11_planar F d.1⟩
theorem ref11_planar_ok (F : Nat) : (ref11_planar_told F).ok Try.prog :=
  toldF_ok callable (ref11_planar_all F) (fn := Try.f60) (t := ref11_planar_told F) (anns := []) (by kernel_rfl) (annsOk_nil _ _)
    (fun d => (by kernel_rfl : evBody Try.prog (calT Try.prog (ref11_planar_tab F) _) (qcalT (ref11_planar_tab F) _) (annOf []) 60 (bldS 1 (ref11_planar_told F).ins d).tmps (bldS 1 (ref11_planar_told F).ins d).heap (endO (ref11_planar_told F).os) = ref11_planar F d.1))

def ref10_Half_tab (F : Nat) : List ToldF := [ref10_mod_told F]
theorem ref10_Half_all (F : Nat) : AllOk Try.prog (ref10_Half_tab F) := ⟨ref10_mod_ok F, trivial⟩

def ref10_Half_told (F : Nat) : ToldF := ⟨66, 2, [.slot 0 (.bool), .slot 1 (.int .i64)], [.ty (.int .i64)], fun d => ref10_Half F d.1 d.2.1⟩
theorem ref10_Half_ok (F : Nat) : (ref10_Half_told F).ok Try.prog :=
  toldF_ok callable (ref10_Half_all F) (fn := Try.f66) (t := ref10_Half_told F) (anns := []) (by kernel_rfl) (annsOk_nil _ _)
    (fun d => (by kernel_rfl : evBody Try.prog (calT Try.prog (ref10_Half_tab F) _) (qcalT (ref10_Half_tab F) _) (annOf []) 66 (bldS 2 (ref10_Half_told F).ins d).tmps (bldS 2 (ref10_Half_told F).ins d).heap (endO (ref10_Half_told F).os) = ref10_Half F d.1 d.2.1))

def ref10_Table_tab (F : Nat) : List ToldF := [ref10_mod_told F]
theorem ref10_Table_all (F : Nat) : AllOk Try.prog (ref10_Table_tab F) := ⟨ref10_mod_ok F, trivial⟩

def ref10_Table_told (F : Nat) : ToldF := ⟨110, 1, [.slot 0 (.int .i64)], [.ty (.is .i64 4)], fun d => ref10_Table F d.1⟩
theorem ref10_Table_ok (F : Nat) : (ref10_Table_told F).ok Try.prog :=
  toldF_ok callable (ref10_Table_all F) (fn := Try.f110) (t := ref10_Table_told F) (anns := []) (by kernel_rfl) (annsOk_nil _ _)
    (fun d => (by kernel_rfl : evBody Try.prog (calT Try.prog (ref10_Table_tab F) _) (qcalT (ref10_Table_tab F) _) (annOf []) 110 (bldS 1 (ref10_Table_told F).ins d).tmps (bldS 1 (ref10_Table_told F).ins d).heap (endO (ref10_Table_told F).os) = ref10_Table F d.1))

def ref10_Add_tab (F : Nat) : List ToldF := [ref03_Clamp_told F]
theorem ref10_Add_all (F : Nat) : AllOk Try.prog (ref10_Add_tab F) := ⟨ref03_Clamp_ok F, trivial⟩

abbrev ref10_Add_l0_ins : List Go.AE.Item := [.slot 1 (.int .i64), .segs [.hole (.is .i64 4)] (.slot 2) true, .ptr 2 0 4, .segs [.hole (.is .i64 4)] (.slot 4) true, .ptr 4 1 4, .slot 5 (.int .i64)]
abbrev ref10_Add_l0_outs : List Go.AE.Item := [.segs [.hole (.is .i64 4)] (.slot 2) true, .ptr 2 0 4, .segs [.hole (.is .i64 4)] (.slot 4) true, .ptr 4 1 4]
def ref10_Add_l0_ann (F : Nat) {ρ : Type} : Ann ρ := annS 19 ref10_Add_l0_ins ref10_Add_l0_outs fun d => ref10_Add_l0 F F d.1 d.2.1 d.2.2.1 d.2.2.2.1
theorem ref10_Add_l0_ok (F : Nat) {ρ : Type} (B : Base) (w : World) : AnnAt (ρ := ρ) Try.prog false B w (.block 0 (.loop (loopAt (bodyOf Try.f109) 0))) (ref10_Add_l0_ann F) :=
  toldS_ok callable (ref10_Add_all F) (ins := ref10_Add_l0_ins) (outs := ref10_Add_l0_outs) (anns := []) (L := fun k d => ref10_Add_l0 F k d.1 d.2.1 d.2.2.1 d.2.2.2.1) (annsOk_nil _ _) (fun d => rfl)
    (fun k d => (by kernel_rfl : evCode Try.prog (calT Try.prog (ref10_Add_tab F) _) (qcalT (ref10_Add_tab F) _) (annOf []) (loopAt (bodyOf Try.f109) 0) (bldS 19 ref10_Add_l0_ins d) (kS 19 ref10_Add_l0_ins ref10_Add_l0_outs 0 fun d => ref10_Add_l0 F k d.1 d.2.1 d.2.2.1 d.2.2.2.1) = ref10_Add_l0S F (ref10_Add_l0 F k) d.1 d.2.1 d.2.2.1 d.2.2.2.1)) F B w

def ref10_Add_told (F : Nat) : ToldF := ⟨109, 2, [.slot 0 (.is .i64 4), .slot 1 (.int .i64)], [.ty (.is .i64 4)], fun d => ref10_Add F d.1 d.2.1⟩
theorem ref10_Add_ok (F : Nat) : (ref10_Add_told F).ok Try.prog :=
  toldF_ok callable (ref10_Add_all F) (fn := Try.f109) (t := ref10_Add_told F) (anns := [(0, ref10_Add_l0_ann F)]) (by kernel_rfl) (annsOk_cons (by kernel_rfl) (fun B w => ref10_Add_l0_ok F B w) (annsOk_nil _ _))
    (fun d => (by kernel_rfl : evBody Try.prog (calT Try.prog (ref10_Add_tab F) _) (qcalT (ref10_Add_tab F) _) (annOf [(0, ref10_Add_l0_ann F)]) 109 (bldS 2 (ref10_Add_told F).ins d).tmps (bldS 2 (ref10_Add_told F).ins d).heap (endO (ref10_Add_told F).os) = ref10_Add F d.1 d.2.1))

def ref10_Paint_tab (F : Nat) : List ToldF := [ref10_Bases_told F, ref10_Half_told F, ref10_Table_told F, ref10_Add_told F]
theorem ref10_Paint_all (F : Nat) : AllOk Try.prog (ref10_Paint_tab F) := ⟨ref10_Bases_ok F, ⟨ref10_Half_ok F, ⟨ref10_Table_ok F, ⟨ref10_Add_ok F, trivial⟩⟩⟩⟩

abbrev ref10_Paint_l0_ins : List Go.AE.Item := [.segs [.hole (.bool), .hole (.bool), .hole (.is .i64 3), .hole (.is .i64 3), .hole (.is .i64 2), .hole (.is .i64 16)] (.slot 1) true, .ptr 1 0 26, .segs [.hole (.is .i64 64)] (.slot 2) true, .ptr 2 1 64, .segs [.hole (.is .i64 8)] (.slot 3) true, .ptr 3 2 8, .segs [.hole (.is .i64 64)] (.slot 5) true, .ptr 5 3 64, .slot 6 (.int .i64)]
abbrev ref10_Paint_l0_outs : List Go.AE.Item := [.segs [.hole (.is .i64 64)] (.slot 2) true, .ptr 2 0 64, .segs [.hole (.is .i64 64)] (.slot 5) true, .ptr 5 1 64]
def ref10_Paint_l0_ann (F : Nat) {ρ : Type} : Ann ρ := annS 39 ref10_Paint_l0_ins ref10_Paint_l0_outs fun d => ref10_Paint_l0 F F d.1 d.2.1 d.2.2.1 d.2.2.2.1 d.2.2.2.2.1 d.2.2.2.2.2.1 d.2.2.2.2.2.2.1 d.2.2.2.2.2.2.2.1 d.2.2.2.2.2.2.2.2.1 d.2.2.2.2.2.2.2.2.2.1
theorem ref10_Paint_l0_ok (F : Nat) {ρ : Type} (B : Base) (w : World) : AnnAt (ρ := ρ) Try.prog false B w (.block 0 (.loop (loopAt (bodyOf Try.f63) 0))) (ref10_Paint_l0_ann F) :=
  toldS_ok callable (ref10_Paint_all F) (ins := ref10_Paint_l0_ins) (outs := ref10_Paint_l0_outs) (anns := []) (L := fun k d => ref10_Paint_l0 F k d.1 d.2.1 d.2.2.1 d.2.2.2.1 d.2.2.2.2.1 d.2.2.2.2.2.1 d.2.2.2.2.2.2.1 d.2.2.2.2.2.2.2.1 d.2.2.2.2.2.2.2.2.1 d.2.2.2.2.2.2.2.2.2.1) (annsOk_nil _ _) (fun d => rfl)
    (fun k d => (by kernel_rfl : evCode Try.prog (calT Try.prog (ref10_Paint_tab F) _) (qcalT (ref10_Paint_tab F) _) (annOf []) (loopAt (bodyOf Try.f63) 0) (bldS 39 ref10_Paint_l0_ins d) (kS 39 ref10_Paint_l0_ins ref10_Paint_l0_outs 0 fun d => ref10_Paint_l0 F k d.1 d.2.1 d.2.2.1 d.2.2.2.1 d.2.2.2.2.1 d.2.2.2.2.2.1 d.2.2.2.2.2.2.1 d.2.2.2.2.2.2.2.1 d.2.2.2.2.2.2.2.2.1 d.2.2.2.2.2.2.2.2.2.1) = ref10_Paint_l0S F (ref10_Paint_l0 F k) d.1 d.2.1 d.2.2.1 d.2.2.2.1 d.2.2.2.2.1 d.2.2.2.2.2.1 d.2.2.2.2.2.2.1 d.2.2.2.2.2.2.2.1 d.2.2.2.2.2.2.2.2.1 d.2.2.2.2.2.2.2.2.2.1)) F B w

def ref10_Paint_told (F : Nat) : ToldF := ⟨63, 1, [.slot 0 (.agg [.bool, .bool, .is .i64 3, .is .i64 3, .is .i64 2, .is .i64 16])], [.ty (.is .i64 64)], fun d => ref10_Paint F d.1⟩
theorem ref10_Paint_ok (F : Nat) : (ref10_Paint_told F).ok Try.prog :=
  toldF_ok callable (ref10_Paint_all F) (fn := Try.f63) (t := ref10_Paint_told F) (anns := [(0, ref10_Paint_l0_ann F)]) (by kernel_rfl) (annsOk_cons (by kernel_rfl) (fun B w => ref10_Paint_l0_ok F B w) (annsOk_nil _ _))
    (fun d => (by kernel_rfl : evBody Try.prog (calT Try.prog (ref10_Paint_tab F) _) (qcalT (ref10_Paint_tab F) _) (annOf [(0, ref10_Paint_l0_ann F)]) 63 (bldS 1 (ref10_Paint_told F).ins d).tmps (bldS 1 (ref10_Paint_told F).ins d).heap (endO (ref10_Paint_told F).os) = ref10_Paint F d.1))

def ref11_colour_tab (F : Nat) : List ToldF := [ref03_Wide_told F]
theorem ref11_colour_all (F : Nat) : AllOk Try.prog (ref11_colour_tab F) := ⟨ref03_Wide_ok F, trivial⟩

def ref11_colour_told (F : Nat) : ToldF := ⟨112, 1, [.slot 0 (.is .i64 3)], [.ty (.is .i64 4)], fun d => ref11_colour F d.1⟩
theorem ref11_colour_ok (F : Nat) : (ref11_colour_told F).ok Try.prog :=
  toldF_ok callable (ref11_colour_all F) (fn := Try.f112) (t := ref11_colour_told F) (anns := []) (by kernel_rfl) (annsOk_nil _ _)
    (fun d => (by kernel_rfl : evBody Try.prog (calT Try.prog (ref11_colour_tab F) _) (qcalT (ref11_colour_tab F) _) (annOf []) 112 (bldS 1 (ref11_colour_told F).ins d).tmps (bldS 1 (ref11_colour_told F).ins d).heap (endO (ref11_colour_told F).os) = ref11_colour F d.1))

def ref11_Distance_tab (F : Nat) : List ToldF := []
theorem ref11_Distance_all (F : Nat) : AllOk Try.prog (ref11_Distance_tab F) := trivial

def ref11_Distance_told (F : Nat) : ToldF := ⟨25, 1, [.slot 0 (.int .i64)], [.ty (.int .i64)], fun d => ref11_Distance F d.1⟩
theorem ref11_Distance_ok (F : Nat) : (ref11_Distance_told F).ok Try.prog :=
  toldF_ok callable (ref11_Distance_all F) (fn := Try.f25) (t := ref11_Distance_told F) (anns := []) (by kernel_rfl) (annsOk_nil _ _)
    (fun d => (by kernel_rfl : evBody Try.prog (calT Try.prog (ref11_Distance_tab F) _) (qcalT (ref11_Distance_tab F) _) (annOf []) 25 (bldS 1 (ref11_Distance_told F).ins d).tmps (bldS 1 (ref11_Distance_told F).ins d).heap (endO (ref11_Distance_told F).os) = ref11_Distance F d.1))

def ref11_number_tab (F : Nat) : List ToldF := []
theorem ref11_number_all (F : Nat) : AllOk Try.prog (ref11_number_tab F) := trivial

def ref11_number_told (F : Nat) : ToldF := ⟨113, 1, [.slot 0 (.is .i64 3)], [.ty (.int .i64)], fun d => ref11_number F d.1⟩
theorem ref11_number_ok (F : Nat) : (ref11_number_told F).ok Try.prog :=
  toldF_ok callable (ref11_number_all F) (fn := Try.f113) (t := ref11_number_told F) (anns := []) (by kernel_rfl) (annsOk_nil _ _)
    (fun d => (by kernel_rfl : evBody Try.prog (calT Try.prog (ref11_number_tab F) _) (qcalT (ref11_number_tab F) _) (annOf []) 113 (bldS 1 (ref11_number_told F).ins d).tmps (bldS 1 (ref11_number_told F).ins d).heap (endO (ref11_number_told F).os) = ref11_number F d.1))

def ref11_four_tab (F : Nat) : List ToldF := [ref11_run_told F, ref11_pick_told F, ref10_Add_told F, ref11_colour_told F, ref11_Distance_told F, ref11_number_told F]
theorem ref11_four_all (F : Nat) : AllOk Try.prog (ref11_four_tab F) := ⟨ref11_run_ok F, ⟨ref11_pick_ok F, ⟨ref10_Add_ok F, ⟨ref11_colour_ok F, ⟨ref11_Distance_ok F, ⟨ref11_number_ok F, trivial⟩⟩⟩⟩⟩⟩

def ref11_four_told (F : Nat) : ToldF := ⟨65, 2, [.row .u8 1 (.slot 0) false, .slot 1 (.int .i64)], [.ty (.is .i64 16)], fun d => ref11_four F d.1 d.2.1⟩
theorem ref11_four_ok (F : Nat) : (ref11_four_told F).ok Try.prog :=
  toldF_ok callable (ref11_four_all F) (fn := Try.f65) (t := ref11_four_told F) (anns := []) (by kernel_rfl) (annsOk_nil _ _)
    (fun d => (by kernel_rfl : evBody Try.prog (calT Try.prog (ref11_four_tab F) _) (qcalT (ref11_four_tab F) _) (annOf []) 65 (bldS 2 (ref11_four_told F).ins d).tmps (bldS 2 (ref11_four_told F).ins d).heap (endO (ref11_four_told F).os) = ref11_four F d.1 d.2.1))

def ref11_Decode_tab (F : Nat) : List ToldF := [ref02_Top_told F, ref11_parts_told F, ref10_Bases_told F, ref11_Kind_told F, ref11_planar_told F, ref10_Half_told F, ref10_Paint_told F, ref11_four_told F]
theorem ref11_Decode_all (F : Nat) : AllOk Try.prog (ref11_Decode_tab F) := ⟨ref02_Top_ok F, ⟨ref11_parts_ok F, ⟨ref10_Bases_ok F, ⟨ref11_Kind_ok F, ⟨ref11_planar_ok F, ⟨ref10_Half_ok F, ⟨ref10_Paint_ok F, ⟨ref11_four_ok F, trivial⟩⟩⟩⟩⟩⟩⟩⟩

abbrev ref11_Decode_l0_ins : List Go.AE.Item := [.row .u8 1 (.slot 0) false, .segs [.hole (.is .i64 64)] (.slot 4) true, .ptr 4 1 64, .slot 6 (.int .i64), .slot 7 (.bool), .segs [.hole (.bool), .hole (.bool), .hole (.is .i64 3), .hole (.is .i64 3), .hole (.is .i64 2), .hole (.is .i64 16)] (.slot 8) true, .ptr 8 2 26, .segs [.hole (.is .i64 64)] (.slot 9) true, .ptr 9 3 64, .segs [.hole (.is .i64 8)] (.slot 10) true, .ptr 10 4 8, .slot 12 (.int .i64)]
abbrev ref11_Decode_l0_outs : List Go.AE.Item := [.segs [.hole (.is .i64 64)] (.slot 4) true, .ptr 4 0 64, .segs [.hole (.is .i64 64)] (.slot 9) true, .ptr 9 1 64]
def ref11_Decode_l0_ann (F : Nat) {ρ : Type} : Ann ρ := annS 91 ref11_Decode_l0_ins ref11_Decode_l0_outs fun d => ref11_Decode_l0 F F d.1 d.2.1 d.2.2.1 d.2.2.2.1 d.2.2.2.2.1 d.2.2.2.2.2.1 d.2.2.2.2.2.2.1 d.2.2.2.2.2.2.2.1 d.2.2.2.2.2.2.2.2.1 d.2.2.2.2.2.2.2.2.2.1 d.2.2.2.2.2.2.2.2.2.2.1 d.2.2.2.2.2.2.2.2.2.2.2.1 d.2.2.2.2.2.2.2.2.2.2.2.2.1
theorem ref11_Decode_l0_ok (F : Nat) {ρ : Type} (B : Base) (w : World) : AnnAt (ρ := ρ) Try.prog false B w (.block 0 (.loop (loopAt (bodyOf Try.f21) 0))) (ref11_Decode_l0_ann F) :=
  toldS_ok callable (ref11_Decode_all F) (ins := ref11_Decode_l0_ins) (outs := ref11_Decode_l0_outs) (anns := []) (L := fun k d => ref11_Decode_l0 F k d.1 d.2.1 d.2.2.1 d.2.2.2.1 d.2.2.2.2.1 d.2.2.2.2.2.1 d.2.2.2.2.2.2.1 d.2.2.2.2.2.2.2.1 d.2.2.2.2.2.2.2.2.1 d.2.2.2.2.2.2.2.2.2.1 d.2.2.2.2.2.2.2.2.2.2.1 d.2.2.2.2.2.2.2.2.2.2.2.1 d.2.2.2.2.2.2.2.2.2.2.2.2.1) (annsOk_nil _ _) (fun d => rfl)
    (fun k d => (by kernel_rfl : evCode Try.prog (calT Try.prog (ref11_Decode_tab F) _) (qcalT (ref11_Decode_tab F) _) (annOf []) (loopAt (bodyOf Try.f21) 0) (bldS 91 ref11_Decode_l0_ins d) (kS 91 ref11_Decode_l0_ins ref11_Decode_l0_outs 0 fun d => ref11_Decode_l0 F k d.1 d.2.1 d.2.2.1 d.2.2.2.1 d.2.2.2.2.1 d.2.2.2.2.2.1 d.2.2.2.2.2.2.1 d.2.2.2.2.2.2.2.1 d.2.2.2.2.2.2.2.2.1 d.2.2.2.2.2.2.2.2.2.1 d.2.2.2.2.2.2.2.2.2.2.1 d.2.2.2.2.2.2.2.2.2.2.2.1 d.2.2.2.2.2.2.2.2.2.2.2.2.1) = ref11_Decode_l0S F (ref11_Decode_l0 F k) d.1 d.2.1 d.2.2.1 d.2.2.2.1 d.2.2.2.2.1 d.2.2.2.2.2.1 d.2.2.2.2.2.2.1 d.2.2.2.2.2.2.2.1 d.2.2.2.2.2.2.2.2.1 d.2.2.2.2.2.2.2.2.2.1 d.2.2.2.2.2.2.2.2.2.2.1 d.2.2.2.2.2.2.2.2.2.2.2.1 d.2.2.2.2.2.2.2.2.2.2.2.2.1)) F B w

def ref11_Decode_told (F : Nat) : ToldF := ⟨21, 2, [.row .u8 1 (.slot 0) false, .slot 1 (.bool)], [.ty (.is .i64 64), .ty (.int .i64)], fun d => ref11_Decode F d.1 d.2.1⟩
theorem ref11_Decode_ok (F : Nat) : (ref11_Decode_told F).ok Try.prog :=
  toldF_ok callable (ref11_Decode_all F) (fn := Try.f21) (t := ref11_Decode_told F) (anns := [(0, ref11_Decode_l0_ann F)]) (by kernel_rfl) (annsOk_cons (by kernel_rfl) (fun B w => ref11_Decode_l0_ok F B w) (annsOk_nil _ _))
    (fun d => (by kernel_rfl : evBody Try.prog (calT Try.prog (ref11_Decode_tab F) _) (qcalT (ref11_Decode_tab F) _) (annOf [(0, ref11_Decode_l0_ann F)]) 21 (bldS 2 (ref11_Decode_told F).ins d).tmps (bldS 2 (ref11_Decode_told F).ins d).heap (endO (ref11_Decode_told F).os) = ref11_Decode F d.1 d.2.1))

def law11_EtctwoDecodes_tab (F : Nat) : List ToldF := [etctwo_Distance_told F, etctwo_Decode_told F, etctwo_Kind_told F, law11_awake_told F, ref11_Kind_told F, ref11_Distance_told F, ref11_Decode_told F]
theorem law11_EtctwoDecodes_all (F : Nat) : AllOk Try.prog (law11_EtctwoDecodes_tab F) := ⟨etctwo_Distance_ok F, ⟨etctwo_Decode_ok F, ⟨etctwo_Kind_ok F, ⟨law11_awake_ok F, ⟨ref11_Kind_ok F, ⟨ref11_Distance_ok F, ⟨ref11_Decode_ok F, trivial⟩⟩⟩⟩⟩⟩⟩

def law11_EtctwoDecodes_told (F : Nat) : ToldF := ⟨6, 3, [.row .u8 1 (.slot 0) false, .slot 1 (.bool), .slot 2 (.int .i64)], [.ty (.bool)], fun d => law11_EtctwoDecodes F d.1 d.2.1 d.2.2.1⟩
theorem law11_EtctwoDecodes_ok (F : Nat) : (law11_EtctwoDecodes_told F).ok Try.prog :=
  toldF_ok callable (law11_EtctwoDecodes_all F) (fn := Try.f6) (t := law11_EtctwoDecodes_told F) (anns := []) (by kernel_rfl) (annsOk_nil _ _)
    (fun d => (by kernel_rfl : evBody Try.prog (calT Try.prog (law11_EtctwoDecodes_tab F) _) (qcalT (law11_EtctwoDecodes_tab F) _) (annOf []) 6 (bldS 3 (law11_EtctwoDecodes_told F).ins d).tmps (bldS 3 (law11_EtctwoDecodes_told F).ins d).heap (endO (law11_EtctwoDecodes_told F).os) = law11_EtctwoDecodes F d.1 d.2.1 d.2.2.1))

def ref11_span_tab (F : Nat) : List ToldF := []
theorem ref11_span_all (F : Nat) : AllOk Try.prog (ref11_span_tab F) := trivial

abbrev ref11_span_l0_ins : List Go.AE.Item := [.slot 1 (.int .i64), .row .i64 1 (.slot 5) true, .slot 6 (.int .i64)]
abbrev ref11_span_l0_outs : List Go.AE.Item := [.row .i64 1 (.slot 5) true]
def ref11_span_l0_ann (F : Nat) {ρ : Type} : Ann ρ := annS 18 ref11_span_l0_ins ref11_span_l0_outs fun d => ref11_span_l0 F F d.1 d.2.1 d.2.2.1
theorem ref11_span_l0_ok (F : Nat) {ρ : Type} (B : Base) (w : World) : AnnAt (ρ := ρ) Try.prog false B w (.block 0 (.loop (loopAt (bodyOf Try.f73) 0))) (ref11_span_l0_ann F) :=
  toldS_ok callable (ref11_span_all F) (ins := ref11_span_l0_ins) (outs := ref11_span_l0_outs) (anns := []) (L := fun k d => ref11_span_l0 F k d.1 d.2.1 d.2.2.1) (annsOk_nil _ _) (fun d => rfl)
    (fun k d => (by kernel_rfl : evCode Try.prog (calT Try.prog (ref11_span_tab F) _) (qcalT (ref11_span_tab F) _) (annOf []) (loopAt (bodyOf Try.f73) 0) (bldS 18 ref11_span_l0_ins d) (kS 18 ref11_span_l0_ins ref11_span_l0_outs 0 fun d => ref11_span_l0 F k d.1 d.2.1 d.2.2.1) = ref11_span_l0S F (ref11_span_l0 F k) d.1 d.2.1 d.2.2.1)) F B w

def ref11_span_told (F : Nat) : ToldF := ⟨73, 2, [.slot 0 (.int .i64), .slot 1 (.int .i64)], [.row .i64 1], fun d => ref11_span F d.1 d.2.1⟩
theorem ref11_span_ok (F : Nat) : (ref11_span_told F).ok Try.prog :=
  toldF_ok callable (ref11_span_all F) (fn := Try.f73) (t := ref11_span_told F) (anns := [(0, ref11_span_l0_ann F)]) (by kernel_rfl) (annsOk_cons (by kernel_rfl) (fun B w => ref11_span_l0_ok F B w) (annsOk_nil _ _))
    (fun d => (by kernel_rfl : evBody Try.prog (calT Try.prog (ref11_span_tab F) _) (qcalT (ref11_span_tab F) _) (annOf [(0, ref11_span_l0_ann F)]) 73 (bldS 2 (ref11_span_told F).ins d).tmps (bldS 2 (ref11_span_told F).ins d).heap (endO (ref11_span_told F).os) = ref11_span F d.1 d.2.1))

def ref11_put_tab (F : Nat) : List ToldF := [ref02_Set_told F]
theorem ref11_put_all (F : Nat) : AllOk Try.prog (ref11_put_tab F) := ⟨ref02_Set_ok F, trivial⟩

abbrev ref11_put_l0_ins : List Go.AE.Item := [.row .u8 1 (.slot 0) false, .row .i64 1 (.slot 1) false, .slot 2 (.int .i64), .slot 7 (.int .i64)]
abbrev ref11_put_l0_outs : List Go.AE.Item := [.row .u8 1 (.slot 0) false]
def ref11_put_l0_ann (F : Nat) {ρ : Type} : Ann ρ := annS 30 ref11_put_l0_ins ref11_put_l0_outs fun d => ref11_put_l0 F F d.1 d.2.1 d.2.2.1 d.2.2.2.1
theorem ref11_put_l0_ok (F : Nat) {ρ : Type} (B : Base) (w : World) : AnnAt (ρ := ρ) Try.prog false B w (.block 0 (.loop (loopAt (bodyOf Try.f72) 0))) (ref11_put_l0_ann F) :=
  toldS_ok callable (ref11_put_all F) (ins := ref11_put_l0_ins) (outs := ref11_put_l0_outs) (anns := []) (L := fun k d => ref11_put_l0 F k d.1 d.2.1 d.2.2.1 d.2.2.2.1) (annsOk_nil _ _) (fun d => rfl)
    (fun k d => (by kernel_rfl : evCode Try.prog (calT Try.prog (ref11_put_tab F) _) (qcalT (ref11_put_tab F) _) (annOf []) (loopAt (bodyOf Try.f72) 0) (bldS 30 ref11_put_l0_ins d) (kS 30 ref11_put_l0_ins ref11_put_l0_outs 0 fun d => ref11_put_l0 F k d.1 d.2.1 d.2.2.1 d.2.2.2.1) = ref11_put_l0S F (ref11_put_l0 F k) d.1 d.2.1 d.2.2.1 d.2.2.2.1)) F B w

def ref11_put_told (F : Nat) : ToldF := ⟨72, 3, [.row .u8 1 (.slot 0) false, .row .i64 1 (.slot 1) false, .slot 2 (.int .i64)], [.row .u8 1 false], fun d => ref11_put F d.1 d.2.1 d.2.2.1⟩
theorem ref11_put_ok (F : Nat) : (ref11_put_told F).ok Try.prog :=
  toldF_ok callable (ref11_put_all F) (fn := Try.f72) (t := ref11_put_told F) (anns := [(0, ref11_put_l0_ann F)]) (by kernel_rfl) (annsOk_cons (by kernel_rfl) (fun B w => ref11_put_l0_ok F B w) (annsOk_nil _ _))
    (fun d => (by kernel_rfl : evBody Try.prog (calT Try.prog (ref11_put_tab F) _) (qcalT (ref11_put_tab F) _) (annOf [(0, ref11_put_l0_ann F)]) 72 (bldS 3 (ref11_put_told F).ins d).tmps (bldS 3 (ref11_put_told F).ins d).heap (endO (ref11_put_told F).os) = ref11_put F d.1 d.2.1 d.2.2.1))

def ref11_Lay_tab (F : Nat) : List ToldF := [ref10_Parts_told F, ref10_In_told F, ref11_run_told F, ref11_span_told F, ref11_put_told F]
theorem ref11_Lay_all (F : Nat) : AllOk Try.prog (ref11_Lay_tab F) := ⟨ref10_Parts_ok F, ⟨ref10_In_ok F, ⟨ref11_run_ok F, ⟨ref11_span_ok F, ⟨ref11_put_ok F, trivial⟩⟩⟩⟩⟩

abbrev ref11_Lay_l0_ins : List Go.AE.Item := [.segs [.hole (.is .i64 3)] (.slot 3) true, .ptr 3 0 3, .segs [.hole (.is .i64 3)] (.slot 4) true, .ptr 4 1 3, .segs [.hole (.is .i64 3)] (.slot 5) true, .ptr 5 2 3, .row .i64 3 (.slot 8) true, .slot 9 (.int .i64)]
abbrev ref11_Lay_l0_outs : List Go.AE.Item := [.segs [.hole (.is .i64 3)] (.slot 3) true, .ptr 3 0 3, .segs [.hole (.is .i64 3)] (.slot 4) true, .ptr 4 1 3, .segs [.hole (.is .i64 3)] (.slot 5) true, .ptr 5 2 3]
abbrev ref11_Lay_l0_outX : List Go.AE.Item := [.const 6 .nils, .const 7 (.int .i64 (some 1) 1)]
def ref11_Lay_l0_ann (F : Nat) {ρ : Type} : Ann ρ := annX 139 ref11_Lay_l0_ins ref11_Lay_l0_outX ref11_Lay_l0_outs .ret fun d => ref11_Lay_l0 F F d.1 d.2.1 d.2.2.1 d.2.2.2.1 d.2.2.2.2.1
theorem ref11_Lay_l0_ok (F : Nat) {ρ : Type} (B : Base) (w : World) : AnnAt (ρ := ρ) Try.prog false B w (.block 0 (.loop (loopAt (bodyOf Try.f27) 0))) (ref11_Lay_l0_ann F) :=
  toldX_ok callable (ref11_Lay_all F) (ins := ref11_Lay_l0_ins) (outX := ref11_Lay_l0_outX) (outs := ref11_Lay_l0_outs) (anns := []) (L := fun k d => ref11_Lay_l0 F k d.1 d.2.1 d.2.2.1 d.2.2.2.1 d.2.2.2.2.1) (annsOk_nil _ _) (fun d => rfl)
    (fun k d => (by kernel_rfl : evCode Try.prog (calT Try.prog (ref11_Lay_tab F) _) (qcalT (ref11_Lay_tab F) _) (annOf []) (loopAt (bodyOf Try.f27) 0) (bldS 139 ref11_Lay_l0_ins d) (kX 139 ref11_Lay_l0_ins ref11_Lay_l0_outX ref11_Lay_l0_outs 0 .ret fun d => ref11_Lay_l0 F k d.1 d.2.1 d.2.2.1 d.2.2.2.1 d.2.2.2.2.1) = ref11_Lay_l0S F (ref11_Lay_l0 F k) d.1 d.2.1 d.2.2.1 d.2.2.2.1 d.2.2.2.2.1)) (by first | exact .inl rfl | exact .inr ⟨_, rfl, by decide⟩) F B w

abbrev ref11_Lay_l2_ins : List Go.AE.Item := [.row .u8 1 (.slot 10) false, .slot 11 (.int .i64)]
abbrev ref11_Lay_l2_outs : List Go.AE.Item := [.row .u8 1 (.slot 10) false]
def ref11_Lay_l2_ann (F : Nat) {ρ : Type} : Ann ρ := annS 139 ref11_Lay_l2_ins ref11_Lay_l2_outs fun d => ref11_Lay_l2 F F d.1 d.2.1
theorem ref11_Lay_l2_ok (F : Nat) {ρ : Type} (B : Base) (w : World) : AnnAt (ρ := ρ) Try.prog false B w (.block 2 (.loop (loopAt (bodyOf Try.f27) 2))) (ref11_Lay_l2_ann F) :=
  toldS_ok callable (ref11_Lay_all F) (ins := ref11_Lay_l2_ins) (outs := ref11_Lay_l2_outs) (anns := []) (L := fun k d => ref11_Lay_l2 F k d.1 d.2.1) (annsOk_nil _ _) (fun d => rfl)
    (fun k d => (by kernel_rfl : evCode Try.prog (calT Try.prog (ref11_Lay_tab F) _) (qcalT (ref11_Lay_tab F) _) (annOf []) (loopAt (bodyOf Try.f27) 2) (bldS 139 ref11_Lay_l2_ins d) (kS 139 ref11_Lay_l2_ins ref11_Lay_l2_outs 2 fun d => ref11_Lay_l2 F k d.1 d.2.1) = ref11_Lay_l2S F (ref11_Lay_l2 F k) d.1 d.2.1)) F B w

def ref11_Lay_told (F : Nat) : ToldF := ⟨27, 3, [.slot 0 (.is .i64 3), .slot 1 (.is .i64 3), .slot 2 (.is .i64 3)], [.row .u8 1 false, .ty (.int .i64)], fun d => ref11_Lay F d.1 d.2.1 d.2.2.1⟩
theorem ref11_Lay_ok (F : Nat) : (ref11_Lay_told F).ok Try.prog :=
  toldF_ok callable (ref11_Lay_all F) (fn := Try.f27) (t := ref11_Lay_told F) (anns := [(0, ref11_Lay_l0_ann F), (2, ref11_Lay_l2_ann F)]) (by kernel_rfl) (annsOk_cons (by kernel_rfl) (fun B w => ref11_Lay_l0_ok F B w) (annsOk_cons (by kernel_rfl) (fun B w => ref11_Lay_l2_ok F B w) (annsOk_nil _ _)))
    (fun d => (by kernel_rfl : evBody Try.prog (calT Try.prog (ref11_Lay_tab F) _) (qcalT (ref11_Lay_tab F) _) (annOf [(0, ref11_Lay_l0_ann F), (2, ref11_Lay_l2_ann F)]) 27 (bldS 3 (ref11_Lay_told F).ins d).tmps (bldS 3 (ref11_Lay_told F).ins d).heap (endO (ref11_Lay_told F).os) = ref11_Lay F d.1 d.2.1 d.2.2.1))

def ref01_Same_tab (F : Nat) : List ToldF := []
theorem ref01_Same_all (F : Nat) : AllOk Try.prog (ref01_Same_tab F) := trivial

abbrev ref01_Same_l0_ins : List Go.AE.Item := [.row .u8 1 (.slot 0) false, .row .u8 1 (.slot 1) false, .slot 5 (.int .i64)]
abbrev ref01_Same_l0_outs : List Go.AE.Item := []
abbrev ref01_Same_l0_outX : List Go.AE.Item := [.const 4 (.bool (some false) false)]
def ref01_Same_l0_ann (F : Nat) {ρ : Type} : Ann ρ := annX 26 ref01_Same_l0_ins ref01_Same_l0_outX ref01_Same_l0_outs .ret fun d => ref01_Same_l0 F F d.1 d.2.1 d.2.2.1
theorem ref01_Same_l0_ok (F : Nat) {ρ : Type} (B : Base) (w : World) : AnnAt (ρ := ρ) Try.prog false B w (.block 0 (.loop (loopAt (bodyOf Try.f28) 0))) (ref01_Same_l0_ann F) :=
  toldX_ok callable (ref01_Same_all F) (ins := ref01_Same_l0_ins) (outX := ref01_Same_l0_outX) (outs := ref01_Same_l0_outs) (anns := []) (L := fun k d => ref01_Same_l0 F k d.1 d.2.1 d.2.2.1) (annsOk_nil _ _) (fun d => rfl)
    (fun k d => (by kernel_rfl : evCode Try.prog (calT Try.prog (ref01_Same_tab F) _) (qcalT (ref01_Same_tab F) _) (annOf []) (loopAt (bodyOf Try.f28) 0) (bldS 26 ref01_Same_l0_ins d) (kX 26 ref01_Same_l0_ins ref01_Same_l0_outX ref01_Same_l0_outs 0 .ret fun d => ref01_Same_l0 F k d.1 d.2.1 d.2.2.1) = ref01_Same_l0S F (ref01_Same_l0 F k) d.1 d.2.1 d.2.2.1)) (by first | exact .inl rfl | exact .inr ⟨_, rfl, by decide⟩) F B w

def ref01_Same_told (F : Nat) : ToldF := ⟨28, 2, [.row .u8 1 (.slot 0) false, .row .u8 1 (.slot 1) false], [.ty (.bool)], fun d => ref01_Same F d.1 d.2.1⟩
theorem ref01_Same_ok (F : Nat) : (ref01_Same_told F).ok Try.prog :=
  toldF_ok callable (ref01_Same_all F) (fn := Try.f28) (t := ref01_Same_told F) (anns := [(0, ref01_Same_l0_ann F)]) (by kernel_rfl) (annsOk_cons (by kernel_rfl) (fun B w => ref01_Same_l0_ok F B w) (annsOk_nil _ _))
    (fun d => (by kernel_rfl : evBody Try.prog (calT Try.prog (ref01_Same_tab F) _) (qcalT (ref01_Same_tab F) _) (annOf [(0, ref01_Same_l0_ann F)]) 28 (bldS 2 (ref01_Same_told F).ins d).tmps (bldS 2 (ref01_Same_told F).ins d).heap (endO (ref01_Same_told F).os) = ref01_Same F d.1 d.2.1))

def law11_EtctwoLays_tab (F : Nat) : List ToldF := [etctwo_Lay_told F, etctwo_Plane_told F, law11_awake_told F, ref11_Plane_told F, ref11_Lay_told F, ref01_Same_told F]
theorem law11_EtctwoLays_all (F : Nat) : AllOk Try.prog (law11_EtctwoLays_tab F) := ⟨etctwo_Lay_ok F, ⟨etctwo_Plane_ok F, ⟨law11_awake_ok F, ⟨ref11_Plane_ok F, ⟨ref11_Lay_ok F, ⟨ref01_Same_ok F, trivial⟩⟩⟩⟩⟩⟩

abbrev law11_EtctwoLays_l2_ins : List Go.AE.Item := [.segs [.hole (.is .i64 12)] (.slot 3) true, .ptr 3 0 12, .slot 5 (.bool), .slot 11 (.int .i64), .slot 12 (.int .i64)]
abbrev law11_EtctwoLays_l2_outs : List Go.AE.Item := [.segs [.hole (.is .i64 12)] (.slot 3) true, .ptr 3 0 12, .slot 5 (.bool), .slot 11 (.int .i64)]
abbrev law11_EtctwoLays_l2_outX : List Go.AE.Item := [.slot 4 (.bool)]
def law11_EtctwoLays_l2_ann (F : Nat) {ρ : Type} : Ann ρ := annX 85 law11_EtctwoLays_l2_ins law11_EtctwoLays_l2_outX law11_EtctwoLays_l2_outs .ret fun d => law11_EtctwoLays_l2 F F d.1 d.2.1 d.2.2.1 d.2.2.2.1
theorem law11_EtctwoLays_l2_ok (F : Nat) {ρ : Type} (B : Base) (w : World) : AnnAt (ρ := ρ) Try.prog false B w (.block 2 (.loop (loopAt (bodyOf Try.f7) 2))) (law11_EtctwoLays_l2_ann F) :=
  toldX_ok callable (law11_EtctwoLays_all F) (ins := law11_EtctwoLays_l2_ins) (outX := law11_EtctwoLays_l2_outX) (outs := law11_EtctwoLays_l2_outs) (anns := []) (L := fun k d => law11_EtctwoLays_l2 F k d.1 d.2.1 d.2.2.1 d.2.2.2.1) (annsOk_nil _ _) (fun d => rfl)
    (fun k d => (by kernel_rfl : evCode Try.prog (calT Try.prog (law11_EtctwoLays_tab F) _) (qcalT (law11_EtctwoLays_tab F) _) (annOf []) (loopAt (bodyOf Try.f7) 2) (bldS 85 law11_EtctwoLays_l2_ins d) (kX 85 law11_EtctwoLays_l2_ins law11_EtctwoLays_l2_outX law11_EtctwoLays_l2_outs 2 .ret fun d => law11_EtctwoLays_l2 F k d.1 d.2.1 d.2.2.1 d.2.2.2.1) = law11_EtctwoLays_l2S F (law11_EtctwoLays_l2 F k) d.1 d.2.1 d.2.2.1 d.2.2.2.1)) (by first | exact .inl rfl | exact .inr ⟨_, rfl, by decide⟩) F B w

abbrev law11_EtctwoLays_l0_ins : List Go.AE.Item := [.segs [.hole (.is .i64 12)] (.slot 3) true, .ptr 3 0 12, .slot 5 (.bool), .slot 11 (.int .i64)]
abbrev law11_EtctwoLays_l0_outs : List Go.AE.Item := [.segs [.hole (.is .i64 12)] (.slot 3) true, .ptr 3 0 12, .slot 5 (.bool)]
abbrev law11_EtctwoLays_l0_outX : List Go.AE.Item := [.slot 4 (.bool)]
def law11_EtctwoLays_l0_ann (F : Nat) {ρ : Type} : Ann ρ := annX 85 law11_EtctwoLays_l0_ins law11_EtctwoLays_l0_outX law11_EtctwoLays_l0_outs .ret fun d => law11_EtctwoLays_l0 F F d.1 d.2.1 d.2.2.1
theorem law11_EtctwoLays_l0_ok (F : Nat) {ρ : Type} (B : Base) (w : World) : AnnAt (ρ := ρ) Try.prog false B w (.block 0 (.loop (loopAt (bodyOf Try.f7) 0))) (law11_EtctwoLays_l0_ann F) :=
  toldX_ok callable (law11_EtctwoLays_all F) (ins := law11_EtctwoLays_l0_ins) (outX := law11_EtctwoLays_l0_outX) (outs := law11_EtctwoLays_l0_outs) (anns := [(2, law11_EtctwoLays_l2_ann F)]) (L := fun k d => law11_EtctwoLays_l0 F k d.1 d.2.1 d.2.2.1) (annsOk_cons (by kernel_rfl) (fun B w => law11_EtctwoLays_l2_ok F B w) (annsOk_nil _ _)) (fun d => rfl)
    (fun k d => (by kernel_rfl : evCode Try.prog (calT Try.prog (law11_EtctwoLays_tab F) _) (qcalT (law11_EtctwoLays_tab F) _) (annOf [(2, law11_EtctwoLays_l2_ann F)]) (loopAt (bodyOf Try.f7) 0) (bldS 85 law11_EtctwoLays_l0_ins d) (kX 85 law11_EtctwoLays_l0_ins law11_EtctwoLays_l0_outX law11_EtctwoLays_l0_outs 0 .ret fun d => law11_EtctwoLays_l0 F k d.1 d.2.1 d.2.2.1) = law11_EtctwoLays_l0S F (law11_EtctwoLays_l0 F k) d.1 d.2.1 d.2.2.1)) (by first | exact .inl rfl | exact .inr ⟨_, rfl, by decide⟩) F B w

def law11_EtctwoLays_told (F : Nat) : ToldF := ⟨7, 2, [.slot 0 (.is .i64 9), .slot 1 (.is .i64 12)], [.ty (.bool)], fun d => law11_EtctwoLays F d.1 d.2.1⟩
theorem law11_EtctwoLays_ok (F : Nat) : (law11_EtctwoLays_told F).ok Try.prog :=
  toldF_ok callable (law11_EtctwoLays_all F) (fn := Try.f7) (t := law11_EtctwoLays_told F) (anns := [(2, law11_EtctwoLays_l2_ann F), (0, law11_EtctwoLays_l0_ann F)]) (by kernel_rfl) (annsOk_cons (by kernel_rfl) (fun B w => law11_EtctwoLays_l2_ok F B w) (annsOk_cons (by kernel_rfl) (fun B w => law11_EtctwoLays_l0_ok F B w) (annsOk_nil _ _)))
    (fun d => (by kernel_rfl : evBody Try.prog (calT Try.prog (law11_EtctwoLays_tab F) _) (qcalT (law11_EtctwoLays_tab F) _) (annOf [(2, law11_EtctwoLays_l2_ann F), (0, law11_EtctwoLays_l0_ann F)]) 7 (bldS 2 (law11_EtctwoLays_told F).ins d).tmps (bldS 2 (law11_EtctwoLays_told F).ins d).heap (endO (law11_EtctwoLays_told F).os) = law11_EtctwoLays F d.1 d.2.1))

def law11_EtctwoPlanar_tab (F : Nat) : List ToldF := [etctwo_Lay_told F, etctwo_Plane_told F, etctwo_Decode_told F, etctwo_Kind_told F, law11_awake_told F, ref11_Wide_told F]
theorem law11_EtctwoPlanar_all (F : Nat) : AllOk Try.prog (law11_EtctwoPlanar_tab F) := ⟨etctwo_Lay_ok F, ⟨etctwo_Plane_ok F, ⟨etctwo_Decode_ok F, ⟨etctwo_Kind_ok F, ⟨law11_awake_ok F, ⟨ref11_Wide_ok F, trivial⟩⟩⟩⟩⟩⟩

abbrev law11_EtctwoPlanar_l0_ins : List Go.AE.Item := [.slot 3 (.bool), .segs [.hole (.is .i64 4)] (.slot 10) true, .ptr 10 0 4, .segs [.hole (.is .i64 64)] (.slot 14) true, .ptr 14 1 64, .slot 15 (.int .i64), .slot 16 (.int .i64)]
abbrev law11_EtctwoPlanar_l0_outs : List Go.AE.Item := [.slot 3 (.bool), .slot 15 (.int .i64)]
abbrev law11_EtctwoPlanar_l0_outX : List Go.AE.Item := [.const 2 (.bool (some false) false)]
def law11_EtctwoPlanar_l0_ann (F : Nat) {ρ : Type} : Ann ρ := annX 122 law11_EtctwoPlanar_l0_ins law11_EtctwoPlanar_l0_outX law11_EtctwoPlanar_l0_outs .ret fun d => law11_EtctwoPlanar_l0 F F d.1 d.2.1 d.2.2.1 d.2.2.2.1 d.2.2.2.2.1
theorem law11_EtctwoPlanar_l0_ok (F : Nat) {ρ : Type} (B : Base) (w : World) : AnnAt (ρ := ρ) Try.prog false B w (.block 0 (.loop (loopAt (bodyOf Try.f8) 0))) (law11_EtctwoPlanar_l0_ann F) :=
  toldX_ok callable (law11_EtctwoPlanar_all F) (ins := law11_EtctwoPlanar_l0_ins) (outX := law11_EtctwoPlanar_l0_outX) (outs := law11_EtctwoPlanar_l0_outs) (anns := []) (L := fun k d => law11_EtctwoPlanar_l0 F k d.1 d.2.1 d.2.2.1 d.2.2.2.1 d.2.2.2.2.1) (annsOk_nil _ _) (fun d => rfl)
    (fun k d => (by kernel_rfl : evCode Try.prog (calT Try.prog (law11_EtctwoPlanar_tab F) _) (qcalT (law11_EtctwoPlanar_tab F) _) (annOf []) (loopAt (bodyOf Try.f8) 0) (bldS 122 law11_EtctwoPlanar_l0_ins d) (kX 122 law11_EtctwoPlanar_l0_ins law11_EtctwoPlanar_l0_outX law11_EtctwoPlanar_l0_outs 0 .ret fun d => law11_EtctwoPlanar_l0 F k d.1 d.2.1 d.2.2.1 d.2.2.2.1 d.2.2.2.2.1) = law11_EtctwoPlanar_l0S F (law11_EtctwoPlanar_l0 F k) d.1 d.2.1 d.2.2.1 d.2.2.2.1 d.2.2.2.2.1)) (by first | exact .inl rfl | exact .inr ⟨_, rfl, by decide⟩) F B w

def law11_EtctwoPlanar_told (F : Nat) : ToldF := ⟨8, 1, [.slot 0 (.is .i64 9)], [.ty (.bool)], fun d => law11_EtctwoPlanar F d.1⟩
theorem law11_EtctwoPlanar_ok (F : Nat) : (law11_EtctwoPlanar_told F).ok Try.prog :=
  toldF_ok callable (law11_EtctwoPlanar_all F) (fn := Try.f8) (t := law11_EtctwoPlanar_told F) (anns := [(0, law11_EtctwoPlanar_l0_ann F)]) (by kernel_rfl) (annsOk_cons (by kernel_rfl) (fun B w => law11_EtctwoPlanar_l0_ok F B w) (annsOk_nil _ _))
    (fun d => (by kernel_rfl : evBody Try.prog (calT Try.prog (law11_EtctwoPlanar_tab F) _) (qcalT (law11_EtctwoPlanar_tab F) _) (annOf [(0, law11_EtctwoPlanar_l0_ann F)]) 8 (bldS 1 (law11_EtctwoPlanar_told F).ins d).tmps (bldS 1 (law11_EtctwoPlanar_told F).ins d).heap (endO (law11_EtctwoPlanar_told F).os) = law11_EtctwoPlanar F d.1))

def etcone_Decode_tab (F : Nat) : List ToldF := [etcone_Parts_told F, etcone_Paint_told F]
theorem etcone_Decode_all (F : Nat) : AllOk Try.prog (etcone_Decode_tab F) := ⟨etcone_Parts_ok F, ⟨etcone_Paint_ok F, trivial⟩⟩

def etcone_Decode_told (F : Nat) : ToldF := ⟨32, 1, [.row .u8 1 (.slot 0) false], [.ty (.is .i64 64), .ty (.int .i64)], fun d => etcone_Decode F d.1⟩
theorem etcone_Decode_ok (F : Nat) : (etcone_Decode_told F).ok Try.prog :=
  toldF_ok callable (etcone_Decode_all F) (fn := Try.f32) (t := etcone_Decode_told F) (anns := []) (by kernel_rfl) (annsOk_nil _ _)
    (fun d => (by kernel_rfl : evBody Try.prog (calT Try.prog (etcone_Decode_tab F) _) (qcalT (etcone_Decode_tab F) _) (annOf []) 32 (bldS 1 (etcone_Decode_told F).ins d).tmps (bldS 1 (etcone_Decode_told F).ins d).heap (endO (etcone_Decode_told F).os) = etcone_Decode F d.1))

def law11_EtctwoOlder_tab (F : Nat) : List ToldF := [etcone_Parts_told F, etcone_Bases_told F, etctwo_Decode_told F, etctwo_Kind_told F, law11_awake_told F, etcone_Decode_told F]
theorem law11_EtctwoOlder_all (F : Nat) : AllOk Try.prog (law11_EtctwoOlder_tab F) := ⟨etcone_Parts_ok F, ⟨etcone_Bases_ok F, ⟨etctwo_Decode_ok F, ⟨etctwo_Kind_ok F, ⟨law11_awake_ok F, ⟨etcone_Decode_ok F, trivial⟩⟩⟩⟩⟩⟩

abbrev law11_EtctwoOlder_l0_ins : List Go.AE.Item := [.row .u8 1 (.slot 0) false, .slot 3 (.bool), .segs [.hole (.is .i64 64)] (.slot 4) true, .ptr 4 1 64, .segs [.hole (.is .i64 64)] (.slot 8) true, .ptr 8 2 64, .segs [.hole (.bool), .hole (.bool), .hole (.is .i64 3), .hole (.is .i64 3), .hole (.is .i64 2), .hole (.is .i64 16)] (.slot 10) true, .ptr 10 3 26, .slot 14 (.int .i64)]
abbrev law11_EtctwoOlder_l0_outs : List Go.AE.Item := [.row .u8 1 (.slot 0) false, .slot 3 (.bool), .segs [.hole (.bool), .hole (.bool), .hole (.is .i64 3), .hole (.is .i64 3), .hole (.is .i64 2), .hole (.is .i64 16)] (.slot 10) true, .ptr 10 1 26]
abbrev law11_EtctwoOlder_l0_outX : List Go.AE.Item := [.const 2 (.bool (some false) false)]
def law11_EtctwoOlder_l0_ann (F : Nat) {ρ : Type} : Ann ρ := annX 114 law11_EtctwoOlder_l0_ins law11_EtctwoOlder_l0_outX law11_EtctwoOlder_l0_outs .ret fun d => law11_EtctwoOlder_l0 F F d.1 d.2.1 d.2.2.1 d.2.2.2.1 d.2.2.2.2.1 d.2.2.2.2.2.1 d.2.2.2.2.2.2.1 d.2.2.2.2.2.2.2.1 d.2.2.2.2.2.2.2.2.1 d.2.2.2.2.2.2.2.2.2.1 d.2.2.2.2.2.2.2.2.2.2.1
theorem law11_EtctwoOlder_l0_ok (F : Nat) {ρ : Type} (B : Base) (w : World) : AnnAt (ρ := ρ) Try.prog false B w (.block 0 (.loop (loopAt (bodyOf Try.f9) 0))) (law11_EtctwoOlder_l0_ann F) :=
  toldX_ok callable (law11_EtctwoOlder_all F) (ins := law11_EtctwoOlder_l0_ins) (outX := law11_EtctwoOlder_l0_outX) (outs := law11_EtctwoOlder_l0_outs) (anns := []) (L := fun k d => law11_EtctwoOlder_l0 F k d.1 d.2.1 d.2.2.1 d.2.2.2.1 d.2.2.2.2.1 d.2.2.2.2.2.1 d.2.2.2.2.2.2.1 d.2.2.2.2.2.2.2.1 d.2.2.2.2.2.2.2.2.1 d.2.2.2.2.2.2.2.2.2.1 d.2.2.2.2.2.2.2.2.2.2.1) (annsOk_nil _ _) (fun d => rfl)
    (fun k d => (by kernel_rfl : evCode Try.prog (calT Try.prog (law11_EtctwoOlder_tab F) _) (qcalT (law11_EtctwoOlder_tab F) _) (annOf []) (loopAt (bodyOf Try.f9) 0) (bldS 114 law11_EtctwoOlder_l0_ins d) (kX 114 law11_EtctwoOlder_l0_ins law11_EtctwoOlder_l0_outX law11_EtctwoOlder_l0_outs 0 .ret fun d => law11_EtctwoOlder_l0 F k d.1 d.2.1 d.2.2.1 d.2.2.2.1 d.2.2.2.2.1 d.2.2.2.2.2.1 d.2.2.2.2.2.2.1 d.2.2.2.2.2.2.2.1 d.2.2.2.2.2.2.2.2.1 d.2.2.2.2.2.2.2.2.2.1 d.2.2.2.2.2.2.2.2.2.2.1) = law11_EtctwoOlder_l0S F (law11_EtctwoOlder_l0 F k) d.1 d.2.1 d.2.2.1 d.2.2.2.1 d.2.2.2.2.1 d.2.2.2.2.2.1 d.2.2.2.2.2.2.1 d.2.2.2.2.2.2.2.1 d.2.2.2.2.2.2.2.2.1 d.2.2.2.2.2.2.2.2.2.1 d.2.2.2.2.2.2.2.2.2.2.1)) (by first | exact .inl rfl | exact .inr ⟨_, rfl, by decide⟩) F B w

def law11_EtctwoOlder_told (F : Nat) : ToldF := ⟨9, 1, [.row .u8 1 (.slot 0) false], [.ty (.bool)], fun d => law11_EtctwoOlder F d.1⟩
theorem law11_EtctwoOlder_ok (F : Nat) : (law11_EtctwoOlder_told F).ok Try.prog :=
  toldF_ok callable (law11_EtctwoOlder_all F) (fn := Try.f9) (t := law11_EtctwoOlder_told F) (anns := [(0, law11_EtctwoOlder_l0_ann F)]) (by kernel_rfl) (annsOk_cons (by kernel_rfl) (fun B w => law11_EtctwoOlder_l0_ok F B w) (annsOk_nil _ _))
    (fun d => (by kernel_rfl : evBody Try.prog (calT Try.prog (law11_EtctwoOlder_tab F) _) (qcalT (law11_EtctwoOlder_tab F) _) (annOf [(0, law11_EtctwoOlder_l0_ann F)]) 9 (bldS 1 (law11_EtctwoOlder_told F).ins d).tmps (bldS 1 (law11_EtctwoOlder_told F).ins d).heap (endO (law11_EtctwoOlder_told F).os) = law11_EtctwoOlder F d.1))

end Go.Proofs.Ytdhhinbhckoipaa

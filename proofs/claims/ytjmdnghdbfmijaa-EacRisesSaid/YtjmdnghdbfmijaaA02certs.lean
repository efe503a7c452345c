/- Printed by a program of mine (gen.py): the Go functions of this part come to what is told. -/
import Derived.Test.YtjmdnghdbfmijaaRows
import Derived.KernelRfl
import Derived.Test.YtjmdnghdbfmijaaA02defs
set_option linter.unusedSimpArgs false
set_option maxRecDepth 100000
set_option linter.unusedVariables false
namespace Go.Proofs.Ytjmdnghdbfmijaa
open Go Go.AE Go.AE.Gn
theorem callable : Callable Try.prog := callable_of (by kernel_rfl)
def bits_room_tab (F : Nat) : List ToldF := []
theorem bits_room_all (F : Nat) : AllOk Try.prog (bits_room_tab F) := trivial

def bits_room_told (F : Nat) : ToldF := ⟨68, 3, [.row .u8 1 (.slot 0) false, .slot 1 (.int .i64), .slot 2 (.int .i64)], [.ty (.bool)], fun d => bits_room F d.1 d.2.1 d.2.2.1⟩
theorem bits_room_ok (F : Nat) : (bits_room_told F).ok Try.prog :=
  toldF_ok callable (bits_room_all F) (fn := Try.f68) (t := bits_room_told F) (anns := []) (by kernel_rfl) (annsOk_nil _ _)
    (fun d => (by kernel_rfl : evBody Try.prog (calT Try.prog (bits_room_tab F) _) (qcalT (bits_room_tab F) _) (annOf []) 68 (bldS 3 (bits_room_told F).ins d).tmps (bldS 3 (bits_room_told F).ins d).heap (fun l H' => exO H' (bits_room_told F).os l []) = bits_room F d.1 d.2.1 d.2.2.1)) rfl

def bits_check_tab (F : Nat) : List ToldF := [bits_room_told F]
theorem bits_check_all (F : Nat) : AllOk Try.prog (bits_check_tab F) := ⟨bits_room_ok F, trivial⟩

def bits_check_told (F : Nat) : ToldF := ⟨59, 3, [.row .u8 1 (.slot 0) false, .slot 1 (.int .i64), .slot 2 (.int .i64)], [.ty (.int .i64)], fun d => bits_check F d.1 d.2.1 d.2.2.1⟩
theorem bits_check_ok (F : Nat) : (bits_check_told F).ok Try.prog :=
  toldF_ok callable (bits_check_all F) (fn := Try.f59) (t := bits_check_told F) (anns := []) (by kernel_rfl) (annsOk_nil _ _)
    (fun d => (by kernel_rfl : evBody Try.prog (calT Try.prog (bits_check_tab F) _) (qcalT (bits_check_tab F) _) (annOf []) 59 (bldS 3 (bits_check_told F).ins d).tmps (bldS 3 (bits_check_told F).ins d).heap (fun l H' => exO H' (bits_check_told F).os l []) = bits_check F d.1 d.2.1 d.2.2.1)) rfl

def bits_spread_tab (F : Nat) : List ToldF := []
theorem bits_spread_all (F : Nat) : AllOk Try.prog (bits_spread_tab F) := trivial

abbrev bits_spread_l0_ins : List Go.AE.Item := [.slot 0 (.int .u8), .segs [.hole (.is .u64 8)] (.ptr 2) true, .ptr 2 0 8, .segs [.hole (.is .u64 8)] (.ptr 3) true, .ptr 3 1 8, .slot 5 (.int .i64)]
abbrev bits_spread_l0_outs : List Go.AE.Item := [.segs [.hole (.is .u64 8)] (.ptr 2) true, .ptr 2 0 8, .segs [.hole (.is .u64 8)] (.ptr 3) true, .ptr 3 1 8]
def bits_spread_l0_ann (F : Nat) {ρ : Type} : Ann ρ := annS 17 bits_spread_l0_ins bits_spread_l0_outs fun d => bits_spread_l0 F F d.1 d.2.1 d.2.2.1 d.2.2.2.1
theorem bits_spread_l0_ok (F : Nat) {ρ : Type} (B : Nat) (w : World) : AnnAt (ρ := ρ) Try.prog false B w (.block 0 (.loop (loopAt (bodyOf Try.f83) 0))) (bits_spread_l0_ann F) :=
  toldS_ok callable (bits_spread_all F) (ins := bits_spread_l0_ins) (outs := bits_spread_l0_outs) (anns := []) (L := fun k d => bits_spread_l0 F k d.1 d.2.1 d.2.2.1 d.2.2.2.1) (annsOk_nil _ _) (fun d => rfl)
    (fun k d => (by kernel_rfl : evCode Try.prog (calT Try.prog (bits_spread_tab F) _) (qcalT (bits_spread_tab F) _) (annOf []) (loopAt (bodyOf Try.f83) 0) (bldS 17 bits_spread_l0_ins d) (kS 17 bits_spread_l0_ins bits_spread_l0_outs 0 fun d => bits_spread_l0 F k d.1 d.2.1 d.2.2.1 d.2.2.2.1) = bits_spread_l0S F (bits_spread_l0 F k) d.1 d.2.1 d.2.2.1 d.2.2.2.1)) F B w

def bits_spread_told (F : Nat) : ToldF := ⟨83, 1, [.slot 0 (.int .u8)], [.ty (.is .u64 8)], fun d => bits_spread F d.1⟩
theorem bits_spread_ok (F : Nat) : (bits_spread_told F).ok Try.prog :=
  toldF_ok callable (bits_spread_all F) (fn := Try.f83) (t := bits_spread_told F) (anns := [(0, bits_spread_l0_ann F)]) (by kernel_rfl) (annsOk_cons (by kernel_rfl) (fun B w => bits_spread_l0_ok F B w) (annsOk_nil _ _))
    (fun d => (by kernel_rfl : evBody Try.prog (calT Try.prog (bits_spread_tab F) _) (qcalT (bits_spread_tab F) _) (annOf [(0, bits_spread_l0_ann F)]) 83 (bldS 1 (bits_spread_told F).ins d).tmps (bldS 1 (bits_spread_told F).ins d).heap (fun l H' => exO H' (bits_spread_told F).os l []) = bits_spread F d.1)) rfl

def bits_low_tab (F : Nat) : List ToldF := [bits_spread_told F]
theorem bits_low_all (F : Nat) : AllOk Try.prog (bits_low_tab F) := ⟨bits_spread_ok F, trivial⟩

def bits_low_told (F : Nat) : ToldF := ⟨60, 2, [.row .u8 1 (.slot 0) false, .slot 1 (.int .i64)], [.ty (.int .u64)], fun d => bits_low F d.1 d.2.1⟩
theorem bits_low_ok (F : Nat) : (bits_low_told F).ok Try.prog :=
  toldF_ok callable (bits_low_all F) (fn := Try.f60) (t := bits_low_told F) (anns := []) (by kernel_rfl) (annsOk_nil _ _)
    (fun d => (by kernel_rfl : evBody Try.prog (calT Try.prog (bits_low_tab F) _) (qcalT (bits_low_tab F) _) (annOf []) 60 (bldS 2 (bits_low_told F).ins d).tmps (bldS 2 (bits_low_told F).ins d).heap (fun l H' => exO H' (bits_low_told F).os l []) = bits_low F d.1 d.2.1)) rfl

def bits_Low_tab (F : Nat) : List ToldF := [bits_low_told F, bits_check_told F]
theorem bits_Low_all (F : Nat) : AllOk Try.prog (bits_Low_tab F) := ⟨bits_low_ok F, ⟨bits_check_ok F, trivial⟩⟩

abbrev bits_Low_l0_ins : List Go.AE.Item := [.row .u8 1 (.slot 0) false, .slot 1 (.int .i64), .slot 8 (.int .i64), .slot 9 (.int .u64), .slot 15 (.int .i64), .slot 16 (.int .i64)]
abbrev bits_Low_l0_outs : List Go.AE.Item := [.slot 8 (.int .i64), .slot 9 (.int .u64)]
abbrev bits_Low_l0_outX : List Go.AE.Item := [.const 6 (.int .u64 (some 0) 0), .slot 7 (.int .i64)]
def bits_Low_l0_ann (F : Nat) {ρ : Type} : Ann ρ := annX 34 bits_Low_l0_ins bits_Low_l0_outX bits_Low_l0_outs .ret fun d => bits_Low_l0 F F d.1 d.2.1 d.2.2.1 d.2.2.2.1 d.2.2.2.2.1 d.2.2.2.2.2.1
theorem bits_Low_l0_ok (F : Nat) {ρ : Type} (B : Nat) (w : World) : AnnAt (ρ := ρ) Try.prog false B w (.block 0 (.loop (loopAt (bodyOf Try.f24) 0))) (bits_Low_l0_ann F) :=
  toldX_ok callable (bits_Low_all F) (ins := bits_Low_l0_ins) (outX := bits_Low_l0_outX) (outs := bits_Low_l0_outs) (anns := []) (L := fun k d => bits_Low_l0 F k d.1 d.2.1 d.2.2.1 d.2.2.2.1 d.2.2.2.2.1 d.2.2.2.2.2.1) (annsOk_nil _ _) (fun d => rfl)
    (fun k d => (by kernel_rfl : evCode Try.prog (calT Try.prog (bits_Low_tab F) _) (qcalT (bits_Low_tab F) _) (annOf []) (loopAt (bodyOf Try.f24) 0) (bldS 34 bits_Low_l0_ins d) (kX 34 bits_Low_l0_ins bits_Low_l0_outX bits_Low_l0_outs 0 .ret fun d => bits_Low_l0 F k d.1 d.2.1 d.2.2.1 d.2.2.2.1 d.2.2.2.2.1 d.2.2.2.2.2.1) = bits_Low_l0S F (bits_Low_l0 F k) d.1 d.2.1 d.2.2.1 d.2.2.2.1 d.2.2.2.2.1 d.2.2.2.2.2.1)) (by first | exact .inl rfl | exact .inr ⟨_, rfl, by decide⟩) F B w

def bits_Low_told (F : Nat) : ToldF := ⟨24, 3, [.row .u8 1 (.slot 0) false, .slot 1 (.int .i64), .slot 2 (.int .i64)], [.ty (.int .u64), .ty (.int .i64)], fun d => bits_Low F d.1 d.2.1 d.2.2.1⟩
theorem bits_Low_ok (F : Nat) : (bits_Low_told F).ok Try.prog :=
  toldF_ok callable (bits_Low_all F) (fn := Try.f24) (t := bits_Low_told F) (anns := [(0, bits_Low_l0_ann F)]) (by kernel_rfl) (annsOk_cons (by kernel_rfl) (fun B w => bits_Low_l0_ok F B w) (annsOk_nil _ _))
    (fun d => (by kernel_rfl : evBody Try.prog (calT Try.prog (bits_Low_tab F) _) (qcalT (bits_Low_tab F) _) (annOf [(0, bits_Low_l0_ann F)]) 24 (bldS 3 (bits_Low_told F).ins d).tmps (bldS 3 (bits_Low_told F).ins d).heap (fun l H' => exO H' (bits_Low_told F).os l []) = bits_Low F d.1 d.2.1 d.2.2.1)) rfl

def bits_high_tab (F : Nat) : List ToldF := [bits_spread_told F]
theorem bits_high_all (F : Nat) : AllOk Try.prog (bits_high_tab F) := ⟨bits_spread_ok F, trivial⟩

def bits_high_told (F : Nat) : ToldF := ⟨63, 2, [.row .u8 1 (.slot 0) false, .slot 1 (.int .i64)], [.ty (.int .u64)], fun d => bits_high F d.1 d.2.1⟩
theorem bits_high_ok (F : Nat) : (bits_high_told F).ok Try.prog :=
  toldF_ok callable (bits_high_all F) (fn := Try.f63) (t := bits_high_told F) (anns := []) (by kernel_rfl) (annsOk_nil _ _)
    (fun d => (by kernel_rfl : evBody Try.prog (calT Try.prog (bits_high_tab F) _) (qcalT (bits_high_tab F) _) (annOf []) 63 (bldS 2 (bits_high_told F).ins d).tmps (bldS 2 (bits_high_told F).ins d).heap (fun l H' => exO H' (bits_high_told F).os l []) = bits_high F d.1 d.2.1)) rfl

def bits_High_tab (F : Nat) : List ToldF := [bits_high_told F, bits_check_told F]
theorem bits_High_all (F : Nat) : AllOk Try.prog (bits_High_tab F) := ⟨bits_high_ok F, ⟨bits_check_ok F, trivial⟩⟩

abbrev bits_High_l0_ins : List Go.AE.Item := [.row .u8 1 (.slot 0) false, .slot 1 (.int .i64), .slot 8 (.int .i64), .slot 9 (.int .u64), .slot 15 (.int .i64), .slot 16 (.int .i64)]
abbrev bits_High_l0_outs : List Go.AE.Item := [.slot 8 (.int .i64), .slot 9 (.int .u64)]
abbrev bits_High_l0_outX : List Go.AE.Item := [.const 6 (.int .u64 (some 0) 0), .slot 7 (.int .i64)]
def bits_High_l0_ann (F : Nat) {ρ : Type} : Ann ρ := annX 33 bits_High_l0_ins bits_High_l0_outX bits_High_l0_outs .ret fun d => bits_High_l0 F F d.1 d.2.1 d.2.2.1 d.2.2.2.1 d.2.2.2.2.1 d.2.2.2.2.2.1
theorem bits_High_l0_ok (F : Nat) {ρ : Type} (B : Nat) (w : World) : AnnAt (ρ := ρ) Try.prog false B w (.block 0 (.loop (loopAt (bodyOf Try.f26) 0))) (bits_High_l0_ann F) :=
  toldX_ok callable (bits_High_all F) (ins := bits_High_l0_ins) (outX := bits_High_l0_outX) (outs := bits_High_l0_outs) (anns := []) (L := fun k d => bits_High_l0 F k d.1 d.2.1 d.2.2.1 d.2.2.2.1 d.2.2.2.2.1 d.2.2.2.2.2.1) (annsOk_nil _ _) (fun d => rfl)
    (fun k d => (by kernel_rfl : evCode Try.prog (calT Try.prog (bits_High_tab F) _) (qcalT (bits_High_tab F) _) (annOf []) (loopAt (bodyOf Try.f26) 0) (bldS 33 bits_High_l0_ins d) (kX 33 bits_High_l0_ins bits_High_l0_outX bits_High_l0_outs 0 .ret fun d => bits_High_l0 F k d.1 d.2.1 d.2.2.1 d.2.2.2.1 d.2.2.2.2.1 d.2.2.2.2.2.1) = bits_High_l0S F (bits_High_l0 F k) d.1 d.2.1 d.2.2.1 d.2.2.2.1 d.2.2.2.2.1 d.2.2.2.2.2.1)) (by first | exact .inl rfl | exact .inr ⟨_, rfl, by decide⟩) F B w

def bits_High_told (F : Nat) : ToldF := ⟨26, 3, [.row .u8 1 (.slot 0) false, .slot 1 (.int .i64), .slot 2 (.int .i64)], [.ty (.int .u64), .ty (.int .i64)], fun d => bits_High F d.1 d.2.1 d.2.2.1⟩
theorem bits_High_ok (F : Nat) : (bits_High_told F).ok Try.prog :=
  toldF_ok callable (bits_High_all F) (fn := Try.f26) (t := bits_High_told F) (anns := [(0, bits_High_l0_ann F)]) (by kernel_rfl) (annsOk_cons (by kernel_rfl) (fun B w => bits_High_l0_ok F B w) (annsOk_nil _ _))
    (fun d => (by kernel_rfl : evBody Try.prog (calT Try.prog (bits_High_tab F) _) (qcalT (bits_High_tab F) _) (annOf [(0, bits_High_l0_ann F)]) 26 (bldS 3 (bits_High_told F).ins d).tmps (bldS 3 (bits_High_told F).ins d).heap (fun l H' => exO H' (bits_High_told F).os l []) = bits_High F d.1 d.2.1 d.2.2.1)) rfl

def bits_fits_tab (F : Nat) : List ToldF := [bits_check_told F]
theorem bits_fits_all (F : Nat) : AllOk Try.prog (bits_fits_tab F) := ⟨bits_check_ok F, trivial⟩

def bits_fits_told (F : Nat) : ToldF := ⟨64, 4, [.row .u8 1 (.slot 0) false, .slot 1 (.int .i64), .slot 2 (.int .i64), .slot 3 (.int .u64)], [.ty (.int .i64)], fun d => bits_fits F d.1 d.2.1 d.2.2.1 d.2.2.2.1⟩
theorem bits_fits_ok (F : Nat) : (bits_fits_told F).ok Try.prog :=
  toldF_ok callable (bits_fits_all F) (fn := Try.f64) (t := bits_fits_told F) (anns := []) (by kernel_rfl) (annsOk_nil _ _)
    (fun d => (by kernel_rfl : evBody Try.prog (calT Try.prog (bits_fits_tab F) _) (qcalT (bits_fits_tab F) _) (annOf []) 64 (bldS 4 (bits_fits_told F).ins d).tmps (bldS 4 (bits_fits_told F).ins d).heap (fun l H' => exO H' (bits_fits_told F).os l []) = bits_fits F d.1 d.2.1 d.2.2.1 d.2.2.2.1)) rfl

def slices_Clone_byte_byte_told (F : Nat) : ToldF := ⟨65, 1, [.row .u8 1 (.slot 0) false], [.row .u8 1], fun d => slices_Clone_byte_byte F d.1⟩
theorem slices_Clone_byte_byte_ok (F : Nat) : (slices_Clone_byte_byte_told F).ok Try.prog :=
  ⟨clone_spec callable (fn := Try.f65) (f := 65) (k := .u8) (sz := 1) (R0 := cloneR0 (bodyOf Try.f65)) (X := cloneX (bodyOf Try.f65)) (REST := cloneRest (bodyOf Try.f65)) (o3 := cloneO3 (bodyOf Try.f65)) (o4 := cloneO4 (bodyOf Try.f65)) (t := 35) (t' := 35) (e := 5) (i1 := 1) (by kernel_rfl) (by kernel_rfl) (by kernel_rfl) (by kernel_rfl) (by kernel_rfl) (by kernel_rfl) (by kernel_rfl)
    (cloneS1 1 .u8) (cloneS2 1 .u8)
    (fun l => by kernel_rfl) (fun l => by kernel_rfl) (fun l => ⟨rfl, rfl⟩) (fun l => by simp [cloneS2]) (fun l => by kernel_rfl) (fun l => by kernel_rfl), rfl⟩

def bits_set_tab (F : Nat) : List ToldF := []
theorem bits_set_all (F : Nat) : AllOk Try.prog (bits_set_tab F) := trivial

def bits_set_told (F : Nat) : ToldF := ⟨66, 3, [.slot 0 (.int .u8), .slot 1 (.int .i64), .slot 2 (.int .u64)], [.ty (.int .u8)], fun d => bits_set F d.1 d.2.1 d.2.2.1⟩
theorem bits_set_ok (F : Nat) : (bits_set_told F).ok Try.prog :=
  toldF_ok callable (bits_set_all F) (fn := Try.f66) (t := bits_set_told F) (anns := []) (by kernel_rfl) (annsOk_nil _ _)
    (fun d => (by kernel_rfl : evBody Try.prog (calT Try.prog (bits_set_tab F) _) (qcalT (bits_set_tab F) _) (annOf []) 66 (bldS 3 (bits_set_told F).ins d).tmps (bldS 3 (bits_set_told F).ins d).heap (fun l H' => exO H' (bits_set_told F).os l []) = bits_set F d.1 d.2.1 d.2.2.1)) rfl

def bits_SetHigh_tab (F : Nat) : List ToldF := [bits_set_told F, slices_Clone_byte_byte_told F, bits_fits_told F]
theorem bits_SetHigh_all (F : Nat) : AllOk Try.prog (bits_SetHigh_tab F) := ⟨bits_set_ok F, ⟨slices_Clone_byte_byte_ok F, ⟨bits_fits_ok F, trivial⟩⟩⟩

abbrev bits_SetHigh_l0_ins : List Go.AE.Item := [.slot 1 (.int .i64), .slot 2 (.int .i64), .slot 3 (.int .u64), .row .u8 1 (.slot 11) true, .slot 24 (.int .i64), .slot 25 (.int .i64)]
abbrev bits_SetHigh_l0_outs : List Go.AE.Item := [.row .u8 1 (.slot 11) true]
def bits_SetHigh_l0_ann (F : Nat) {ρ : Type} : Ann ρ := annS 52 bits_SetHigh_l0_ins bits_SetHigh_l0_outs fun d => bits_SetHigh_l0 F F d.1 d.2.1 d.2.2.1 d.2.2.2.1 d.2.2.2.2.1 d.2.2.2.2.2.1
theorem bits_SetHigh_l0_ok (F : Nat) {ρ : Type} (B : Nat) (w : World) : AnnAt (ρ := ρ) Try.prog false B w (.block 0 (.loop (loopAt (bodyOf Try.f29) 0))) (bits_SetHigh_l0_ann F) :=
  toldS_ok callable (bits_SetHigh_all F) (ins := bits_SetHigh_l0_ins) (outs := bits_SetHigh_l0_outs) (anns := []) (L := fun k d => bits_SetHigh_l0 F k d.1 d.2.1 d.2.2.1 d.2.2.2.1 d.2.2.2.2.1 d.2.2.2.2.2.1) (annsOk_nil _ _) (fun d => rfl)
    (fun k d => (by kernel_rfl : evCode Try.prog (calT Try.prog (bits_SetHigh_tab F) _) (qcalT (bits_SetHigh_tab F) _) (annOf []) (loopAt (bodyOf Try.f29) 0) (bldS 52 bits_SetHigh_l0_ins d) (kS 52 bits_SetHigh_l0_ins bits_SetHigh_l0_outs 0 fun d => bits_SetHigh_l0 F k d.1 d.2.1 d.2.2.1 d.2.2.2.1 d.2.2.2.2.1 d.2.2.2.2.2.1) = bits_SetHigh_l0S F (bits_SetHigh_l0 F k) d.1 d.2.1 d.2.2.1 d.2.2.2.1 d.2.2.2.2.1 d.2.2.2.2.2.1)) F B w

def bits_SetHigh_told (F : Nat) : ToldF := ⟨29, 4, [.row .u8 1 (.slot 0) false, .slot 1 (.int .i64), .slot 2 (.int .i64), .slot 3 (.int .u64)], [.row .u8 1, .ty (.int .i64)], fun d => bits_SetHigh F d.1 d.2.1 d.2.2.1 d.2.2.2.1⟩
theorem bits_SetHigh_ok (F : Nat) : (bits_SetHigh_told F).ok Try.prog :=
  toldF_ok callable (bits_SetHigh_all F) (fn := Try.f29) (t := bits_SetHigh_told F) (anns := [(0, bits_SetHigh_l0_ann F)]) (by kernel_rfl) (annsOk_cons (by kernel_rfl) (fun B w => bits_SetHigh_l0_ok F B w) (annsOk_nil _ _))
    (fun d => (by kernel_rfl : evBody Try.prog (calT Try.prog (bits_SetHigh_tab F) _) (qcalT (bits_SetHigh_tab F) _) (annOf [(0, bits_SetHigh_l0_ann F)]) 29 (bldS 4 (bits_SetHigh_told F).ins d).tmps (bldS 4 (bits_SetHigh_told F).ins d).heap (fun l H' => exO H' (bits_SetHigh_told F).os l []) = bits_SetHigh F d.1 d.2.1 d.2.2.1 d.2.2.2.1)) rfl

def bits_SetLow_tab (F : Nat) : List ToldF := [bits_set_told F, slices_Clone_byte_byte_told F, bits_fits_told F]
theorem bits_SetLow_all (F : Nat) : AllOk Try.prog (bits_SetLow_tab F) := ⟨bits_set_ok F, ⟨slices_Clone_byte_byte_ok F, ⟨bits_fits_ok F, trivial⟩⟩⟩

abbrev bits_SetLow_l0_ins : List Go.AE.Item := [.slot 1 (.int .i64), .slot 3 (.int .u64), .row .u8 1 (.slot 11) true, .slot 24 (.int .i64), .slot 25 (.int .i64)]
abbrev bits_SetLow_l0_outs : List Go.AE.Item := [.row .u8 1 (.slot 11) true]
def bits_SetLow_l0_ann (F : Nat) {ρ : Type} : Ann ρ := annS 48 bits_SetLow_l0_ins bits_SetLow_l0_outs fun d => bits_SetLow_l0 F F d.1 d.2.1 d.2.2.1 d.2.2.2.1 d.2.2.2.2.1
theorem bits_SetLow_l0_ok (F : Nat) {ρ : Type} (B : Nat) (w : World) : AnnAt (ρ := ρ) Try.prog false B w (.block 0 (.loop (loopAt (bodyOf Try.f27) 0))) (bits_SetLow_l0_ann F) :=
  toldS_ok callable (bits_SetLow_all F) (ins := bits_SetLow_l0_ins) (outs := bits_SetLow_l0_outs) (anns := []) (L := fun k d => bits_SetLow_l0 F k d.1 d.2.1 d.2.2.1 d.2.2.2.1 d.2.2.2.2.1) (annsOk_nil _ _) (fun d => rfl)
    (fun k d => (by kernel_rfl : evCode Try.prog (calT Try.prog (bits_SetLow_tab F) _) (qcalT (bits_SetLow_tab F) _) (annOf []) (loopAt (bodyOf Try.f27) 0) (bldS 48 bits_SetLow_l0_ins d) (kS 48 bits_SetLow_l0_ins bits_SetLow_l0_outs 0 fun d => bits_SetLow_l0 F k d.1 d.2.1 d.2.2.1 d.2.2.2.1 d.2.2.2.2.1) = bits_SetLow_l0S F (bits_SetLow_l0 F k) d.1 d.2.1 d.2.2.1 d.2.2.2.1 d.2.2.2.2.1)) F B w

def bits_SetLow_told (F : Nat) : ToldF := ⟨27, 4, [.row .u8 1 (.slot 0) false, .slot 1 (.int .i64), .slot 2 (.int .i64), .slot 3 (.int .u64)], [.row .u8 1, .ty (.int .i64)], fun d => bits_SetLow F d.1 d.2.1 d.2.2.1 d.2.2.2.1⟩
theorem bits_SetLow_ok (F : Nat) : (bits_SetLow_told F).ok Try.prog :=
  toldF_ok callable (bits_SetLow_all F) (fn := Try.f27) (t := bits_SetLow_told F) (anns := [(0, bits_SetLow_l0_ann F)]) (by kernel_rfl) (annsOk_cons (by kernel_rfl) (fun B w => bits_SetLow_l0_ok F B w) (annsOk_nil _ _))
    (fun d => (by kernel_rfl : evBody Try.prog (calT Try.prog (bits_SetLow_tab F) _) (qcalT (bits_SetLow_tab F) _) (annOf [(0, bits_SetLow_l0_ann F)]) 27 (bldS 4 (bits_SetLow_told F).ins d).tmps (bldS 4 (bits_SetLow_told F).ins d).heap (fun l H' => exO H' (bits_SetLow_told F).os l []) = bits_SetLow F d.1 d.2.1 d.2.2.1 d.2.2.2.1)) rfl

def bits_Lows_tab (F : Nat) : List ToldF := [bits_Low_told F, bits_room_told F]
theorem bits_Lows_all (F : Nat) : AllOk Try.prog (bits_Lows_tab F) := ⟨bits_Low_ok F, ⟨bits_room_ok F, trivial⟩⟩

abbrev bits_Lows_l1_ins : List Go.AE.Item := [.row .u8 1 (.slot 0) false, .slot 1 (.int .i64), .slot 2 (.int .i64), .row .i64 1 (.slot 10) true, .slot 41 (.int .i64), .slot 42 (.int .i64)]
abbrev bits_Lows_l1_outs : List Go.AE.Item := [.row .i64 1 (.slot 10) true]
def bits_Lows_l1_ann (F : Nat) {ρ : Type} : Ann ρ := annS 63 bits_Lows_l1_ins bits_Lows_l1_outs fun d => bits_Lows_l1 F F d.1 d.2.1 d.2.2.1 d.2.2.2.1 d.2.2.2.2.1 d.2.2.2.2.2.1
theorem bits_Lows_l1_ok (F : Nat) {ρ : Type} (B : Nat) (w : World) : AnnAt (ρ := ρ) Try.prog false B w (.block 1 (.loop (loopAt (bodyOf Try.f31) 1))) (bits_Lows_l1_ann F) :=
  toldS_ok callable (bits_Lows_all F) (ins := bits_Lows_l1_ins) (outs := bits_Lows_l1_outs) (anns := []) (L := fun k d => bits_Lows_l1 F k d.1 d.2.1 d.2.2.1 d.2.2.2.1 d.2.2.2.2.1 d.2.2.2.2.2.1) (annsOk_nil _ _) (fun d => rfl)
    (fun k d => (by kernel_rfl : evCode Try.prog (calT Try.prog (bits_Lows_tab F) _) (qcalT (bits_Lows_tab F) _) (annOf []) (loopAt (bodyOf Try.f31) 1) (bldS 63 bits_Lows_l1_ins d) (kS 63 bits_Lows_l1_ins bits_Lows_l1_outs 1 fun d => bits_Lows_l1 F k d.1 d.2.1 d.2.2.1 d.2.2.2.1 d.2.2.2.2.1 d.2.2.2.2.2.1) = bits_Lows_l1S F (bits_Lows_l1 F k) d.1 d.2.1 d.2.2.1 d.2.2.2.1 d.2.2.2.2.1 d.2.2.2.2.2.1)) F B w

def bits_Lows_told (F : Nat) : ToldF := ⟨31, 4, [.row .u8 1 (.slot 0) false, .slot 1 (.int .i64), .slot 2 (.int .i64), .slot 3 (.int .i64)], [.row .i64 1, .ty (.int .i64)], fun d => bits_Lows F d.1 d.2.1 d.2.2.1 d.2.2.2.1⟩
theorem bits_Lows_ok (F : Nat) : (bits_Lows_told F).ok Try.prog :=
  toldF_ok callable (bits_Lows_all F) (fn := Try.f31) (t := bits_Lows_told F) (anns := [(1, bits_Lows_l1_ann F)]) (by kernel_rfl) (annsOk_cons (by kernel_rfl) (fun B w => bits_Lows_l1_ok F B w) (annsOk_nil _ _))
    (fun d => (by kernel_rfl : evBody Try.prog (calT Try.prog (bits_Lows_tab F) _) (qcalT (bits_Lows_tab F) _) (annOf [(1, bits_Lows_l1_ann F)]) 31 (bldS 4 (bits_Lows_told F).ins d).tmps (bldS 4 (bits_Lows_told F).ins d).heap (fun l H' => exO H' (bits_Lows_told F).os l []) = bits_Lows F d.1 d.2.1 d.2.2.1 d.2.2.2.1)) rfl

def law02_awake_tab (F : Nat) : List ToldF := [bits_Lows_told F, bits_SetLow_told F, bits_SetHigh_told F, bits_High_told F, bits_Low_told F]
theorem law02_awake_all (F : Nat) : AllOk Try.prog (law02_awake_tab F) := ⟨bits_Lows_ok F, ⟨bits_SetLow_ok F, ⟨bits_SetHigh_ok F, ⟨bits_High_ok F, ⟨bits_Low_ok F, trivial⟩⟩⟩⟩⟩

def law02_awake_told (F : Nat) : ToldF := ⟨23, 0, [], [.ty (.bool)], fun d => law02_awake F⟩
theorem law02_awake_ok (F : Nat) : (law02_awake_told F).ok Try.prog :=
  toldF_ok callable (law02_awake_all F) (fn := Try.f23) (t := law02_awake_told F) (anns := []) (by kernel_rfl) (annsOk_nil _ _)
    (fun d => (by kernel_rfl : evBody Try.prog (calT Try.prog (law02_awake_tab F) _) (qcalT (law02_awake_tab F) _) (annOf []) 23 (bldS 0 (law02_awake_told F).ins d).tmps (bldS 0 (law02_awake_told F).ins d).heap (fun l H' => exO H' (law02_awake_told F).os l []) = law02_awake F)) rfl

def ref02_fits_tab (F : Nat) : List ToldF := []
theorem ref02_fits_all (F : Nat) : AllOk Try.prog (ref02_fits_tab F) := trivial

def ref02_fits_told (F : Nat) : ToldF := ⟨61, 3, [.row .u8 1 (.slot 0) false, .slot 1 (.int .i64), .slot 2 (.int .i64)], [.ty (.bool)], fun d => ref02_fits F d.1 d.2.1 d.2.2.1⟩
theorem ref02_fits_ok (F : Nat) : (ref02_fits_told F).ok Try.prog :=
  toldF_ok callable (ref02_fits_all F) (fn := Try.f61) (t := ref02_fits_told F) (anns := []) (by kernel_rfl) (annsOk_nil _ _)
    (fun d => (by kernel_rfl : evBody Try.prog (calT Try.prog (ref02_fits_tab F) _) (qcalT (ref02_fits_tab F) _) (annOf []) 61 (bldS 3 (ref02_fits_told F).ins d).tmps (bldS 3 (ref02_fits_told F).ins d).heap (fun l H' => exO H' (ref02_fits_told F).os l []) = ref02_fits F d.1 d.2.1 d.2.2.1)) rfl

def ref02_bit_tab (F : Nat) : List ToldF := []
theorem ref02_bit_all (F : Nat) : AllOk Try.prog (ref02_bit_tab F) := trivial

abbrev ref02_bit_l0_ins : List Go.AE.Item := [.slot 7 (.int .i64), .slot 8 (.int .i64), .slot 9 (.int .i64)]
abbrev ref02_bit_l0_outs : List Go.AE.Item := [.slot 8 (.int .i64)]
def ref02_bit_l0_ann (F : Nat) {ρ : Type} : Ann ρ := annS 30 ref02_bit_l0_ins ref02_bit_l0_outs fun d => ref02_bit_l0 F F d.1 d.2.1 d.2.2.1
theorem ref02_bit_l0_ok (F : Nat) {ρ : Type} (B : Nat) (w : World) : AnnAt (ρ := ρ) Try.prog false B w (.block 0 (.loop (loopAt (bodyOf Try.f62) 0))) (ref02_bit_l0_ann F) :=
  toldS_ok callable (ref02_bit_all F) (ins := ref02_bit_l0_ins) (outs := ref02_bit_l0_outs) (anns := []) (L := fun k d => ref02_bit_l0 F k d.1 d.2.1 d.2.2.1) (annsOk_nil _ _) (fun d => rfl)
    (fun k d => (by kernel_rfl : evCode Try.prog (calT Try.prog (ref02_bit_tab F) _) (qcalT (ref02_bit_tab F) _) (annOf []) (loopAt (bodyOf Try.f62) 0) (bldS 30 ref02_bit_l0_ins d) (kS 30 ref02_bit_l0_ins ref02_bit_l0_outs 0 fun d => ref02_bit_l0 F k d.1 d.2.1 d.2.2.1) = ref02_bit_l0S F (ref02_bit_l0 F k) d.1 d.2.1 d.2.2.1)) F B w

def ref02_bit_told (F : Nat) : ToldF := ⟨62, 3, [.row .u8 1 (.slot 0) false, .slot 1 (.int .i64), .slot 2 (.bool)], [.ty (.int .i64)], fun d => ref02_bit F d.1 d.2.1 d.2.2.1⟩
theorem ref02_bit_ok (F : Nat) : (ref02_bit_told F).ok Try.prog :=
  toldF_ok callable (ref02_bit_all F) (fn := Try.f62) (t := ref02_bit_told F) (anns := [(0, ref02_bit_l0_ann F)]) (by kernel_rfl) (annsOk_cons (by kernel_rfl) (fun B w => ref02_bit_l0_ok F B w) (annsOk_nil _ _))
    (fun d => (by kernel_rfl : evBody Try.prog (calT Try.prog (ref02_bit_tab F) _) (qcalT (ref02_bit_tab F) _) (annOf [(0, ref02_bit_l0_ann F)]) 62 (bldS 3 (ref02_bit_told F).ins d).tmps (bldS 3 (ref02_bit_told F).ins d).heap (fun l H' => exO H' (ref02_bit_told F).os l []) = ref02_bit F d.1 d.2.1 d.2.2.1)) rfl

def ref02_Get_tab (F : Nat) : List ToldF := [ref02_bit_told F, ref02_fits_told F]
theorem ref02_Get_all (F : Nat) : AllOk Try.prog (ref02_Get_tab F) := ⟨ref02_bit_ok F, ⟨ref02_fits_ok F, trivial⟩⟩

abbrev ref02_Get_l0_ins : List Go.AE.Item := [.row .u8 1 (.slot 0) false, .slot 1 (.int .i64), .slot 2 (.int .i64), .slot 3 (.bool), .slot 10 (.int .u64), .slot 11 (.int .i64)]
abbrev ref02_Get_l0_outs : List Go.AE.Item := [.slot 10 (.int .u64)]
def ref02_Get_l0_ann (F : Nat) {ρ : Type} : Ann ρ := annS 52 ref02_Get_l0_ins ref02_Get_l0_outs fun d => ref02_Get_l0 F F d.1 d.2.1 d.2.2.1 d.2.2.2.1 d.2.2.2.2.1 d.2.2.2.2.2.1
theorem ref02_Get_l0_ok (F : Nat) {ρ : Type} (B : Nat) (w : World) : AnnAt (ρ := ρ) Try.prog false B w (.block 0 (.loop (loopAt (bodyOf Try.f25) 0))) (ref02_Get_l0_ann F) :=
  toldS_ok callable (ref02_Get_all F) (ins := ref02_Get_l0_ins) (outs := ref02_Get_l0_outs) (anns := []) (L := fun k d => ref02_Get_l0 F k d.1 d.2.1 d.2.2.1 d.2.2.2.1 d.2.2.2.2.1 d.2.2.2.2.2.1) (annsOk_nil _ _) (fun d => rfl)
    (fun k d => (by kernel_rfl : evCode Try.prog (calT Try.prog (ref02_Get_tab F) _) (qcalT (ref02_Get_tab F) _) (annOf []) (loopAt (bodyOf Try.f25) 0) (bldS 52 ref02_Get_l0_ins d) (kS 52 ref02_Get_l0_ins ref02_Get_l0_outs 0 fun d => ref02_Get_l0 F k d.1 d.2.1 d.2.2.1 d.2.2.2.1 d.2.2.2.2.1 d.2.2.2.2.2.1) = ref02_Get_l0S F (ref02_Get_l0 F k) d.1 d.2.1 d.2.2.1 d.2.2.2.1 d.2.2.2.2.1 d.2.2.2.2.2.1)) F B w

def ref02_Get_told (F : Nat) : ToldF := ⟨25, 4, [.row .u8 1 (.slot 0) false, .slot 1 (.int .i64), .slot 2 (.int .i64), .slot 3 (.bool)], [.ty (.int .u64), .ty (.int .i64)], fun d => ref02_Get F d.1 d.2.1 d.2.2.1 d.2.2.2.1⟩
theorem ref02_Get_ok (F : Nat) : (ref02_Get_told F).ok Try.prog :=
  toldF_ok callable (ref02_Get_all F) (fn := Try.f25) (t := ref02_Get_told F) (anns := [(0, ref02_Get_l0_ann F)]) (by kernel_rfl) (annsOk_cons (by kernel_rfl) (fun B w => ref02_Get_l0_ok F B w) (annsOk_nil _ _))
    (fun d => (by kernel_rfl : evBody Try.prog (calT Try.prog (ref02_Get_tab F) _) (qcalT (ref02_Get_tab F) _) (annOf [(0, ref02_Get_l0_ann F)]) 25 (bldS 4 (ref02_Get_told F).ins d).tmps (bldS 4 (ref02_Get_told F).ins d).heap (fun l H' => exO H' (ref02_Get_told F).os l []) = ref02_Get F d.1 d.2.1 d.2.2.1 d.2.2.2.1)) rfl

def ref02_power_tab (F : Nat) : List ToldF := []
theorem ref02_power_all (F : Nat) : AllOk Try.prog (ref02_power_tab F) := trivial

abbrev ref02_power_l0_ins : List Go.AE.Item := [.slot 0 (.int .i64), .slot 3 (.int .u64), .slot 4 (.int .i64)]
abbrev ref02_power_l0_outs : List Go.AE.Item := [.slot 3 (.int .u64)]
def ref02_power_l0_ann (F : Nat) {ρ : Type} : Ann ρ := annS 13 ref02_power_l0_ins ref02_power_l0_outs fun d => ref02_power_l0 F F d.1 d.2.1 d.2.2.1
theorem ref02_power_l0_ok (F : Nat) {ρ : Type} (B : Nat) (w : World) : AnnAt (ρ := ρ) Try.prog false B w (.block 0 (.loop (loopAt (bodyOf Try.f67) 0))) (ref02_power_l0_ann F) :=
  toldS_ok callable (ref02_power_all F) (ins := ref02_power_l0_ins) (outs := ref02_power_l0_outs) (anns := []) (L := fun k d => ref02_power_l0 F k d.1 d.2.1 d.2.2.1) (annsOk_nil _ _) (fun d => rfl)
    (fun k d => (by kernel_rfl : evCode Try.prog (calT Try.prog (ref02_power_tab F) _) (qcalT (ref02_power_tab F) _) (annOf []) (loopAt (bodyOf Try.f67) 0) (bldS 13 ref02_power_l0_ins d) (kS 13 ref02_power_l0_ins ref02_power_l0_outs 0 fun d => ref02_power_l0 F k d.1 d.2.1 d.2.2.1) = ref02_power_l0S F (ref02_power_l0 F k) d.1 d.2.1 d.2.2.1)) F B w

def ref02_power_told (F : Nat) : ToldF := ⟨67, 1, [.slot 0 (.int .i64)], [.ty (.int .u64)], fun d => ref02_power F d.1⟩
theorem ref02_power_ok (F : Nat) : (ref02_power_told F).ok Try.prog :=
  toldF_ok callable (ref02_power_all F) (fn := Try.f67) (t := ref02_power_told F) (anns := [(0, ref02_power_l0_ann F)]) (by kernel_rfl) (annsOk_cons (by kernel_rfl) (fun B w => ref02_power_l0_ok F B w) (annsOk_nil _ _))
    (fun d => (by kernel_rfl : evBody Try.prog (calT Try.prog (ref02_power_tab F) _) (qcalT (ref02_power_tab F) _) (annOf [(0, ref02_power_l0_ann F)]) 67 (bldS 1 (ref02_power_told F).ins d).tmps (bldS 1 (ref02_power_told F).ins d).heap (fun l H' => exO H' (ref02_power_told F).os l []) = ref02_power F d.1)) rfl

def ref02_Set_tab (F : Nat) : List ToldF := [ref02_power_told F, ref02_bit_told F, ref02_Get_told F]
theorem ref02_Set_all (F : Nat) : AllOk Try.prog (ref02_Set_tab F) := ⟨ref02_power_ok F, ⟨ref02_bit_ok F, ⟨ref02_Get_ok F, trivial⟩⟩⟩

abbrev ref02_Set_l0_ins : List Go.AE.Item := [.slot 1 (.int .i64), .slot 2 (.int .i64), .slot 3 (.bool), .slot 4 (.int .u64), .row .u8 1 (.slot 14) true, .slot 15 (.int .i64)]
abbrev ref02_Set_l0_outs : List Go.AE.Item := [.row .u8 1 (.slot 14) true]
def ref02_Set_l0_ann (F : Nat) {ρ : Type} : Ann ρ := annS 91 ref02_Set_l0_ins ref02_Set_l0_outs fun d => ref02_Set_l0 F F d.1 d.2.1 d.2.2.1 d.2.2.2.1 d.2.2.2.2.1 d.2.2.2.2.2.1
theorem ref02_Set_l0_ok (F : Nat) {ρ : Type} (B : Nat) (w : World) : AnnAt (ρ := ρ) Try.prog false B w (.block 0 (.loop (loopAt (bodyOf Try.f28) 0))) (ref02_Set_l0_ann F) :=
  toldS_ok callable (ref02_Set_all F) (ins := ref02_Set_l0_ins) (outs := ref02_Set_l0_outs) (anns := []) (L := fun k d => ref02_Set_l0 F k d.1 d.2.1 d.2.2.1 d.2.2.2.1 d.2.2.2.2.1 d.2.2.2.2.2.1) (annsOk_nil _ _) (fun d => rfl)
    (fun k d => (by kernel_rfl : evCode Try.prog (calT Try.prog (ref02_Set_tab F) _) (qcalT (ref02_Set_tab F) _) (annOf []) (loopAt (bodyOf Try.f28) 0) (bldS 91 ref02_Set_l0_ins d) (kS 91 ref02_Set_l0_ins ref02_Set_l0_outs 0 fun d => ref02_Set_l0 F k d.1 d.2.1 d.2.2.1 d.2.2.2.1 d.2.2.2.2.1 d.2.2.2.2.2.1) = ref02_Set_l0S F (ref02_Set_l0 F k) d.1 d.2.1 d.2.2.1 d.2.2.2.1 d.2.2.2.2.1 d.2.2.2.2.2.1)) F B w

def ref02_Set_told (F : Nat) : ToldF := ⟨28, 5, [.row .u8 1 (.slot 0) false, .slot 1 (.int .i64), .slot 2 (.int .i64), .slot 3 (.bool), .slot 4 (.int .u64)], [.row .u8 1, .ty (.int .i64)], fun d => ref02_Set F d.1 d.2.1 d.2.2.1 d.2.2.2.1 d.2.2.2.2.1⟩
theorem ref02_Set_ok (F : Nat) : (ref02_Set_told F).ok Try.prog :=
  toldF_ok callable (ref02_Set_all F) (fn := Try.f28) (t := ref02_Set_told F) (anns := [(0, ref02_Set_l0_ann F)]) (by kernel_rfl) (annsOk_cons (by kernel_rfl) (fun B w => ref02_Set_l0_ok F B w) (annsOk_nil _ _))
    (fun d => (by kernel_rfl : evBody Try.prog (calT Try.prog (ref02_Set_tab F) _) (qcalT (ref02_Set_tab F) _) (annOf [(0, ref02_Set_l0_ann F)]) 28 (bldS 5 (ref02_Set_told F).ins d).tmps (bldS 5 (ref02_Set_told F).ins d).heap (fun l H' => exO H' (ref02_Set_told F).os l []) = ref02_Set F d.1 d.2.1 d.2.2.1 d.2.2.2.1 d.2.2.2.2.1)) rfl

def ref01_Same_tab (F : Nat) : List ToldF := []
theorem ref01_Same_all (F : Nat) : AllOk Try.prog (ref01_Same_tab F) := trivial

abbrev ref01_Same_l0_ins : List Go.AE.Item := [.row .u8 1 (.slot 0) false, .row .u8 1 (.slot 1) false, .slot 5 (.int .i64)]
abbrev ref01_Same_l0_outs : List Go.AE.Item := []
abbrev ref01_Same_l0_outX : List Go.AE.Item := [.const 4 (.bool (some false) false)]
def ref01_Same_l0_ann (F : Nat) {ρ : Type} : Ann ρ := annX 26 ref01_Same_l0_ins ref01_Same_l0_outX ref01_Same_l0_outs .ret fun d => ref01_Same_l0 F F d.1 d.2.1 d.2.2.1
theorem ref01_Same_l0_ok (F : Nat) {ρ : Type} (B : Nat) (w : World) : AnnAt (ρ := ρ) Try.prog false B w (.block 0 (.loop (loopAt (bodyOf Try.f30) 0))) (ref01_Same_l0_ann F) :=
  toldX_ok callable (ref01_Same_all F) (ins := ref01_Same_l0_ins) (outX := ref01_Same_l0_outX) (outs := ref01_Same_l0_outs) (anns := []) (L := fun k d => ref01_Same_l0 F k d.1 d.2.1 d.2.2.1) (annsOk_nil _ _) (fun d => rfl)
    (fun k d => (by kernel_rfl : evCode Try.prog (calT Try.prog (ref01_Same_tab F) _) (qcalT (ref01_Same_tab F) _) (annOf []) (loopAt (bodyOf Try.f30) 0) (bldS 26 ref01_Same_l0_ins d) (kX 26 ref01_Same_l0_ins ref01_Same_l0_outX ref01_Same_l0_outs 0 .ret fun d => ref01_Same_l0 F k d.1 d.2.1 d.2.2.1) = ref01_Same_l0S F (ref01_Same_l0 F k) d.1 d.2.1 d.2.2.1)) (by first | exact .inl rfl | exact .inr ⟨_, rfl, by decide⟩) F B w

def ref01_Same_told (F : Nat) : ToldF := ⟨30, 2, [.row .u8 1 (.slot 0) false, .row .u8 1 (.slot 1) false], [.ty (.bool)], fun d => ref01_Same F d.1 d.2.1⟩
theorem ref01_Same_ok (F : Nat) : (ref01_Same_told F).ok Try.prog :=
  toldF_ok callable (ref01_Same_all F) (fn := Try.f30) (t := ref01_Same_told F) (anns := [(0, ref01_Same_l0_ann F)]) (by kernel_rfl) (annsOk_cons (by kernel_rfl) (fun B w => ref01_Same_l0_ok F B w) (annsOk_nil _ _))
    (fun d => (by kernel_rfl : evBody Try.prog (calT Try.prog (ref01_Same_tab F) _) (qcalT (ref01_Same_tab F) _) (annOf [(0, ref01_Same_l0_ann F)]) 30 (bldS 2 (ref01_Same_told F).ins d).tmps (bldS 2 (ref01_Same_told F).ins d).heap (fun l H' => exO H' (ref01_Same_told F).os l []) = ref01_Same F d.1 d.2.1)) rfl

def ref02_Lows_tab (F : Nat) : List ToldF := [ref02_Get_told F, ref02_fits_told F]
theorem ref02_Lows_all (F : Nat) : AllOk Try.prog (ref02_Lows_tab F) := ⟨ref02_Get_ok F, ⟨ref02_fits_ok F, trivial⟩⟩

abbrev ref02_Lows_l0_ins : List Go.AE.Item := [.row .u8 1 (.slot 0) false, .slot 1 (.int .i64), .slot 2 (.int .i64), .slot 3 (.int .i64), .row .i64 1 (.slot 10) true, .slot 11 (.int .i64)]
abbrev ref02_Lows_l0_outs : List Go.AE.Item := [.row .i64 1 (.slot 10) true]
def ref02_Lows_l0_ann (F : Nat) {ρ : Type} : Ann ρ := annS 61 ref02_Lows_l0_ins ref02_Lows_l0_outs fun d => ref02_Lows_l0 F F d.1 d.2.1 d.2.2.1 d.2.2.2.1 d.2.2.2.2.1 d.2.2.2.2.2.1
theorem ref02_Lows_l0_ok (F : Nat) {ρ : Type} (B : Nat) (w : World) : AnnAt (ρ := ρ) Try.prog false B w (.block 0 (.loop (loopAt (bodyOf Try.f32) 0))) (ref02_Lows_l0_ann F) :=
  toldS_ok callable (ref02_Lows_all F) (ins := ref02_Lows_l0_ins) (outs := ref02_Lows_l0_outs) (anns := []) (L := fun k d => ref02_Lows_l0 F k d.1 d.2.1 d.2.2.1 d.2.2.2.1 d.2.2.2.2.1 d.2.2.2.2.2.1) (annsOk_nil _ _) (fun d => rfl)
    (fun k d => (by kernel_rfl : evCode Try.prog (calT Try.prog (ref02_Lows_tab F) _) (qcalT (ref02_Lows_tab F) _) (annOf []) (loopAt (bodyOf Try.f32) 0) (bldS 61 ref02_Lows_l0_ins d) (kS 61 ref02_Lows_l0_ins ref02_Lows_l0_outs 0 fun d => ref02_Lows_l0 F k d.1 d.2.1 d.2.2.1 d.2.2.2.1 d.2.2.2.2.1 d.2.2.2.2.2.1) = ref02_Lows_l0S F (ref02_Lows_l0 F k) d.1 d.2.1 d.2.2.1 d.2.2.2.1 d.2.2.2.2.1 d.2.2.2.2.2.1)) F B w

def ref02_Lows_told (F : Nat) : ToldF := ⟨32, 4, [.row .u8 1 (.slot 0) false, .slot 1 (.int .i64), .slot 2 (.int .i64), .slot 3 (.int .i64)], [.row .i64 1, .ty (.int .i64)], fun d => ref02_Lows F d.1 d.2.1 d.2.2.1 d.2.2.2.1⟩
theorem ref02_Lows_ok (F : Nat) : (ref02_Lows_told F).ok Try.prog :=
  toldF_ok callable (ref02_Lows_all F) (fn := Try.f32) (t := ref02_Lows_told F) (anns := [(0, ref02_Lows_l0_ann F)]) (by kernel_rfl) (annsOk_cons (by kernel_rfl) (fun B w => ref02_Lows_l0_ok F B w) (annsOk_nil _ _))
    (fun d => (by kernel_rfl : evBody Try.prog (calT Try.prog (ref02_Lows_tab F) _) (qcalT (ref02_Lows_tab F) _) (annOf [(0, ref02_Lows_l0_ann F)]) 32 (bldS 4 (ref02_Lows_told F).ins d).tmps (bldS 4 (ref02_Lows_told F).ins d).heap (fun l H' => exO H' (ref02_Lows_told F).os l []) = ref02_Lows F d.1 d.2.1 d.2.2.1 d.2.2.2.1)) rfl

def law02_BitsTell_tab (F : Nat) : List ToldF := [ref02_Lows_told F, bits_Lows_told F, ref01_Same_told F, ref02_Set_told F, bits_SetHigh_told F, bits_SetLow_told F, ref02_Get_told F, bits_High_told F, bits_Low_told F, law02_awake_told F]
theorem law02_BitsTell_all (F : Nat) : AllOk Try.prog (law02_BitsTell_tab F) := ⟨ref02_Lows_ok F, ⟨bits_Lows_ok F, ⟨ref01_Same_ok F, ⟨ref02_Set_ok F, ⟨bits_SetHigh_ok F, ⟨bits_SetLow_ok F, ⟨ref02_Get_ok F, ⟨bits_High_ok F, ⟨bits_Low_ok F, ⟨law02_awake_ok F, trivial⟩⟩⟩⟩⟩⟩⟩⟩⟩⟩

abbrev law02_BitsTell_l0_ins : List Go.AE.Item := [.slot 7 (.bool), .slot 8 (.int .u64), .slot 9 (.int .i64), .slot 10 (.int .u64), .slot 11 (.int .i64), .slot 12 (.int .u64), .slot 13 (.int .i64), .slot 14 (.int .u64), .slot 15 (.int .i64), .slot 17 (.int .i64), .slot 19 (.int .i64), .slot 21 (.int .i64), .slot 23 (.int .i64), .slot 24 (.bool), .slot 25 (.bool), .row .i64 1 (.slot 26) true, .slot 27 (.int .i64), .row .i64 1 (.slot 28) true, .slot 29 (.int .i64), .slot 30 (.int .i64)]
abbrev law02_BitsTell_l0_outs : List Go.AE.Item := [.slot 7 (.bool), .slot 8 (.int .u64), .slot 9 (.int .i64), .slot 10 (.int .u64), .slot 11 (.int .i64), .slot 12 (.int .u64), .slot 13 (.int .i64), .slot 14 (.int .u64), .slot 15 (.int .i64), .slot 17 (.int .i64), .slot 19 (.int .i64), .slot 21 (.int .i64), .slot 23 (.int .i64), .slot 24 (.bool), .slot 25 (.bool), .slot 27 (.int .i64), .slot 29 (.int .i64)]
abbrev law02_BitsTell_l0_outX : List Go.AE.Item := [.const 6 (.bool (some false) false)]
def law02_BitsTell_l0_ann (F : Nat) {ρ : Type} : Ann ρ := annX 202 law02_BitsTell_l0_ins law02_BitsTell_l0_outX law02_BitsTell_l0_outs .ret fun d => law02_BitsTell_l0 F F d.1 d.2.1 d.2.2.1 d.2.2.2.1 d.2.2.2.2.1 d.2.2.2.2.2.1 d.2.2.2.2.2.2.1 d.2.2.2.2.2.2.2.1 d.2.2.2.2.2.2.2.2.1 d.2.2.2.2.2.2.2.2.2.1 d.2.2.2.2.2.2.2.2.2.2.1 d.2.2.2.2.2.2.2.2.2.2.2.1 d.2.2.2.2.2.2.2.2.2.2.2.2.1 d.2.2.2.2.2.2.2.2.2.2.2.2.2.1 d.2.2.2.2.2.2.2.2.2.2.2.2.2.2.1 d.2.2.2.2.2.2.2.2.2.2.2.2.2.2.2.1 d.2.2.2.2.2.2.2.2.2.2.2.2.2.2.2.2.1 d.2.2.2.2.2.2.2.2.2.2.2.2.2.2.2.2.2.1 d.2.2.2.2.2.2.2.2.2.2.2.2.2.2.2.2.2.2.1 d.2.2.2.2.2.2.2.2.2.2.2.2.2.2.2.2.2.2.2.1
theorem law02_BitsTell_l0_ok (F : Nat) {ρ : Type} (B : Nat) (w : World) : AnnAt (ρ := ρ) Try.prog false B w (.block 0 (.loop (loopAt (bodyOf Try.f6) 0))) (law02_BitsTell_l0_ann F) :=
  toldX_ok callable (law02_BitsTell_all F) (ins := law02_BitsTell_l0_ins) (outX := law02_BitsTell_l0_outX) (outs := law02_BitsTell_l0_outs) (anns := []) (L := fun k d => law02_BitsTell_l0 F k d.1 d.2.1 d.2.2.1 d.2.2.2.1 d.2.2.2.2.1 d.2.2.2.2.2.1 d.2.2.2.2.2.2.1 d.2.2.2.2.2.2.2.1 d.2.2.2.2.2.2.2.2.1 d.2.2.2.2.2.2.2.2.2.1 d.2.2.2.2.2.2.2.2.2.2.1 d.2.2.2.2.2.2.2.2.2.2.2.1 d.2.2.2.2.2.2.2.2.2.2.2.2.1 d.2.2.2.2.2.2.2.2.2.2.2.2.2.1 d.2.2.2.2.2.2.2.2.2.2.2.2.2.2.1 d.2.2.2.2.2.2.2.2.2.2.2.2.2.2.2.1 d.2.2.2.2.2.2.2.2.2.2.2.2.2.2.2.2.1 d.2.2.2.2.2.2.2.2.2.2.2.2.2.2.2.2.2.1 d.2.2.2.2.2.2.2.2.2.2.2.2.2.2.2.2.2.2.1 d.2.2.2.2.2.2.2.2.2.2.2.2.2.2.2.2.2.2.2.1) (annsOk_nil _ _) (fun d => rfl)
    (fun k d => (by kernel_rfl : evCode Try.prog (calT Try.prog (law02_BitsTell_tab F) _) (qcalT (law02_BitsTell_tab F) _) (annOf []) (loopAt (bodyOf Try.f6) 0) (bldS 202 law02_BitsTell_l0_ins d) (kX 202 law02_BitsTell_l0_ins law02_BitsTell_l0_outX law02_BitsTell_l0_outs 0 .ret fun d => law02_BitsTell_l0 F k d.1 d.2.1 d.2.2.1 d.2.2.2.1 d.2.2.2.2.1 d.2.2.2.2.2.1 d.2.2.2.2.2.2.1 d.2.2.2.2.2.2.2.1 d.2.2.2.2.2.2.2.2.1 d.2.2.2.2.2.2.2.2.2.1 d.2.2.2.2.2.2.2.2.2.2.1 d.2.2.2.2.2.2.2.2.2.2.2.1 d.2.2.2.2.2.2.2.2.2.2.2.2.1 d.2.2.2.2.2.2.2.2.2.2.2.2.2.1 d.2.2.2.2.2.2.2.2.2.2.2.2.2.2.1 d.2.2.2.2.2.2.2.2.2.2.2.2.2.2.2.1 d.2.2.2.2.2.2.2.2.2.2.2.2.2.2.2.2.1 d.2.2.2.2.2.2.2.2.2.2.2.2.2.2.2.2.2.1 d.2.2.2.2.2.2.2.2.2.2.2.2.2.2.2.2.2.2.1 d.2.2.2.2.2.2.2.2.2.2.2.2.2.2.2.2.2.2.2.1) = law02_BitsTell_l0S F (law02_BitsTell_l0 F k) d.1 d.2.1 d.2.2.1 d.2.2.2.1 d.2.2.2.2.1 d.2.2.2.2.2.1 d.2.2.2.2.2.2.1 d.2.2.2.2.2.2.2.1 d.2.2.2.2.2.2.2.2.1 d.2.2.2.2.2.2.2.2.2.1 d.2.2.2.2.2.2.2.2.2.2.1 d.2.2.2.2.2.2.2.2.2.2.2.1 d.2.2.2.2.2.2.2.2.2.2.2.2.1 d.2.2.2.2.2.2.2.2.2.2.2.2.2.1 d.2.2.2.2.2.2.2.2.2.2.2.2.2.2.1 d.2.2.2.2.2.2.2.2.2.2.2.2.2.2.2.1 d.2.2.2.2.2.2.2.2.2.2.2.2.2.2.2.2.1 d.2.2.2.2.2.2.2.2.2.2.2.2.2.2.2.2.2.1 d.2.2.2.2.2.2.2.2.2.2.2.2.2.2.2.2.2.2.1 d.2.2.2.2.2.2.2.2.2.2.2.2.2.2.2.2.2.2.2.1)) (by first | exact .inl rfl | exact .inr ⟨_, rfl, by decide⟩) F B w

def law02_BitsTell_told (F : Nat) : ToldF := ⟨6, 3, [.row .u8 1 (.slot 0) false, .slot 1 (.is .i64 3), .slot 2 (.int .u64)], [.ty (.bool)], fun d => law02_BitsTell F d.1 d.2.1 d.2.2.1⟩
theorem law02_BitsTell_ok (F : Nat) : (law02_BitsTell_told F).ok Try.prog :=
  toldF_ok callable (law02_BitsTell_all F) (fn := Try.f6) (t := law02_BitsTell_told F) (anns := [(0, law02_BitsTell_l0_ann F)]) (by kernel_rfl) (annsOk_cons (by kernel_rfl) (fun B w => law02_BitsTell_l0_ok F B w) (annsOk_nil _ _))
    (fun d => (by kernel_rfl : evBody Try.prog (calT Try.prog (law02_BitsTell_tab F) _) (qcalT (law02_BitsTell_tab F) _) (annOf [(0, law02_BitsTell_l0_ann F)]) 6 (bldS 3 (law02_BitsTell_told F).ins d).tmps (bldS 3 (law02_BitsTell_told F).ins d).heap (fun l H' => exO H' (law02_BitsTell_told F).os l []) = law02_BitsTell F d.1 d.2.1 d.2.2.1)) rfl

def law02_BitsBack_tab (F : Nat) : List ToldF := [bits_High_told F, bits_Low_told F, bits_SetHigh_told F, bits_SetLow_told F, law02_awake_told F]
theorem law02_BitsBack_all (F : Nat) : AllOk Try.prog (law02_BitsBack_tab F) := ⟨bits_High_ok F, ⟨bits_Low_ok F, ⟨bits_SetHigh_ok F, ⟨bits_SetLow_ok F, ⟨law02_awake_ok F, trivial⟩⟩⟩⟩⟩

abbrev law02_BitsBack_l0_ins : List Go.AE.Item := [.row .u8 1 (.slot 0) false, .segs [.hole (.is .i64 2)] (.ptr 4) true, .ptr 4 1 2, .slot 7 (.bool), .row .u8 1 (.slot 8) true, .row .u8 1 (.slot 10) true, .slot 16 (.int .i64)]
abbrev law02_BitsBack_l0_outs : List Go.AE.Item := [.slot 7 (.bool)]
abbrev law02_BitsBack_l0_outX : List Go.AE.Item := [.const 6 (.bool (some false) false)]
def law02_BitsBack_l0_ann (F : Nat) {ρ : Type} : Ann ρ := annX 167 law02_BitsBack_l0_ins law02_BitsBack_l0_outX law02_BitsBack_l0_outs .ret fun d => law02_BitsBack_l0 F F d.1 d.2.1 d.2.2.1 d.2.2.2.1 d.2.2.2.2.1 d.2.2.2.2.2.1
theorem law02_BitsBack_l0_ok (F : Nat) {ρ : Type} (B : Nat) (w : World) : AnnAt (ρ := ρ) Try.prog false B w (.block 0 (.loop (loopAt (bodyOf Try.f7) 0))) (law02_BitsBack_l0_ann F) :=
  toldX_ok callable (law02_BitsBack_all F) (ins := law02_BitsBack_l0_ins) (outX := law02_BitsBack_l0_outX) (outs := law02_BitsBack_l0_outs) (anns := []) (L := fun k d => law02_BitsBack_l0 F k d.1 d.2.1 d.2.2.1 d.2.2.2.1 d.2.2.2.2.1 d.2.2.2.2.2.1) (annsOk_nil _ _) (fun d => rfl)
    (fun k d => (by kernel_rfl : evCode Try.prog (calT Try.prog (law02_BitsBack_tab F) _) (qcalT (law02_BitsBack_tab F) _) (annOf []) (loopAt (bodyOf Try.f7) 0) (bldS 167 law02_BitsBack_l0_ins d) (kX 167 law02_BitsBack_l0_ins law02_BitsBack_l0_outX law02_BitsBack_l0_outs 0 .ret fun d => law02_BitsBack_l0 F k d.1 d.2.1 d.2.2.1 d.2.2.2.1 d.2.2.2.2.1 d.2.2.2.2.2.1) = law02_BitsBack_l0S F (law02_BitsBack_l0 F k) d.1 d.2.1 d.2.2.1 d.2.2.2.1 d.2.2.2.2.1 d.2.2.2.2.2.1)) (by first | exact .inl rfl | exact .inr ⟨_, rfl, by decide⟩) F B w

def law02_BitsBack_told (F : Nat) : ToldF := ⟨7, 3, [.row .u8 1 (.slot 0) false, .slot 1 (.is .i64 2), .slot 2 (.int .u64)], [.ty (.bool)], fun d => law02_BitsBack F d.1 d.2.1 d.2.2.1⟩
theorem law02_BitsBack_ok (F : Nat) : (law02_BitsBack_told F).ok Try.prog :=
  toldF_ok callable (law02_BitsBack_all F) (fn := Try.f7) (t := law02_BitsBack_told F) (anns := [(0, law02_BitsBack_l0_ann F)]) (by kernel_rfl) (annsOk_cons (by kernel_rfl) (fun B w => law02_BitsBack_l0_ok F B w) (annsOk_nil _ _))
    (fun d => (by kernel_rfl : evBody Try.prog (calT Try.prog (law02_BitsBack_tab F) _) (qcalT (law02_BitsBack_tab F) _) (annOf [(0, law02_BitsBack_l0_ann F)]) 7 (bldS 3 (law02_BitsBack_told F).ins d).tmps (bldS 3 (law02_BitsBack_told F).ins d).heap (fun l H' => exO H' (law02_BitsBack_told F).os l []) = law02_BitsBack F d.1 d.2.1 d.2.2.1)) rfl

def law02_turned_tab (F : Nat) : List ToldF := []
theorem law02_turned_all (F : Nat) : AllOk Try.prog (law02_turned_tab F) := trivial

abbrev law02_turned_l0_ins : List Go.AE.Item := [.slot 0 (.int .u8), .slot 3 (.int .i64), .slot 4 (.int .i64)]
abbrev law02_turned_l0_outs : List Go.AE.Item := [.slot 3 (.int .i64)]
def law02_turned_l0_ann (F : Nat) {ρ : Type} : Ann ρ := annS 19 law02_turned_l0_ins law02_turned_l0_outs fun d => law02_turned_l0 F F d.1 d.2.1 d.2.2.1
theorem law02_turned_l0_ok (F : Nat) {ρ : Type} (B : Nat) (w : World) : AnnAt (ρ := ρ) Try.prog false B w (.block 0 (.loop (loopAt (bodyOf Try.f33) 0))) (law02_turned_l0_ann F) :=
  toldS_ok callable (law02_turned_all F) (ins := law02_turned_l0_ins) (outs := law02_turned_l0_outs) (anns := []) (L := fun k d => law02_turned_l0 F k d.1 d.2.1 d.2.2.1) (annsOk_nil _ _) (fun d => rfl)
    (fun k d => (by kernel_rfl : evCode Try.prog (calT Try.prog (law02_turned_tab F) _) (qcalT (law02_turned_tab F) _) (annOf []) (loopAt (bodyOf Try.f33) 0) (bldS 19 law02_turned_l0_ins d) (kS 19 law02_turned_l0_ins law02_turned_l0_outs 0 fun d => law02_turned_l0 F k d.1 d.2.1 d.2.2.1) = law02_turned_l0S F (law02_turned_l0 F k) d.1 d.2.1 d.2.2.1)) F B w

def law02_turned_told (F : Nat) : ToldF := ⟨33, 1, [.slot 0 (.int .u8)], [.ty (.int .u8)], fun d => law02_turned F d.1⟩
theorem law02_turned_ok (F : Nat) : (law02_turned_told F).ok Try.prog :=
  toldF_ok callable (law02_turned_all F) (fn := Try.f33) (t := law02_turned_told F) (anns := [(0, law02_turned_l0_ann F)]) (by kernel_rfl) (annsOk_cons (by kernel_rfl) (fun B w => law02_turned_l0_ok F B w) (annsOk_nil _ _))
    (fun d => (by kernel_rfl : evBody Try.prog (calT Try.prog (law02_turned_tab F) _) (qcalT (law02_turned_tab F) _) (annOf [(0, law02_turned_l0_ann F)]) 33 (bldS 1 (law02_turned_told F).ins d).tmps (bldS 1 (law02_turned_told F).ins d).heap (fun l H' => exO H' (law02_turned_told F).os l []) = law02_turned F d.1)) rfl

def law02_BitsTurn_tab (F : Nat) : List ToldF := [bits_High_told F, bits_Low_told F, law02_turned_told F, law02_awake_told F]
theorem law02_BitsTurn_all (F : Nat) : AllOk Try.prog (law02_BitsTurn_tab F) := ⟨bits_High_ok F, ⟨bits_Low_ok F, ⟨law02_turned_ok F, ⟨law02_awake_ok F, trivial⟩⟩⟩⟩

abbrev law02_BitsTurn_l0_ins : List Go.AE.Item := [.row .u8 1 (.slot 0) false, .slot 1 (.int .i64), .slot 5 (.bool), .row .u8 1 (.slot 6) true, .slot 7 (.int .i64)]
abbrev law02_BitsTurn_l0_outs : List Go.AE.Item := [.row .u8 1 (.slot 0) false, .slot 1 (.int .i64), .slot 5 (.bool), .row .u8 1 (.slot 6) true]
def law02_BitsTurn_l0_ann (F : Nat) {ρ : Type} : Ann ρ := annS 54 law02_BitsTurn_l0_ins law02_BitsTurn_l0_outs fun d => law02_BitsTurn_l0 F F d.1 d.2.1 d.2.2.1 d.2.2.2.1 d.2.2.2.2.1
theorem law02_BitsTurn_l0_ok (F : Nat) {ρ : Type} (B : Nat) (w : World) : AnnAt (ρ := ρ) Try.prog false B w (.block 0 (.loop (loopAt (bodyOf Try.f8) 0))) (law02_BitsTurn_l0_ann F) :=
  toldS_ok callable (law02_BitsTurn_all F) (ins := law02_BitsTurn_l0_ins) (outs := law02_BitsTurn_l0_outs) (anns := []) (L := fun k d => law02_BitsTurn_l0 F k d.1 d.2.1 d.2.2.1 d.2.2.2.1 d.2.2.2.2.1) (annsOk_nil _ _) (fun d => rfl)
    (fun k d => (by kernel_rfl : evCode Try.prog (calT Try.prog (law02_BitsTurn_tab F) _) (qcalT (law02_BitsTurn_tab F) _) (annOf []) (loopAt (bodyOf Try.f8) 0) (bldS 54 law02_BitsTurn_l0_ins d) (kS 54 law02_BitsTurn_l0_ins law02_BitsTurn_l0_outs 0 fun d => law02_BitsTurn_l0 F k d.1 d.2.1 d.2.2.1 d.2.2.2.1 d.2.2.2.2.1) = law02_BitsTurn_l0S F (law02_BitsTurn_l0 F k) d.1 d.2.1 d.2.2.1 d.2.2.2.1 d.2.2.2.2.1)) F B w

def law02_BitsTurn_told (F : Nat) : ToldF := ⟨8, 2, [.row .u8 1 (.slot 0) false, .slot 1 (.int .i64)], [.ty (.bool)], fun d => law02_BitsTurn F d.1 d.2.1⟩
theorem law02_BitsTurn_ok (F : Nat) : (law02_BitsTurn_told F).ok Try.prog :=
  toldF_ok callable (law02_BitsTurn_all F) (fn := Try.f8) (t := law02_BitsTurn_told F) (anns := [(0, law02_BitsTurn_l0_ann F)]) (by kernel_rfl) (annsOk_cons (by kernel_rfl) (fun B w => law02_BitsTurn_l0_ok F B w) (annsOk_nil _ _))
    (fun d => (by kernel_rfl : evBody Try.prog (calT Try.prog (law02_BitsTurn_tab F) _) (qcalT (law02_BitsTurn_tab F) _) (annOf [(0, law02_BitsTurn_l0_ann F)]) 8 (bldS 2 (law02_BitsTurn_told F).ins d).tmps (bldS 2 (law02_BitsTurn_told F).ins d).heap (fun l H' => exO H' (law02_BitsTurn_told F).os l []) = law02_BitsTurn F d.1 d.2.1)) rfl

end Go.Proofs.Ytjmdnghdbfmijaa

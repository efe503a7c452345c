/- Printed by a program of mine (gen.py): the Go functions of this part come to what is told. -/
import Derived.Test.YtjmdnghdbfmijaaRows
import Derived.KernelRfl
import Derived.Test.YtjmdnghdbfmijaaA07defs
set_option linter.unusedSimpArgs false
set_option maxRecDepth 100000
set_option linter.unusedVariables false
namespace Go.Proofs.Ytjmdnghdbfmijaa
open Go Go.AE Go.AE.Gn
theorem callable : Callable Try.prog := callable_of (by kernel_rfl)
def bits_room_tab (F : Nat) : List ToldF := []
theorem bits_room_all (F : Nat) : AllOk Try.prog (bits_room_tab F) := trivial

def bits_room_told (F : Nat) : ToldF := ⟨68, 3, [.row .u8 1 (.slot 0) false, .slot 1 (.int .i64), .slot 2 (.int .i64)], [.ty (.bool)], fun d => bits_room F d.1 d.2.1 d.2.2.1⟩
theorem bits_room_ok (F : Nat) : (bits_room_told F).ok Try.prog :=
  toldF_ok callable (bits_room_all F) (fn := Try.f68) (t := bits_room_told F) (anns := []) (by kernel_rfl) (annsOk_nil _ _)
    (fun d => (by kernel_rfl : evBody Try.prog (calT Try.prog (bits_room_tab F) _) (qcalT (bits_room_tab F) _) (annOf []) 68 (bldS 3 (bits_room_told F).ins d).tmps (bldS 3 (bits_room_told F).ins d).heap (endO (bits_room_told F).os) = bits_room F d.1 d.2.1 d.2.2.1))

def bits_check_tab (F : Nat) : List ToldF := [bits_room_told F]
theorem bits_check_all (F : Nat) : AllOk Try.prog (bits_check_tab F) := ⟨bits_room_ok F, trivial⟩

def bits_check_told (F : Nat) : ToldF := ⟨59, 3, [.row .u8 1 (.slot 0) false, .slot 1 (.int .i64), .slot 2 (.int .i64)], [.ty (.int .i64)], fun d => bits_check F d.1 d.2.1 d.2.2.1⟩
theorem bits_check_ok (F : Nat) : (bits_check_told F).ok Try.prog :=
  toldF_ok callable (bits_check_all F) (fn := Try.f59) (t := bits_check_told F) (anns := []) (by kernel_rfl) (annsOk_nil _ _)
    (fun d => (by kernel_rfl : evBody Try.prog (calT Try.prog (bits_check_tab F) _) (qcalT (bits_check_tab F) _) (annOf []) 59 (bldS 3 (bits_check_told F).ins d).tmps (bldS 3 (bits_check_told F).ins d).heap (endO (bits_check_told F).os) = bits_check F d.1 d.2.1 d.2.2.1))

def bits_fits_tab (F : Nat) : List ToldF := [bits_check_told F]
theorem bits_fits_all (F : Nat) : AllOk Try.prog (bits_fits_tab F) := ⟨bits_check_ok F, trivial⟩

def bits_fits_told (F : Nat) : ToldF := ⟨64, 4, [.row .u8 1 (.slot 0) false, .slot 1 (.int .i64), .slot 2 (.int .i64), .slot 3 (.int .u64)], [.ty (.int .i64)], fun d => bits_fits F d.1 d.2.1 d.2.2.1 d.2.2.2.1⟩
theorem bits_fits_ok (F : Nat) : (bits_fits_told F).ok Try.prog :=
  toldF_ok callable (bits_fits_all F) (fn := Try.f64) (t := bits_fits_told F) (anns := []) (by kernel_rfl) (annsOk_nil _ _)
    (fun d => (by kernel_rfl : evBody Try.prog (calT Try.prog (bits_fits_tab F) _) (qcalT (bits_fits_tab F) _) (annOf []) 64 (bldS 4 (bits_fits_told F).ins d).tmps (bldS 4 (bits_fits_told F).ins d).heap (endO (bits_fits_told F).os) = bits_fits F d.1 d.2.1 d.2.2.1 d.2.2.2.1))

def slices_Clone_byte_byte_told (F : Nat) : ToldF := ⟨65, 1, [.row .u8 1 (.slot 0) false], [.row .u8 1], fun d => slices_Clone_byte_byte F d.1⟩
theorem slices_Clone_byte_byte_ok (F : Nat) : (slices_Clone_byte_byte_told F).ok Try.prog :=
  clone_spec callable (fn := Try.f65) (f := 65) (k := .u8) (sz := 1) (R0 := cloneR0 (bodyOf Try.f65)) (X := cloneX (bodyOf Try.f65)) (REST := cloneRest (bodyOf Try.f65)) (o3 := cloneO3 (bodyOf Try.f65)) (o4 := cloneO4 (bodyOf Try.f65)) (t := 35) (t' := 35) (e := 5) (i1 := 1) (by kernel_rfl) (by kernel_rfl) (by kernel_rfl) (by kernel_rfl) (by kernel_rfl) (by kernel_rfl) (by kernel_rfl)
    (cloneS1 1 .u8) (cloneS2 1 .u8)
    (fun l => by kernel_rfl) (fun l => by kernel_rfl) (fun l => ⟨rfl, rfl⟩) (fun l => by simp [cloneS2]) (fun l => by kernel_rfl) (fun l => by kernel_rfl)

def bits_set_tab (F : Nat) : List ToldF := []
theorem bits_set_all (F : Nat) : AllOk Try.prog (bits_set_tab F) := trivial

def bits_set_told (F : Nat) : ToldF := ⟨66, 3, [.slot 0 (.int .u8), .slot 1 (.int .i64), .slot 2 (.int .u64)], [.ty (.int .u8)], fun d => bits_set F d.1 d.2.1 d.2.2.1⟩
theorem bits_set_ok (F : Nat) : (bits_set_told F).ok Try.prog :=
  toldF_ok callable (bits_set_all F) (fn := Try.f66) (t := bits_set_told F) (anns := []) (by kernel_rfl) (annsOk_nil _ _)
    (fun d => (by kernel_rfl : evBody Try.prog (calT Try.prog (bits_set_tab F) _) (qcalT (bits_set_tab F) _) (annOf []) 66 (bldS 3 (bits_set_told F).ins d).tmps (bldS 3 (bits_set_told F).ins d).heap (endO (bits_set_told F).os) = bits_set F d.1 d.2.1 d.2.2.1))

def bits_SetLow_tab (F : Nat) : List ToldF := [bits_fits_told F, slices_Clone_byte_byte_told F, bits_set_told F]
theorem bits_SetLow_all (F : Nat) : AllOk Try.prog (bits_SetLow_tab F) := ⟨bits_fits_ok F, ⟨slices_Clone_byte_byte_ok F, ⟨bits_set_ok F, trivial⟩⟩⟩

abbrev bits_SetLow_l0_ins : List Go.AE.Item := [.slot 1 (.int .i64), .slot 3 (.int .u64), .row .u8 1 (.slot 11) true, .slot 24 (.int .i64), .slot 25 (.int .i64)]
abbrev bits_SetLow_l0_outs : List Go.AE.Item := [.row .u8 1 (.slot 11) true]
def bits_SetLow_l0_ann (F : Nat) {ρ : Type} : Ann ρ := annS 48 bits_SetLow_l0_ins bits_SetLow_l0_outs fun d => bits_SetLow_l0 F F d.1 d.2.1 d.2.2.1 d.2.2.2.1 d.2.2.2.2.1
theorem bits_SetLow_l0_ok (F : Nat) {ρ : Type} (B : Base) (w : World) : AnnAt (ρ := ρ) Try.prog false B w (.block 0 (.loop (loopAt (bodyOf Try.f27) 0))) (bits_SetLow_l0_ann F) :=
  toldS_ok callable (bits_SetLow_all F) (ins := bits_SetLow_l0_ins) (outs := bits_SetLow_l0_outs) (anns := []) (L := fun k d => bits_SetLow_l0 F k d.1 d.2.1 d.2.2.1 d.2.2.2.1 d.2.2.2.2.1) (annsOk_nil _ _) (fun d => rfl)
    (fun k d => (by kernel_rfl : evCode Try.prog (calT Try.prog (bits_SetLow_tab F) _) (qcalT (bits_SetLow_tab F) _) (annOf []) (loopAt (bodyOf Try.f27) 0) (bldS 48 bits_SetLow_l0_ins d) (kS 48 bits_SetLow_l0_ins bits_SetLow_l0_outs 0 fun d => bits_SetLow_l0 F k d.1 d.2.1 d.2.2.1 d.2.2.2.1 d.2.2.2.2.1) = bits_SetLow_l0S F (bits_SetLow_l0 F k) d.1 d.2.1 d.2.2.1 d.2.2.2.1 d.2.2.2.2.1)) F B w

def bits_SetLow_told (F : Nat) : ToldF := ⟨27, 4, [.row .u8 1 (.slot 0) false, .slot 1 (.int .i64), .slot 2 (.int .i64), .slot 3 (.int .u64)], [.row .u8 1, .ty (.int .i64)], fun d => bits_SetLow F d.1 d.2.1 d.2.2.1 d.2.2.2.1⟩
theorem bits_SetLow_ok (F : Nat) : (bits_SetLow_told F).ok Try.prog :=
  toldF_ok callable (bits_SetLow_all F) (fn := Try.f27) (t := bits_SetLow_told F) (anns := [(0, bits_SetLow_l0_ann F)]) (by kernel_rfl) (annsOk_cons (by kernel_rfl) (fun B w => bits_SetLow_l0_ok F B w) (annsOk_nil _ _))
    (fun d => (by kernel_rfl : evBody Try.prog (calT Try.prog (bits_SetLow_tab F) _) (qcalT (bits_SetLow_tab F) _) (annOf [(0, bits_SetLow_l0_ann F)]) 27 (bldS 4 (bits_SetLow_told F).ins d).tmps (bldS 4 (bits_SetLow_told F).ins d).heap (endO (bits_SetLow_told F).os) = bits_SetLow F d.1 d.2.1 d.2.2.1 d.2.2.2.1))

def bcfour_joined_tab (F : Nat) : List ToldF := [bits_SetLow_told F]
theorem bcfour_joined_all (F : Nat) : AllOk Try.prog (bcfour_joined_tab F) := ⟨bits_SetLow_ok F, trivial⟩

abbrev bcfour_joined_l0_ins : List Go.AE.Item := [.slot 0 (.int .u64), .slot 1 (.int .i64), .slot 2 (.int .i64), .slot 12 (.is .i64 16), .slot 13 (.int .i64)]
abbrev bcfour_joined_l0_outs : List Go.AE.Item := [.slot 0 (.int .u64)]
abbrev bcfour_joined_l0_outX : List Go.AE.Item := [.const 8 .nils, .const 9 (.int .i64 (some 1) 1)]
def bcfour_joined_l0_ann (F : Nat) {ρ : Type} : Ann ρ := annX 41 bcfour_joined_l0_ins bcfour_joined_l0_outX bcfour_joined_l0_outs .ret fun d => bcfour_joined_l0 F F d.1 d.2.1 d.2.2.1 d.2.2.2.1 d.2.2.2.2.1
theorem bcfour_joined_l0_ok (F : Nat) {ρ : Type} (B : Base) (w : World) : AnnAt (ρ := ρ) Try.prog false B w (.block 0 (.loop (loopAt (bodyOf Try.f76) 0))) (bcfour_joined_l0_ann F) :=
  toldX_ok callable (bcfour_joined_all F) (ins := bcfour_joined_l0_ins) (outX := bcfour_joined_l0_outX) (outs := bcfour_joined_l0_outs) (anns := []) (L := fun k d => bcfour_joined_l0 F k d.1 d.2.1 d.2.2.1 d.2.2.2.1 d.2.2.2.2.1) (annsOk_nil _ _) (fun d => rfl)
    (fun k d => (by kernel_rfl : evCode Try.prog (calT Try.prog (bcfour_joined_tab F) _) (qcalT (bcfour_joined_tab F) _) (annOf []) (loopAt (bodyOf Try.f76) 0) (bldS 41 bcfour_joined_l0_ins d) (kX 41 bcfour_joined_l0_ins bcfour_joined_l0_outX bcfour_joined_l0_outs 0 .ret fun d => bcfour_joined_l0 F k d.1 d.2.1 d.2.2.1 d.2.2.2.1 d.2.2.2.2.1) = bcfour_joined_l0S F (bcfour_joined_l0 F k) d.1 d.2.1 d.2.2.1 d.2.2.2.1 d.2.2.2.2.1)) (by first | exact .inl rfl | exact .inr ⟨_, rfl, by decide⟩) F B w

def bcfour_joined_told (F : Nat) : ToldF := ⟨76, 4, [.slot 0 (.int .u64), .slot 1 (.int .i64), .slot 2 (.int .i64), .slot 3 (.is .i64 16)], [.row .u8 1, .ty (.int .i64)], fun d => bcfour_joined F d.1 d.2.1 d.2.2.1 d.2.2.2.1⟩
theorem bcfour_joined_ok (F : Nat) : (bcfour_joined_told F).ok Try.prog :=
  toldF_ok callable (bcfour_joined_all F) (fn := Try.f76) (t := bcfour_joined_told F) (anns := [(0, bcfour_joined_l0_ann F)]) (by kernel_rfl) (annsOk_cons (by kernel_rfl) (fun B w => bcfour_joined_l0_ok F B w) (annsOk_nil _ _))
    (fun d => (by kernel_rfl : evBody Try.prog (calT Try.prog (bcfour_joined_tab F) _) (qcalT (bcfour_joined_tab F) _) (annOf [(0, bcfour_joined_l0_ann F)]) 76 (bldS 4 (bcfour_joined_told F).ins d).tmps (bldS 4 (bcfour_joined_told F).ins d).heap (endO (bcfour_joined_told F).os) = bcfour_joined F d.1 d.2.1 d.2.2.1 d.2.2.2.1))

def bcfour_Join_tab (F : Nat) : List ToldF := [bcfour_joined_told F]
theorem bcfour_Join_all (F : Nat) : AllOk Try.prog (bcfour_Join_tab F) := ⟨bcfour_joined_ok F, trivial⟩

def bcfour_Join_told (F : Nat) : ToldF := ⟨45, 3, [.slot 0 (.int .i64), .slot 1 (.int .i64), .slot 2 (.is .i64 16)], [.row .u8 1, .ty (.int .i64)], fun d => bcfour_Join F d.1 d.2.1 d.2.2.1⟩
theorem bcfour_Join_ok (F : Nat) : (bcfour_Join_told F).ok Try.prog :=
  toldF_ok callable (bcfour_Join_all F) (fn := Try.f45) (t := bcfour_Join_told F) (anns := []) (by kernel_rfl) (annsOk_nil _ _)
    (fun d => (by kernel_rfl : evBody Try.prog (calT Try.prog (bcfour_Join_tab F) _) (qcalT (bcfour_Join_tab F) _) (annOf []) 45 (bldS 3 (bcfour_Join_told F).ins d).tmps (bldS 3 (bcfour_Join_told F).ins d).heap (endO (bcfour_Join_told F).os) = bcfour_Join F d.1 d.2.1 d.2.2.1))

def bits_spread_tab (F : Nat) : List ToldF := []
theorem bits_spread_all (F : Nat) : AllOk Try.prog (bits_spread_tab F) := trivial

abbrev bits_spread_l0_ins : List Go.AE.Item := [.slot 0 (.int .u8), .segs [.hole (.is .u64 8)] (.slot 2) true, .ptr 2 0 8, .segs [.hole (.is .u64 8)] (.slot 3) true, .ptr 3 1 8, .slot 5 (.int .i64)]
abbrev bits_spread_l0_outs : List Go.AE.Item := [.segs [.hole (.is .u64 8)] (.slot 2) true, .ptr 2 0 8, .segs [.hole (.is .u64 8)] (.slot 3) true, .ptr 3 1 8]
def bits_spread_l0_ann (F : Nat) {ρ : Type} : Ann ρ := annS 17 bits_spread_l0_ins bits_spread_l0_outs fun d => bits_spread_l0 F F d.1 d.2.1 d.2.2.1 d.2.2.2.1
theorem bits_spread_l0_ok (F : Nat) {ρ : Type} (B : Base) (w : World) : AnnAt (ρ := ρ) Try.prog false B w (.block 0 (.loop (loopAt (bodyOf Try.f83) 0))) (bits_spread_l0_ann F) :=
  toldS_ok callable (bits_spread_all F) (ins := bits_spread_l0_ins) (outs := bits_spread_l0_outs) (anns := []) (L := fun k d => bits_spread_l0 F k d.1 d.2.1 d.2.2.1 d.2.2.2.1) (annsOk_nil _ _) (fun d => rfl)
    (fun k d => (by kernel_rfl : evCode Try.prog (calT Try.prog (bits_spread_tab F) _) (qcalT (bits_spread_tab F) _) (annOf []) (loopAt (bodyOf Try.f83) 0) (bldS 17 bits_spread_l0_ins d) (kS 17 bits_spread_l0_ins bits_spread_l0_outs 0 fun d => bits_spread_l0 F k d.1 d.2.1 d.2.2.1 d.2.2.2.1) = bits_spread_l0S F (bits_spread_l0 F k) d.1 d.2.1 d.2.2.1 d.2.2.2.1)) F B w

def bits_spread_told (F : Nat) : ToldF := ⟨83, 1, [.slot 0 (.int .u8)], [.ty (.is .u64 8)], fun d => bits_spread F d.1⟩
theorem bits_spread_ok (F : Nat) : (bits_spread_told F).ok Try.prog :=
  toldF_ok callable (bits_spread_all F) (fn := Try.f83) (t := bits_spread_told F) (anns := [(0, bits_spread_l0_ann F)]) (by kernel_rfl) (annsOk_cons (by kernel_rfl) (fun B w => bits_spread_l0_ok F B w) (annsOk_nil _ _))
    (fun d => (by kernel_rfl : evBody Try.prog (calT Try.prog (bits_spread_tab F) _) (qcalT (bits_spread_tab F) _) (annOf [(0, bits_spread_l0_ann F)]) 83 (bldS 1 (bits_spread_told F).ins d).tmps (bldS 1 (bits_spread_told F).ins d).heap (endO (bits_spread_told F).os) = bits_spread F d.1))

def bits_low_tab (F : Nat) : List ToldF := [bits_spread_told F]
theorem bits_low_all (F : Nat) : AllOk Try.prog (bits_low_tab F) := ⟨bits_spread_ok F, trivial⟩

def bits_low_told (F : Nat) : ToldF := ⟨60, 2, [.row .u8 1 (.slot 0) false, .slot 1 (.int .i64)], [.ty (.int .u64)], fun d => bits_low F d.1 d.2.1⟩
theorem bits_low_ok (F : Nat) : (bits_low_told F).ok Try.prog :=
  toldF_ok callable (bits_low_all F) (fn := Try.f60) (t := bits_low_told F) (anns := []) (by kernel_rfl) (annsOk_nil _ _)
    (fun d => (by kernel_rfl : evBody Try.prog (calT Try.prog (bits_low_tab F) _) (qcalT (bits_low_tab F) _) (annOf []) 60 (bldS 2 (bits_low_told F).ins d).tmps (bldS 2 (bits_low_told F).ins d).heap (endO (bits_low_told F).os) = bits_low F d.1 d.2.1))

def bits_Low_tab (F : Nat) : List ToldF := [bits_check_told F, bits_low_told F]
theorem bits_Low_all (F : Nat) : AllOk Try.prog (bits_Low_tab F) := ⟨bits_check_ok F, ⟨bits_low_ok F, trivial⟩⟩

abbrev bits_Low_l0_ins : List Go.AE.Item := [.row .u8 1 (.slot 0) false, .slot 1 (.int .i64), .slot 8 (.int .i64), .slot 9 (.int .u64), .slot 15 (.int .i64), .slot 16 (.int .i64)]
abbrev bits_Low_l0_outs : List Go.AE.Item := [.slot 8 (.int .i64), .slot 9 (.int .u64)]
abbrev bits_Low_l0_outX : List Go.AE.Item := [.const 6 (.int .u64 (some 0) 0), .slot 7 (.int .i64)]
def bits_Low_l0_ann (F : Nat) {ρ : Type} : Ann ρ := annX 34 bits_Low_l0_ins bits_Low_l0_outX bits_Low_l0_outs .ret fun d => bits_Low_l0 F F d.1 d.2.1 d.2.2.1 d.2.2.2.1 d.2.2.2.2.1 d.2.2.2.2.2.1
theorem bits_Low_l0_ok (F : Nat) {ρ : Type} (B : Base) (w : World) : AnnAt (ρ := ρ) Try.prog false B w (.block 0 (.loop (loopAt (bodyOf Try.f24) 0))) (bits_Low_l0_ann F) :=
  toldX_ok callable (bits_Low_all F) (ins := bits_Low_l0_ins) (outX := bits_Low_l0_outX) (outs := bits_Low_l0_outs) (anns := []) (L := fun k d => bits_Low_l0 F k d.1 d.2.1 d.2.2.1 d.2.2.2.1 d.2.2.2.2.1 d.2.2.2.2.2.1) (annsOk_nil _ _) (fun d => rfl)
    (fun k d => (by kernel_rfl : evCode Try.prog (calT Try.prog (bits_Low_tab F) _) (qcalT (bits_Low_tab F) _) (annOf []) (loopAt (bodyOf Try.f24) 0) (bldS 34 bits_Low_l0_ins d) (kX 34 bits_Low_l0_ins bits_Low_l0_outX bits_Low_l0_outs 0 .ret fun d => bits_Low_l0 F k d.1 d.2.1 d.2.2.1 d.2.2.2.1 d.2.2.2.2.1 d.2.2.2.2.2.1) = bits_Low_l0S F (bits_Low_l0 F k) d.1 d.2.1 d.2.2.1 d.2.2.2.1 d.2.2.2.2.1 d.2.2.2.2.2.1)) (by first | exact .inl rfl | exact .inr ⟨_, rfl, by decide⟩) F B w

def bits_Low_told (F : Nat) : ToldF := ⟨24, 3, [.row .u8 1 (.slot 0) false, .slot 1 (.int .i64), .slot 2 (.int .i64)], [.ty (.int .u64), .ty (.int .i64)], fun d => bits_Low F d.1 d.2.1 d.2.2.1⟩
theorem bits_Low_ok (F : Nat) : (bits_Low_told F).ok Try.prog :=
  toldF_ok callable (bits_Low_all F) (fn := Try.f24) (t := bits_Low_told F) (anns := [(0, bits_Low_l0_ann F)]) (by kernel_rfl) (annsOk_cons (by kernel_rfl) (fun B w => bits_Low_l0_ok F B w) (annsOk_nil _ _))
    (fun d => (by kernel_rfl : evBody Try.prog (calT Try.prog (bits_Low_tab F) _) (qcalT (bits_Low_tab F) _) (annOf [(0, bits_Low_l0_ann F)]) 24 (bldS 3 (bits_Low_told F).ins d).tmps (bldS 3 (bits_Low_told F).ins d).heap (endO (bits_Low_told F).os) = bits_Low F d.1 d.2.1 d.2.2.1))

def bits_Lows_tab (F : Nat) : List ToldF := [bits_room_told F, bits_Low_told F]
theorem bits_Lows_all (F : Nat) : AllOk Try.prog (bits_Lows_tab F) := ⟨bits_room_ok F, ⟨bits_Low_ok F, trivial⟩⟩

abbrev bits_Lows_l1_ins : List Go.AE.Item := [.row .u8 1 (.slot 0) false, .slot 1 (.int .i64), .slot 2 (.int .i64), .row .i64 1 (.slot 10) true, .slot 41 (.int .i64), .slot 42 (.int .i64)]
abbrev bits_Lows_l1_outs : List Go.AE.Item := [.row .i64 1 (.slot 10) true]
def bits_Lows_l1_ann (F : Nat) {ρ : Type} : Ann ρ := annS 63 bits_Lows_l1_ins bits_Lows_l1_outs fun d => bits_Lows_l1 F F d.1 d.2.1 d.2.2.1 d.2.2.2.1 d.2.2.2.2.1 d.2.2.2.2.2.1
theorem bits_Lows_l1_ok (F : Nat) {ρ : Type} (B : Base) (w : World) : AnnAt (ρ := ρ) Try.prog false B w (.block 1 (.loop (loopAt (bodyOf Try.f31) 1))) (bits_Lows_l1_ann F) :=
  toldS_ok callable (bits_Lows_all F) (ins := bits_Lows_l1_ins) (outs := bits_Lows_l1_outs) (anns := []) (L := fun k d => bits_Lows_l1 F k d.1 d.2.1 d.2.2.1 d.2.2.2.1 d.2.2.2.2.1 d.2.2.2.2.2.1) (annsOk_nil _ _) (fun d => rfl)
    (fun k d => (by kernel_rfl : evCode Try.prog (calT Try.prog (bits_Lows_tab F) _) (qcalT (bits_Lows_tab F) _) (annOf []) (loopAt (bodyOf Try.f31) 1) (bldS 63 bits_Lows_l1_ins d) (kS 63 bits_Lows_l1_ins bits_Lows_l1_outs 1 fun d => bits_Lows_l1 F k d.1 d.2.1 d.2.2.1 d.2.2.2.1 d.2.2.2.2.1 d.2.2.2.2.2.1) = bits_Lows_l1S F (bits_Lows_l1 F k) d.1 d.2.1 d.2.2.1 d.2.2.2.1 d.2.2.2.2.1 d.2.2.2.2.2.1)) F B w

def bits_Lows_told (F : Nat) : ToldF := ⟨31, 4, [.row .u8 1 (.slot 0) false, .slot 1 (.int .i64), .slot 2 (.int .i64), .slot 3 (.int .i64)], [.row .i64 1, .ty (.int .i64)], fun d => bits_Lows F d.1 d.2.1 d.2.2.1 d.2.2.2.1⟩
theorem bits_Lows_ok (F : Nat) : (bits_Lows_told F).ok Try.prog :=
  toldF_ok callable (bits_Lows_all F) (fn := Try.f31) (t := bits_Lows_told F) (anns := [(1, bits_Lows_l1_ann F)]) (by kernel_rfl) (annsOk_cons (by kernel_rfl) (fun B w => bits_Lows_l1_ok F B w) (annsOk_nil _ _))
    (fun d => (by kernel_rfl : evBody Try.prog (calT Try.prog (bits_Lows_tab F) _) (qcalT (bits_Lows_tab F) _) (annOf [(1, bits_Lows_l1_ann F)]) 31 (bldS 4 (bits_Lows_told F).ins d).tmps (bldS 4 (bits_Lows_told F).ins d).heap (endO (bits_Lows_told F).os) = bits_Lows F d.1 d.2.1 d.2.2.1 d.2.2.2.1))

def bcfour_Parts_tab (F : Nat) : List ToldF := [bits_Lows_told F]
theorem bcfour_Parts_all (F : Nat) : AllOk Try.prog (bcfour_Parts_tab F) := ⟨bits_Lows_ok F, trivial⟩

def bcfour_Parts_told (F : Nat) : ToldF := ⟨39, 1, [.row .u8 1 (.slot 0) false], [.ty (.int .i64), .ty (.int .i64), .ty (.is .i64 16), .ty (.int .i64)], fun d => bcfour_Parts F d.1⟩
theorem bcfour_Parts_ok (F : Nat) : (bcfour_Parts_told F).ok Try.prog :=
  toldF_ok callable (bcfour_Parts_all F) (fn := Try.f39) (t := bcfour_Parts_told F) (anns := []) (by kernel_rfl) (annsOk_nil _ _)
    (fun d => (by kernel_rfl : evBody Try.prog (calT Try.prog (bcfour_Parts_tab F) _) (qcalT (bcfour_Parts_tab F) _) (annOf []) 39 (bldS 1 (bcfour_Parts_told F).ins d).tmps (bldS 1 (bcfour_Parts_told F).ins d).heap (endO (bcfour_Parts_told F).os) = bcfour_Parts F d.1))

def level_Mix_tab (F : Nat) : List ToldF := []
theorem level_Mix_all (F : Nat) : AllOk Try.prog (level_Mix_tab F) := trivial

def level_Mix_told (F : Nat) : ToldF := ⟨77, 5, [.slot 0 (.int .i64), .slot 1 (.int .i64), .slot 2 (.int .i64), .slot 3 (.int .i64), .slot 4 (.int .i64)], [.ty (.int .i64)], fun d => level_Mix F d.1 d.2.1 d.2.2.1 d.2.2.2.1 d.2.2.2.2.1⟩
theorem level_Mix_ok (F : Nat) : (level_Mix_told F).ok Try.prog :=
  toldF_ok callable (level_Mix_all F) (fn := Try.f77) (t := level_Mix_told F) (anns := []) (by kernel_rfl) (annsOk_nil _ _)
    (fun d => (by kernel_rfl : evBody Try.prog (calT Try.prog (level_Mix_tab F) _) (qcalT (level_Mix_tab F) _) (annOf []) 77 (bldS 5 (level_Mix_told F).ins d).tmps (bldS 5 (level_Mix_told F).ins d).heap (endO (level_Mix_told F).os) = level_Mix F d.1 d.2.1 d.2.2.1 d.2.2.2.1 d.2.2.2.2.1))

def bcfour_Ramp_tab (F : Nat) : List ToldF := [level_Mix_told F]
theorem bcfour_Ramp_all (F : Nat) : AllOk Try.prog (bcfour_Ramp_tab F) := ⟨level_Mix_ok F, trivial⟩

abbrev bcfour_Ramp_l0_ins : List Go.AE.Item := [.slot 0 (.int .i64), .slot 1 (.int .i64), .segs [.hole (.is .i64 8)] (.slot 4) true, .ptr 4 0 8, .segs [.hole (.is .i64 8)] (.slot 5) true, .ptr 5 1 8, .slot 6 (.int .i64), .slot 16 (.int .i64), .slot 17 (.int .i64)]
abbrev bcfour_Ramp_l0_outs : List Go.AE.Item := [.segs [.hole (.is .i64 8)] (.slot 4) true, .ptr 4 0 8, .segs [.hole (.is .i64 8)] (.slot 5) true, .ptr 5 1 8]
def bcfour_Ramp_l0_ann (F : Nat) {ρ : Type} : Ann ρ := annS 31 bcfour_Ramp_l0_ins bcfour_Ramp_l0_outs fun d => bcfour_Ramp_l0 F F d.1 d.2.1 d.2.2.1 d.2.2.2.1 d.2.2.2.2.1 d.2.2.2.2.2.1 d.2.2.2.2.2.2.1
theorem bcfour_Ramp_l0_ok (F : Nat) {ρ : Type} (B : Base) (w : World) : AnnAt (ρ := ρ) Try.prog false B w (.block 0 (.loop (loopAt (bodyOf Try.f49) 0))) (bcfour_Ramp_l0_ann F) :=
  toldS_ok callable (bcfour_Ramp_all F) (ins := bcfour_Ramp_l0_ins) (outs := bcfour_Ramp_l0_outs) (anns := []) (L := fun k d => bcfour_Ramp_l0 F k d.1 d.2.1 d.2.2.1 d.2.2.2.1 d.2.2.2.2.1 d.2.2.2.2.2.1 d.2.2.2.2.2.2.1) (annsOk_nil _ _) (fun d => rfl)
    (fun k d => (by kernel_rfl : evCode Try.prog (calT Try.prog (bcfour_Ramp_tab F) _) (qcalT (bcfour_Ramp_tab F) _) (annOf []) (loopAt (bodyOf Try.f49) 0) (bldS 31 bcfour_Ramp_l0_ins d) (kS 31 bcfour_Ramp_l0_ins bcfour_Ramp_l0_outs 0 fun d => bcfour_Ramp_l0 F k d.1 d.2.1 d.2.2.1 d.2.2.2.1 d.2.2.2.2.1 d.2.2.2.2.2.1 d.2.2.2.2.2.2.1) = bcfour_Ramp_l0S F (bcfour_Ramp_l0 F k) d.1 d.2.1 d.2.2.1 d.2.2.2.1 d.2.2.2.2.1 d.2.2.2.2.2.1 d.2.2.2.2.2.2.1)) F B w

def bcfour_Ramp_told (F : Nat) : ToldF := ⟨49, 2, [.slot 0 (.int .i64), .slot 1 (.int .i64)], [.ty (.is .i64 8)], fun d => bcfour_Ramp F d.1 d.2.1⟩
theorem bcfour_Ramp_ok (F : Nat) : (bcfour_Ramp_told F).ok Try.prog :=
  toldF_ok callable (bcfour_Ramp_all F) (fn := Try.f49) (t := bcfour_Ramp_told F) (anns := [(0, bcfour_Ramp_l0_ann F)]) (by kernel_rfl) (annsOk_cons (by kernel_rfl) (fun B w => bcfour_Ramp_l0_ok F B w) (annsOk_nil _ _))
    (fun d => (by kernel_rfl : evBody Try.prog (calT Try.prog (bcfour_Ramp_tab F) _) (qcalT (bcfour_Ramp_tab F) _) (annOf [(0, bcfour_Ramp_l0_ann F)]) 49 (bldS 2 (bcfour_Ramp_told F).ins d).tmps (bldS 2 (bcfour_Ramp_told F).ins d).heap (endO (bcfour_Ramp_told F).os) = bcfour_Ramp F d.1 d.2.1))

def bcfour_Decode_tab (F : Nat) : List ToldF := [bcfour_Parts_told F, bcfour_Ramp_told F]
theorem bcfour_Decode_all (F : Nat) : AllOk Try.prog (bcfour_Decode_tab F) := ⟨bcfour_Parts_ok F, ⟨bcfour_Ramp_ok F, trivial⟩⟩

abbrev bcfour_Decode_l0_ins : List Go.AE.Item := [.segs [.hole (.is .i64 16)] (.slot 2) true, .ptr 2 0 16, .segs [.hole (.is .i64 16)] (.slot 6) true, .ptr 6 1 16, .segs [.hole (.is .i64 8)] (.slot 8) true, .ptr 8 2 8, .slot 25 (.is .i64 16), .slot 26 (.int .i64)]
abbrev bcfour_Decode_l0_outs : List Go.AE.Item := [.segs [.hole (.is .i64 16)] (.slot 2) true, .ptr 2 0 16, .segs [.hole (.is .i64 16)] (.slot 6) true, .ptr 6 1 16]
def bcfour_Decode_l0_ann (F : Nat) {ρ : Type} : Ann ρ := annS 37 bcfour_Decode_l0_ins bcfour_Decode_l0_outs fun d => bcfour_Decode_l0 F F d.1 d.2.1 d.2.2.1 d.2.2.2.1 d.2.2.2.2.1
theorem bcfour_Decode_l0_ok (F : Nat) {ρ : Type} (B : Base) (w : World) : AnnAt (ρ := ρ) Try.prog false B w (.block 0 (.loop (loopAt (bodyOf Try.f41) 0))) (bcfour_Decode_l0_ann F) :=
  toldS_ok callable (bcfour_Decode_all F) (ins := bcfour_Decode_l0_ins) (outs := bcfour_Decode_l0_outs) (anns := []) (L := fun k d => bcfour_Decode_l0 F k d.1 d.2.1 d.2.2.1 d.2.2.2.1 d.2.2.2.2.1) (annsOk_nil _ _) (fun d => rfl)
    (fun k d => (by kernel_rfl : evCode Try.prog (calT Try.prog (bcfour_Decode_tab F) _) (qcalT (bcfour_Decode_tab F) _) (annOf []) (loopAt (bodyOf Try.f41) 0) (bldS 37 bcfour_Decode_l0_ins d) (kS 37 bcfour_Decode_l0_ins bcfour_Decode_l0_outs 0 fun d => bcfour_Decode_l0 F k d.1 d.2.1 d.2.2.1 d.2.2.2.1 d.2.2.2.2.1) = bcfour_Decode_l0S F (bcfour_Decode_l0 F k) d.1 d.2.1 d.2.2.1 d.2.2.2.1 d.2.2.2.2.1)) F B w

def bcfour_Decode_told (F : Nat) : ToldF := ⟨41, 1, [.row .u8 1 (.slot 0) false], [.ty (.is .i64 16), .ty (.int .i64)], fun d => bcfour_Decode F d.1⟩
theorem bcfour_Decode_ok (F : Nat) : (bcfour_Decode_told F).ok Try.prog :=
  toldF_ok callable (bcfour_Decode_all F) (fn := Try.f41) (t := bcfour_Decode_told F) (anns := [(0, bcfour_Decode_l0_ann F)]) (by kernel_rfl) (annsOk_cons (by kernel_rfl) (fun B w => bcfour_Decode_l0_ok F B w) (annsOk_nil _ _))
    (fun d => (by kernel_rfl : evBody Try.prog (calT Try.prog (bcfour_Decode_tab F) _) (qcalT (bcfour_Decode_tab F) _) (annOf [(0, bcfour_Decode_l0_ann F)]) 41 (bldS 1 (bcfour_Decode_told F).ins d).tmps (bldS 1 (bcfour_Decode_told F).ins d).heap (endO (bcfour_Decode_told F).os) = bcfour_Decode F d.1))

def bcfour_JoinFours_tab (F : Nat) : List ToldF := [bcfour_joined_told F]
theorem bcfour_JoinFours_all (F : Nat) : AllOk Try.prog (bcfour_JoinFours_tab F) := ⟨bcfour_joined_ok F, trivial⟩

def bcfour_JoinFours_told (F : Nat) : ToldF := ⟨47, 1, [.slot 0 (.is .i64 16)], [.row .u8 1, .ty (.int .i64)], fun d => bcfour_JoinFours F d.1⟩
theorem bcfour_JoinFours_ok (F : Nat) : (bcfour_JoinFours_told F).ok Try.prog :=
  toldF_ok callable (bcfour_JoinFours_all F) (fn := Try.f47) (t := bcfour_JoinFours_told F) (anns := []) (by kernel_rfl) (annsOk_nil _ _)
    (fun d => (by kernel_rfl : evBody Try.prog (calT Try.prog (bcfour_JoinFours_tab F) _) (qcalT (bcfour_JoinFours_tab F) _) (annOf []) 47 (bldS 1 (bcfour_JoinFours_told F).ins d).tmps (bldS 1 (bcfour_JoinFours_told F).ins d).heap (endO (bcfour_JoinFours_told F).os) = bcfour_JoinFours F d.1))

def level_odd_tab (F : Nat) : List ToldF := []
theorem level_odd_all (F : Nat) : AllOk Try.prog (level_odd_tab F) := trivial

def level_odd_told (F : Nat) : ToldF := ⟨79, 1, [.slot 0 (.int .i64)], [.ty (.bool)], fun d => level_odd F d.1⟩
theorem level_odd_ok (F : Nat) : (level_odd_told F).ok Try.prog :=
  toldF_ok callable (level_odd_all F) (fn := Try.f79) (t := level_odd_told F) (anns := []) (by kernel_rfl) (annsOk_nil _ _)
    (fun d => (by kernel_rfl : evBody Try.prog (calT Try.prog (level_odd_tab F) _) (qcalT (level_odd_tab F) _) (annOf []) 79 (bldS 1 (level_odd_told F).ins d).tmps (bldS 1 (level_odd_told F).ins d).heap (endO (level_odd_told F).os) = level_odd F d.1))

def level_Wide_tab (F : Nat) : List ToldF := [level_odd_told F]
theorem level_Wide_all (F : Nat) : AllOk Try.prog (level_Wide_tab F) := ⟨level_odd_ok F, trivial⟩

abbrev level_Wide_l0_ins : List Go.AE.Item := [.slot 0 (.int .i64), .slot 1 (.int .i64), .slot 5 (.int .i64), .slot 6 (.int .i64)]
abbrev level_Wide_l0_outs : List Go.AE.Item := [.slot 5 (.int .i64), .slot 6 (.int .i64)]
def level_Wide_l0_ann (F : Nat) {ρ : Type} : Ann ρ := annS 28 level_Wide_l0_ins level_Wide_l0_outs fun d => level_Wide_l0 F F d.1 d.2.1 d.2.2.1 d.2.2.2.1
theorem level_Wide_l0_ok (F : Nat) {ρ : Type} (B : Base) (w : World) : AnnAt (ρ := ρ) Try.prog false B w (.block 0 (.loop (loopAt (bodyOf Try.f74) 0))) (level_Wide_l0_ann F) :=
  toldS_ok callable (level_Wide_all F) (ins := level_Wide_l0_ins) (outs := level_Wide_l0_outs) (anns := []) (L := fun k d => level_Wide_l0 F k d.1 d.2.1 d.2.2.1 d.2.2.2.1) (annsOk_nil _ _) (fun d => rfl)
    (fun k d => (by kernel_rfl : evCode Try.prog (calT Try.prog (level_Wide_tab F) _) (qcalT (level_Wide_tab F) _) (annOf []) (loopAt (bodyOf Try.f74) 0) (bldS 28 level_Wide_l0_ins d) (kS 28 level_Wide_l0_ins level_Wide_l0_outs 0 fun d => level_Wide_l0 F k d.1 d.2.1 d.2.2.1 d.2.2.2.1) = level_Wide_l0S F (level_Wide_l0 F k) d.1 d.2.1 d.2.2.1 d.2.2.2.1)) F B w

def level_Wide_told (F : Nat) : ToldF := ⟨74, 2, [.slot 0 (.int .i64), .slot 1 (.int .i64)], [.ty (.int .i64)], fun d => level_Wide F d.1 d.2.1⟩
theorem level_Wide_ok (F : Nat) : (level_Wide_told F).ok Try.prog :=
  toldF_ok callable (level_Wide_all F) (fn := Try.f74) (t := level_Wide_told F) (anns := [(0, level_Wide_l0_ann F)]) (by kernel_rfl) (annsOk_cons (by kernel_rfl) (fun B w => level_Wide_l0_ok F B w) (annsOk_nil _ _))
    (fun d => (by kernel_rfl : evBody Try.prog (calT Try.prog (level_Wide_tab F) _) (qcalT (level_Wide_tab F) _) (annOf [(0, level_Wide_l0_ann F)]) 74 (bldS 2 (level_Wide_told F).ins d).tmps (bldS 2 (level_Wide_told F).ins d).heap (endO (level_Wide_told F).os) = level_Wide F d.1 d.2.1))

def bcfour_Fours_tab (F : Nat) : List ToldF := [bits_Lows_told F, level_Wide_told F]
theorem bcfour_Fours_all (F : Nat) : AllOk Try.prog (bcfour_Fours_tab F) := ⟨bits_Lows_ok F, ⟨level_Wide_ok F, trivial⟩⟩

abbrev bcfour_Fours_l0_ins : List Go.AE.Item := [.segs [.hole (.is .i64 16)] (.slot 2) true, .ptr 2 0 16, .segs [.hole (.is .i64 16)] (.slot 4) true, .ptr 4 1 16, .row .i64 1 (.slot 5) true, .slot 17 (.int .i64)]
abbrev bcfour_Fours_l0_outs : List Go.AE.Item := [.segs [.hole (.is .i64 16)] (.slot 2) true, .ptr 2 0 16, .segs [.hole (.is .i64 16)] (.slot 4) true, .ptr 4 1 16]
def bcfour_Fours_l0_ann (F : Nat) {ρ : Type} : Ann ρ := annS 29 bcfour_Fours_l0_ins bcfour_Fours_l0_outs fun d => bcfour_Fours_l0 F F d.1 d.2.1 d.2.2.1 d.2.2.2.1
theorem bcfour_Fours_l0_ok (F : Nat) {ρ : Type} (B : Base) (w : World) : AnnAt (ρ := ρ) Try.prog false B w (.block 0 (.loop (loopAt (bodyOf Try.f43) 0))) (bcfour_Fours_l0_ann F) :=
  toldS_ok callable (bcfour_Fours_all F) (ins := bcfour_Fours_l0_ins) (outs := bcfour_Fours_l0_outs) (anns := []) (L := fun k d => bcfour_Fours_l0 F k d.1 d.2.1 d.2.2.1 d.2.2.2.1) (annsOk_nil _ _) (fun d => rfl)
    (fun k d => (by kernel_rfl : evCode Try.prog (calT Try.prog (bcfour_Fours_tab F) _) (qcalT (bcfour_Fours_tab F) _) (annOf []) (loopAt (bodyOf Try.f43) 0) (bldS 29 bcfour_Fours_l0_ins d) (kS 29 bcfour_Fours_l0_ins bcfour_Fours_l0_outs 0 fun d => bcfour_Fours_l0 F k d.1 d.2.1 d.2.2.1 d.2.2.2.1) = bcfour_Fours_l0S F (bcfour_Fours_l0 F k) d.1 d.2.1 d.2.2.1 d.2.2.2.1)) F B w

def bcfour_Fours_told (F : Nat) : ToldF := ⟨43, 1, [.row .u8 1 (.slot 0) false], [.ty (.is .i64 16), .ty (.int .i64)], fun d => bcfour_Fours F d.1⟩
theorem bcfour_Fours_ok (F : Nat) : (bcfour_Fours_told F).ok Try.prog :=
  toldF_ok callable (bcfour_Fours_all F) (fn := Try.f43) (t := bcfour_Fours_told F) (anns := [(0, bcfour_Fours_l0_ann F)]) (by kernel_rfl) (annsOk_cons (by kernel_rfl) (fun B w => bcfour_Fours_l0_ok F B w) (annsOk_nil _ _))
    (fun d => (by kernel_rfl : evBody Try.prog (calT Try.prog (bcfour_Fours_tab F) _) (qcalT (bcfour_Fours_tab F) _) (annOf [(0, bcfour_Fours_l0_ann F)]) 43 (bldS 1 (bcfour_Fours_told F).ins d).tmps (bldS 1 (bcfour_Fours_told F).ins d).heap (endO (bcfour_Fours_told F).os) = bcfour_Fours F d.1))

def law07_awake_tab (F : Nat) : List ToldF := [bcfour_Join_told F, bcfour_Ramp_told F, bcfour_Decode_told F, bcfour_JoinFours_told F, bcfour_Fours_told F]
theorem law07_awake_all (F : Nat) : AllOk Try.prog (law07_awake_tab F) := ⟨bcfour_Join_ok F, ⟨bcfour_Ramp_ok F, ⟨bcfour_Decode_ok F, ⟨bcfour_JoinFours_ok F, ⟨bcfour_Fours_ok F, trivial⟩⟩⟩⟩⟩

def law07_awake_told (F : Nat) : ToldF := ⟨38, 0, [], [.ty (.bool)], fun d => law07_awake F⟩
theorem law07_awake_ok (F : Nat) : (law07_awake_told F).ok Try.prog :=
  toldF_ok callable (law07_awake_all F) (fn := Try.f38) (t := law07_awake_told F) (anns := []) (by kernel_rfl) (annsOk_nil _ _)
    (fun d => (by kernel_rfl : evBody Try.prog (calT Try.prog (law07_awake_tab F) _) (qcalT (law07_awake_tab F) _) (annOf []) 38 (bldS 0 (law07_awake_told F).ins d).tmps (bldS 0 (law07_awake_told F).ins d).heap (endO (law07_awake_told F).os) = law07_awake F))

def ref02_fits_tab (F : Nat) : List ToldF := []
theorem ref02_fits_all (F : Nat) : AllOk Try.prog (ref02_fits_tab F) := trivial

def ref02_fits_told (F : Nat) : ToldF := ⟨61, 3, [.row .u8 1 (.slot 0) false, .slot 1 (.int .i64), .slot 2 (.int .i64)], [.ty (.bool)], fun d => ref02_fits F d.1 d.2.1 d.2.2.1⟩
theorem ref02_fits_ok (F : Nat) : (ref02_fits_told F).ok Try.prog :=
  toldF_ok callable (ref02_fits_all F) (fn := Try.f61) (t := ref02_fits_told F) (anns := []) (by kernel_rfl) (annsOk_nil _ _)
    (fun d => (by kernel_rfl : evBody Try.prog (calT Try.prog (ref02_fits_tab F) _) (qcalT (ref02_fits_tab F) _) (annOf []) 61 (bldS 3 (ref02_fits_told F).ins d).tmps (bldS 3 (ref02_fits_told F).ins d).heap (endO (ref02_fits_told F).os) = ref02_fits F d.1 d.2.1 d.2.2.1))

def ref02_bit_tab (F : Nat) : List ToldF := []
theorem ref02_bit_all (F : Nat) : AllOk Try.prog (ref02_bit_tab F) := trivial

abbrev ref02_bit_l0_ins : List Go.AE.Item := [.slot 7 (.int .i64), .slot 8 (.int .i64), .slot 9 (.int .i64)]
abbrev ref02_bit_l0_outs : List Go.AE.Item := [.slot 8 (.int .i64)]
def ref02_bit_l0_ann (F : Nat) {ρ : Type} : Ann ρ := annS 30 ref02_bit_l0_ins ref02_bit_l0_outs fun d => ref02_bit_l0 F F d.1 d.2.1 d.2.2.1
theorem ref02_bit_l0_ok (F : Nat) {ρ : Type} (B : Base) (w : World) : AnnAt (ρ := ρ) Try.prog false B w (.block 0 (.loop (loopAt (bodyOf Try.f62) 0))) (ref02_bit_l0_ann F) :=
  toldS_ok callable (ref02_bit_all F) (ins := ref02_bit_l0_ins) (outs := ref02_bit_l0_outs) (anns := []) (L := fun k d => ref02_bit_l0 F k d.1 d.2.1 d.2.2.1) (annsOk_nil _ _) (fun d => rfl)
    (fun k d => (by kernel_rfl : evCode Try.prog (calT Try.prog (ref02_bit_tab F) _) (qcalT (ref02_bit_tab F) _) (annOf []) (loopAt (bodyOf Try.f62) 0) (bldS 30 ref02_bit_l0_ins d) (kS 30 ref02_bit_l0_ins ref02_bit_l0_outs 0 fun d => ref02_bit_l0 F k d.1 d.2.1 d.2.2.1) = ref02_bit_l0S F (ref02_bit_l0 F k) d.1 d.2.1 d.2.2.1)) F B w

def ref02_bit_told (F : Nat) : ToldF := ⟨62, 3, [.row .u8 1 (.slot 0) false, .slot 1 (.int .i64), .slot 2 (.bool)], [.ty (.int .i64)], fun d => ref02_bit F d.1 d.2.1 d.2.2.1⟩
theorem ref02_bit_ok (F : Nat) : (ref02_bit_told F).ok Try.prog :=
  toldF_ok callable (ref02_bit_all F) (fn := Try.f62) (t := ref02_bit_told F) (anns := [(0, ref02_bit_l0_ann F)]) (by kernel_rfl) (annsOk_cons (by kernel_rfl) (fun B w => ref02_bit_l0_ok F B w) (annsOk_nil _ _))
    (fun d => (by kernel_rfl : evBody Try.prog (calT Try.prog (ref02_bit_tab F) _) (qcalT (ref02_bit_tab F) _) (annOf [(0, ref02_bit_l0_ann F)]) 62 (bldS 3 (ref02_bit_told F).ins d).tmps (bldS 3 (ref02_bit_told F).ins d).heap (endO (ref02_bit_told F).os) = ref02_bit F d.1 d.2.1 d.2.2.1))

def ref02_Get_tab (F : Nat) : List ToldF := [ref02_fits_told F, ref02_bit_told F]
theorem ref02_Get_all (F : Nat) : AllOk Try.prog (ref02_Get_tab F) := ⟨ref02_fits_ok F, ⟨ref02_bit_ok F, trivial⟩⟩

abbrev ref02_Get_l0_ins : List Go.AE.Item := [.row .u8 1 (.slot 0) false, .slot 1 (.int .i64), .slot 2 (.int .i64), .slot 3 (.bool), .slot 10 (.int .u64), .slot 11 (.int .i64)]
abbrev ref02_Get_l0_outs : List Go.AE.Item := [.slot 10 (.int .u64)]
def ref02_Get_l0_ann (F : Nat) {ρ : Type} : Ann ρ := annS 52 ref02_Get_l0_ins ref02_Get_l0_outs fun d => ref02_Get_l0 F F d.1 d.2.1 d.2.2.1 d.2.2.2.1 d.2.2.2.2.1 d.2.2.2.2.2.1
theorem ref02_Get_l0_ok (F : Nat) {ρ : Type} (B : Base) (w : World) : AnnAt (ρ := ρ) Try.prog false B w (.block 0 (.loop (loopAt (bodyOf Try.f25) 0))) (ref02_Get_l0_ann F) :=
  toldS_ok callable (ref02_Get_all F) (ins := ref02_Get_l0_ins) (outs := ref02_Get_l0_outs) (anns := []) (L := fun k d => ref02_Get_l0 F k d.1 d.2.1 d.2.2.1 d.2.2.2.1 d.2.2.2.2.1 d.2.2.2.2.2.1) (annsOk_nil _ _) (fun d => rfl)
    (fun k d => (by kernel_rfl : evCode Try.prog (calT Try.prog (ref02_Get_tab F) _) (qcalT (ref02_Get_tab F) _) (annOf []) (loopAt (bodyOf Try.f25) 0) (bldS 52 ref02_Get_l0_ins d) (kS 52 ref02_Get_l0_ins ref02_Get_l0_outs 0 fun d => ref02_Get_l0 F k d.1 d.2.1 d.2.2.1 d.2.2.2.1 d.2.2.2.2.1 d.2.2.2.2.2.1) = ref02_Get_l0S F (ref02_Get_l0 F k) d.1 d.2.1 d.2.2.1 d.2.2.2.1 d.2.2.2.2.1 d.2.2.2.2.2.1)) F B w

def ref02_Get_told (F : Nat) : ToldF := ⟨25, 4, [.row .u8 1 (.slot 0) false, .slot 1 (.int .i64), .slot 2 (.int .i64), .slot 3 (.bool)], [.ty (.int .u64), .ty (.int .i64)], fun d => ref02_Get F d.1 d.2.1 d.2.2.1 d.2.2.2.1⟩
theorem ref02_Get_ok (F : Nat) : (ref02_Get_told F).ok Try.prog :=
  toldF_ok callable (ref02_Get_all F) (fn := Try.f25) (t := ref02_Get_told F) (anns := [(0, ref02_Get_l0_ann F)]) (by kernel_rfl) (annsOk_cons (by kernel_rfl) (fun B w => ref02_Get_l0_ok F B w) (annsOk_nil _ _))
    (fun d => (by kernel_rfl : evBody Try.prog (calT Try.prog (ref02_Get_tab F) _) (qcalT (ref02_Get_tab F) _) (annOf [(0, ref02_Get_l0_ann F)]) 25 (bldS 4 (ref02_Get_told F).ins d).tmps (bldS 4 (ref02_Get_told F).ins d).heap (endO (ref02_Get_told F).os) = ref02_Get F d.1 d.2.1 d.2.2.1 d.2.2.2.1))

def ref02_Field_tab (F : Nat) : List ToldF := [ref02_Get_told F]
theorem ref02_Field_all (F : Nat) : AllOk Try.prog (ref02_Field_tab F) := ⟨ref02_Get_ok F, trivial⟩

def ref02_Field_told (F : Nat) : ToldF := ⟨73, 3, [.row .u8 1 (.slot 0) false, .slot 1 (.int .i64), .slot 2 (.int .i64)], [.ty (.int .i64)], fun d => ref02_Field F d.1 d.2.1 d.2.2.1⟩
theorem ref02_Field_ok (F : Nat) : (ref02_Field_told F).ok Try.prog :=
  toldF_ok callable (ref02_Field_all F) (fn := Try.f73) (t := ref02_Field_told F) (anns := []) (by kernel_rfl) (annsOk_nil _ _)
    (fun d => (by kernel_rfl : evBody Try.prog (calT Try.prog (ref02_Field_tab F) _) (qcalT (ref02_Field_tab F) _) (annOf []) 73 (bldS 3 (ref02_Field_told F).ins d).tmps (bldS 3 (ref02_Field_told F).ins d).heap (endO (ref02_Field_told F).os) = ref02_Field F d.1 d.2.1 d.2.2.1))

def ref07_Parts_tab (F : Nat) : List ToldF := [ref02_Field_told F]
theorem ref07_Parts_all (F : Nat) : AllOk Try.prog (ref07_Parts_tab F) := ⟨ref02_Field_ok F, trivial⟩

abbrev ref07_Parts_l0_ins : List Go.AE.Item := [.row .u8 1 (.slot 0) false, .segs [.hole (.is .i64 16)] (.slot 4) true, .ptr 4 1 16, .segs [.hole (.is .i64 16)] (.slot 6) true, .ptr 6 2 16, .slot 7 (.int .i64)]
abbrev ref07_Parts_l0_outs : List Go.AE.Item := [.row .u8 1 (.slot 0) false, .segs [.hole (.is .i64 16)] (.slot 4) true, .ptr 4 1 16, .segs [.hole (.is .i64 16)] (.slot 6) true, .ptr 6 2 16]
def ref07_Parts_l0_ann (F : Nat) {ρ : Type} : Ann ρ := annS 33 ref07_Parts_l0_ins ref07_Parts_l0_outs fun d => ref07_Parts_l0 F F d.1 d.2.1 d.2.2.1 d.2.2.2.1
theorem ref07_Parts_l0_ok (F : Nat) {ρ : Type} (B : Base) (w : World) : AnnAt (ρ := ρ) Try.prog false B w (.block 0 (.loop (loopAt (bodyOf Try.f40) 0))) (ref07_Parts_l0_ann F) :=
  toldS_ok callable (ref07_Parts_all F) (ins := ref07_Parts_l0_ins) (outs := ref07_Parts_l0_outs) (anns := []) (L := fun k d => ref07_Parts_l0 F k d.1 d.2.1 d.2.2.1 d.2.2.2.1) (annsOk_nil _ _) (fun d => rfl)
    (fun k d => (by kernel_rfl : evCode Try.prog (calT Try.prog (ref07_Parts_tab F) _) (qcalT (ref07_Parts_tab F) _) (annOf []) (loopAt (bodyOf Try.f40) 0) (bldS 33 ref07_Parts_l0_ins d) (kS 33 ref07_Parts_l0_ins ref07_Parts_l0_outs 0 fun d => ref07_Parts_l0 F k d.1 d.2.1 d.2.2.1 d.2.2.2.1) = ref07_Parts_l0S F (ref07_Parts_l0 F k) d.1 d.2.1 d.2.2.1 d.2.2.2.1)) F B w

def ref07_Parts_told (F : Nat) : ToldF := ⟨40, 1, [.row .u8 1 (.slot 0) false], [.ty (.int .i64), .ty (.int .i64), .ty (.is .i64 16), .ty (.int .i64)], fun d => ref07_Parts F d.1⟩
theorem ref07_Parts_ok (F : Nat) : (ref07_Parts_told F).ok Try.prog :=
  toldF_ok callable (ref07_Parts_all F) (fn := Try.f40) (t := ref07_Parts_told F) (anns := [(0, ref07_Parts_l0_ann F)]) (by kernel_rfl) (annsOk_cons (by kernel_rfl) (fun B w => ref07_Parts_l0_ok F B w) (annsOk_nil _ _))
    (fun d => (by kernel_rfl : evBody Try.prog (calT Try.prog (ref07_Parts_tab F) _) (qcalT (ref07_Parts_tab F) _) (annOf [(0, ref07_Parts_l0_ann F)]) 40 (bldS 1 (ref07_Parts_told F).ins d).tmps (bldS 1 (ref07_Parts_told F).ins d).heap (endO (ref07_Parts_told F).os) = ref07_Parts F d.1))

def ref03_mod_tab (F : Nat) : List ToldF := []
theorem ref03_mod_all (F : Nat) : AllOk Try.prog (ref03_mod_tab F) := trivial

def ref03_mod_told (F : Nat) : ToldF := ⟨85, 2, [.slot 0 (.int .i64), .slot 1 (.int .i64)], [.ty (.int .i64)], fun d => ref03_mod F d.1 d.2.1⟩
theorem ref03_mod_ok (F : Nat) : (ref03_mod_told F).ok Try.prog :=
  toldF_ok callable (ref03_mod_all F) (fn := Try.f85) (t := ref03_mod_told F) (anns := []) (by kernel_rfl) (annsOk_nil _ _)
    (fun d => (by kernel_rfl : evBody Try.prog (calT Try.prog (ref03_mod_tab F) _) (qcalT (ref03_mod_tab F) _) (annOf []) 85 (bldS 2 (ref03_mod_told F).ins d).tmps (bldS 2 (ref03_mod_told F).ins d).heap (endO (ref03_mod_told F).os) = ref03_mod F d.1 d.2.1))

def ref03_Mix_tab (F : Nat) : List ToldF := [ref03_mod_told F]
theorem ref03_Mix_all (F : Nat) : AllOk Try.prog (ref03_Mix_tab F) := ⟨ref03_mod_ok F, trivial⟩

def ref03_Mix_told (F : Nat) : ToldF := ⟨78, 5, [.slot 0 (.int .i64), .slot 1 (.int .i64), .slot 2 (.int .i64), .slot 3 (.int .i64), .slot 4 (.int .i64)], [.ty (.int .i64)], fun d => ref03_Mix F d.1 d.2.1 d.2.2.1 d.2.2.2.1 d.2.2.2.2.1⟩
theorem ref03_Mix_ok (F : Nat) : (ref03_Mix_told F).ok Try.prog :=
  toldF_ok callable (ref03_Mix_all F) (fn := Try.f78) (t := ref03_Mix_told F) (anns := []) (by kernel_rfl) (annsOk_nil _ _)
    (fun d => (by kernel_rfl : evBody Try.prog (calT Try.prog (ref03_Mix_tab F) _) (qcalT (ref03_Mix_tab F) _) (annOf []) 78 (bldS 5 (ref03_Mix_told F).ins d).tmps (bldS 5 (ref03_Mix_told F).ins d).heap (endO (ref03_Mix_told F).os) = ref03_Mix F d.1 d.2.1 d.2.2.1 d.2.2.2.1 d.2.2.2.2.1))

def ref07_Ramp_tab (F : Nat) : List ToldF := [ref03_Mix_told F]
theorem ref07_Ramp_all (F : Nat) : AllOk Try.prog (ref07_Ramp_tab F) := ⟨ref03_Mix_ok F, trivial⟩

abbrev ref07_Ramp_l0_ins : List Go.AE.Item := [.slot 0 (.int .i64), .slot 1 (.int .i64), .segs [.hole (.is .i64 8)] (.slot 4) true, .ptr 4 0 8, .segs [.hole (.is .i64 8)] (.slot 5) true, .ptr 5 1 8, .slot 6 (.int .i64)]
abbrev ref07_Ramp_l0_outs : List Go.AE.Item := [.segs [.hole (.is .i64 8)] (.slot 4) true, .ptr 4 0 8, .segs [.hole (.is .i64 8)] (.slot 5) true, .ptr 5 1 8]
def ref07_Ramp_l0_ann (F : Nat) {ρ : Type} : Ann ρ := annS 39 ref07_Ramp_l0_ins ref07_Ramp_l0_outs fun d => ref07_Ramp_l0 F F d.1 d.2.1 d.2.2.1 d.2.2.2.1 d.2.2.2.2.1
theorem ref07_Ramp_l0_ok (F : Nat) {ρ : Type} (B : Base) (w : World) : AnnAt (ρ := ρ) Try.prog false B w (.block 0 (.loop (loopAt (bodyOf Try.f50) 0))) (ref07_Ramp_l0_ann F) :=
  toldS_ok callable (ref07_Ramp_all F) (ins := ref07_Ramp_l0_ins) (outs := ref07_Ramp_l0_outs) (anns := []) (L := fun k d => ref07_Ramp_l0 F k d.1 d.2.1 d.2.2.1 d.2.2.2.1 d.2.2.2.2.1) (annsOk_nil _ _) (fun d => rfl)
    (fun k d => (by kernel_rfl : evCode Try.prog (calT Try.prog (ref07_Ramp_tab F) _) (qcalT (ref07_Ramp_tab F) _) (annOf []) (loopAt (bodyOf Try.f50) 0) (bldS 39 ref07_Ramp_l0_ins d) (kS 39 ref07_Ramp_l0_ins ref07_Ramp_l0_outs 0 fun d => ref07_Ramp_l0 F k d.1 d.2.1 d.2.2.1 d.2.2.2.1 d.2.2.2.2.1) = ref07_Ramp_l0S F (ref07_Ramp_l0 F k) d.1 d.2.1 d.2.2.1 d.2.2.2.1 d.2.2.2.2.1)) F B w

abbrev ref07_Ramp_l2_ins : List Go.AE.Item := [.slot 0 (.int .i64), .slot 1 (.int .i64), .segs [.hole (.is .i64 8)] (.slot 4) true, .ptr 4 0 8, .segs [.hole (.is .i64 8)] (.slot 5) true, .ptr 5 1 8, .slot 7 (.int .i64)]
abbrev ref07_Ramp_l2_outs : List Go.AE.Item := [.segs [.hole (.is .i64 8)] (.slot 4) true, .ptr 4 0 8, .segs [.hole (.is .i64 8)] (.slot 5) true, .ptr 5 1 8]
def ref07_Ramp_l2_ann (F : Nat) {ρ : Type} : Ann ρ := annS 39 ref07_Ramp_l2_ins ref07_Ramp_l2_outs fun d => ref07_Ramp_l2 F F d.1 d.2.1 d.2.2.1 d.2.2.2.1 d.2.2.2.2.1
theorem ref07_Ramp_l2_ok (F : Nat) {ρ : Type} (B : Base) (w : World) : AnnAt (ρ := ρ) Try.prog false B w (.block 2 (.loop (loopAt (bodyOf Try.f50) 2))) (ref07_Ramp_l2_ann F) :=
  toldS_ok callable (ref07_Ramp_all F) (ins := ref07_Ramp_l2_ins) (outs := ref07_Ramp_l2_outs) (anns := []) (L := fun k d => ref07_Ramp_l2 F k d.1 d.2.1 d.2.2.1 d.2.2.2.1 d.2.2.2.2.1) (annsOk_nil _ _) (fun d => rfl)
    (fun k d => (by kernel_rfl : evCode Try.prog (calT Try.prog (ref07_Ramp_tab F) _) (qcalT (ref07_Ramp_tab F) _) (annOf []) (loopAt (bodyOf Try.f50) 2) (bldS 39 ref07_Ramp_l2_ins d) (kS 39 ref07_Ramp_l2_ins ref07_Ramp_l2_outs 2 fun d => ref07_Ramp_l2 F k d.1 d.2.1 d.2.2.1 d.2.2.2.1 d.2.2.2.2.1) = ref07_Ramp_l2S F (ref07_Ramp_l2 F k) d.1 d.2.1 d.2.2.1 d.2.2.2.1 d.2.2.2.2.1)) F B w

def ref07_Ramp_told (F : Nat) : ToldF := ⟨50, 2, [.slot 0 (.int .i64), .slot 1 (.int .i64)], [.ty (.is .i64 8)], fun d => ref07_Ramp F d.1 d.2.1⟩
theorem ref07_Ramp_ok (F : Nat) : (ref07_Ramp_told F).ok Try.prog :=
  toldF_ok callable (ref07_Ramp_all F) (fn := Try.f50) (t := ref07_Ramp_told F) (anns := [(0, ref07_Ramp_l0_ann F), (2, ref07_Ramp_l2_ann F)]) (by kernel_rfl) (annsOk_cons (by kernel_rfl) (fun B w => ref07_Ramp_l0_ok F B w) (annsOk_cons (by kernel_rfl) (fun B w => ref07_Ramp_l2_ok F B w) (annsOk_nil _ _)))
    (fun d => (by kernel_rfl : evBody Try.prog (calT Try.prog (ref07_Ramp_tab F) _) (qcalT (ref07_Ramp_tab F) _) (annOf [(0, ref07_Ramp_l0_ann F), (2, ref07_Ramp_l2_ann F)]) 50 (bldS 2 (ref07_Ramp_told F).ins d).tmps (bldS 2 (ref07_Ramp_told F).ins d).heap (endO (ref07_Ramp_told F).os) = ref07_Ramp F d.1 d.2.1))

def ref07_Decode_tab (F : Nat) : List ToldF := [ref07_Parts_told F, ref07_Ramp_told F]
theorem ref07_Decode_all (F : Nat) : AllOk Try.prog (ref07_Decode_tab F) := ⟨ref07_Parts_ok F, ⟨ref07_Ramp_ok F, trivial⟩⟩

abbrev ref07_Decode_l0_ins : List Go.AE.Item := [.segs [.hole (.is .i64 16)] (.slot 2) true, .ptr 2 0 16, .segs [.hole (.is .i64 16)] (.slot 6) true, .ptr 6 1 16, .segs [.hole (.is .i64 8)] (.slot 8) true, .ptr 8 2 8, .slot 9 (.int .i64)]
abbrev ref07_Decode_l0_outs : List Go.AE.Item := [.segs [.hole (.is .i64 16)] (.slot 2) true, .ptr 2 0 16, .segs [.hole (.is .i64 16)] (.slot 6) true, .ptr 6 1 16]
def ref07_Decode_l0_ann (F : Nat) {ρ : Type} : Ann ρ := annS 36 ref07_Decode_l0_ins ref07_Decode_l0_outs fun d => ref07_Decode_l0 F F d.1 d.2.1 d.2.2.1 d.2.2.2.1
theorem ref07_Decode_l0_ok (F : Nat) {ρ : Type} (B : Base) (w : World) : AnnAt (ρ := ρ) Try.prog false B w (.block 0 (.loop (loopAt (bodyOf Try.f42) 0))) (ref07_Decode_l0_ann F) :=
  toldS_ok callable (ref07_Decode_all F) (ins := ref07_Decode_l0_ins) (outs := ref07_Decode_l0_outs) (anns := []) (L := fun k d => ref07_Decode_l0 F k d.1 d.2.1 d.2.2.1 d.2.2.2.1) (annsOk_nil _ _) (fun d => rfl)
    (fun k d => (by kernel_rfl : evCode Try.prog (calT Try.prog (ref07_Decode_tab F) _) (qcalT (ref07_Decode_tab F) _) (annOf []) (loopAt (bodyOf Try.f42) 0) (bldS 36 ref07_Decode_l0_ins d) (kS 36 ref07_Decode_l0_ins ref07_Decode_l0_outs 0 fun d => ref07_Decode_l0 F k d.1 d.2.1 d.2.2.1 d.2.2.2.1) = ref07_Decode_l0S F (ref07_Decode_l0 F k) d.1 d.2.1 d.2.2.1 d.2.2.2.1)) F B w

def ref07_Decode_told (F : Nat) : ToldF := ⟨42, 1, [.row .u8 1 (.slot 0) false], [.ty (.is .i64 16), .ty (.int .i64)], fun d => ref07_Decode F d.1⟩
theorem ref07_Decode_ok (F : Nat) : (ref07_Decode_told F).ok Try.prog :=
  toldF_ok callable (ref07_Decode_all F) (fn := Try.f42) (t := ref07_Decode_told F) (anns := [(0, ref07_Decode_l0_ann F)]) (by kernel_rfl) (annsOk_cons (by kernel_rfl) (fun B w => ref07_Decode_l0_ok F B w) (annsOk_nil _ _))
    (fun d => (by kernel_rfl : evBody Try.prog (calT Try.prog (ref07_Decode_tab F) _) (qcalT (ref07_Decode_tab F) _) (annOf [(0, ref07_Decode_l0_ann F)]) 42 (bldS 1 (ref07_Decode_told F).ins d).tmps (bldS 1 (ref07_Decode_told F).ins d).heap (endO (ref07_Decode_told F).os) = ref07_Decode F d.1))

def ref03_power_tab (F : Nat) : List ToldF := []
theorem ref03_power_all (F : Nat) : AllOk Try.prog (ref03_power_tab F) := trivial

abbrev ref03_power_l0_ins : List Go.AE.Item := [.slot 0 (.int .i64), .slot 3 (.int .i64), .slot 4 (.int .i64)]
abbrev ref03_power_l0_outs : List Go.AE.Item := [.slot 3 (.int .i64)]
def ref03_power_l0_ann (F : Nat) {ρ : Type} : Ann ρ := annS 13 ref03_power_l0_ins ref03_power_l0_outs fun d => ref03_power_l0 F F d.1 d.2.1 d.2.2.1
theorem ref03_power_l0_ok (F : Nat) {ρ : Type} (B : Base) (w : World) : AnnAt (ρ := ρ) Try.prog false B w (.block 0 (.loop (loopAt (bodyOf Try.f86) 0))) (ref03_power_l0_ann F) :=
  toldS_ok callable (ref03_power_all F) (ins := ref03_power_l0_ins) (outs := ref03_power_l0_outs) (anns := []) (L := fun k d => ref03_power_l0 F k d.1 d.2.1 d.2.2.1) (annsOk_nil _ _) (fun d => rfl)
    (fun k d => (by kernel_rfl : evCode Try.prog (calT Try.prog (ref03_power_tab F) _) (qcalT (ref03_power_tab F) _) (annOf []) (loopAt (bodyOf Try.f86) 0) (bldS 13 ref03_power_l0_ins d) (kS 13 ref03_power_l0_ins ref03_power_l0_outs 0 fun d => ref03_power_l0 F k d.1 d.2.1 d.2.2.1) = ref03_power_l0S F (ref03_power_l0 F k) d.1 d.2.1 d.2.2.1)) F B w

def ref03_power_told (F : Nat) : ToldF := ⟨86, 1, [.slot 0 (.int .i64)], [.ty (.int .i64)], fun d => ref03_power F d.1⟩
theorem ref03_power_ok (F : Nat) : (ref03_power_told F).ok Try.prog :=
  toldF_ok callable (ref03_power_all F) (fn := Try.f86) (t := ref03_power_told F) (anns := [(0, ref03_power_l0_ann F)]) (by kernel_rfl) (annsOk_cons (by kernel_rfl) (fun B w => ref03_power_l0_ok F B w) (annsOk_nil _ _))
    (fun d => (by kernel_rfl : evBody Try.prog (calT Try.prog (ref03_power_tab F) _) (qcalT (ref03_power_tab F) _) (annOf [(0, ref03_power_l0_ann F)]) 86 (bldS 1 (ref03_power_told F).ins d).tmps (bldS 1 (ref03_power_told F).ins d).heap (endO (ref03_power_told F).os) = ref03_power F d.1))

def ref03_Wide_tab (F : Nat) : List ToldF := [ref03_mod_told F, ref03_power_told F]
theorem ref03_Wide_all (F : Nat) : AllOk Try.prog (ref03_Wide_tab F) := ⟨ref03_mod_ok F, ⟨ref03_power_ok F, trivial⟩⟩

abbrev ref03_Wide_l0_ins : List Go.AE.Item := [.slot 0 (.int .i64), .slot 1 (.int .i64), .slot 5 (.int .i64), .slot 6 (.int .i64)]
abbrev ref03_Wide_l0_outs : List Go.AE.Item := [.slot 5 (.int .i64)]
def ref03_Wide_l0_ann (F : Nat) {ρ : Type} : Ann ρ := annS 35 ref03_Wide_l0_ins ref03_Wide_l0_outs fun d => ref03_Wide_l0 F F d.1 d.2.1 d.2.2.1 d.2.2.2.1
theorem ref03_Wide_l0_ok (F : Nat) {ρ : Type} (B : Base) (w : World) : AnnAt (ρ := ρ) Try.prog false B w (.block 0 (.loop (loopAt (bodyOf Try.f75) 0))) (ref03_Wide_l0_ann F) :=
  toldS_ok callable (ref03_Wide_all F) (ins := ref03_Wide_l0_ins) (outs := ref03_Wide_l0_outs) (anns := []) (L := fun k d => ref03_Wide_l0 F k d.1 d.2.1 d.2.2.1 d.2.2.2.1) (annsOk_nil _ _) (fun d => rfl)
    (fun k d => (by kernel_rfl : evCode Try.prog (calT Try.prog (ref03_Wide_tab F) _) (qcalT (ref03_Wide_tab F) _) (annOf []) (loopAt (bodyOf Try.f75) 0) (bldS 35 ref03_Wide_l0_ins d) (kS 35 ref03_Wide_l0_ins ref03_Wide_l0_outs 0 fun d => ref03_Wide_l0 F k d.1 d.2.1 d.2.2.1 d.2.2.2.1) = ref03_Wide_l0S F (ref03_Wide_l0 F k) d.1 d.2.1 d.2.2.1 d.2.2.2.1)) F B w

def ref03_Wide_told (F : Nat) : ToldF := ⟨75, 2, [.slot 0 (.int .i64), .slot 1 (.int .i64)], [.ty (.int .i64)], fun d => ref03_Wide F d.1 d.2.1⟩
theorem ref03_Wide_ok (F : Nat) : (ref03_Wide_told F).ok Try.prog :=
  toldF_ok callable (ref03_Wide_all F) (fn := Try.f75) (t := ref03_Wide_told F) (anns := [(0, ref03_Wide_l0_ann F)]) (by kernel_rfl) (annsOk_cons (by kernel_rfl) (fun B w => ref03_Wide_l0_ok F B w) (annsOk_nil _ _))
    (fun d => (by kernel_rfl : evBody Try.prog (calT Try.prog (ref03_Wide_tab F) _) (qcalT (ref03_Wide_tab F) _) (annOf [(0, ref03_Wide_l0_ann F)]) 75 (bldS 2 (ref03_Wide_told F).ins d).tmps (bldS 2 (ref03_Wide_told F).ins d).heap (endO (ref03_Wide_told F).os) = ref03_Wide F d.1 d.2.1))

def ref07_Fours_tab (F : Nat) : List ToldF := [ref02_Field_told F, ref03_Wide_told F]
theorem ref07_Fours_all (F : Nat) : AllOk Try.prog (ref07_Fours_tab F) := ⟨ref02_Field_ok F, ⟨ref03_Wide_ok F, trivial⟩⟩

abbrev ref07_Fours_l0_ins : List Go.AE.Item := [.row .u8 1 (.slot 0) false, .segs [.hole (.is .i64 16)] (.slot 2) true, .ptr 2 1 16, .segs [.hole (.is .i64 16)] (.slot 4) true, .ptr 4 2 16, .slot 5 (.int .i64)]
abbrev ref07_Fours_l0_outs : List Go.AE.Item := [.segs [.hole (.is .i64 16)] (.slot 2) true, .ptr 2 0 16, .segs [.hole (.is .i64 16)] (.slot 4) true, .ptr 4 1 16]
def ref07_Fours_l0_ann (F : Nat) {ρ : Type} : Ann ρ := annS 23 ref07_Fours_l0_ins ref07_Fours_l0_outs fun d => ref07_Fours_l0 F F d.1 d.2.1 d.2.2.1 d.2.2.2.1
theorem ref07_Fours_l0_ok (F : Nat) {ρ : Type} (B : Base) (w : World) : AnnAt (ρ := ρ) Try.prog false B w (.block 0 (.loop (loopAt (bodyOf Try.f44) 0))) (ref07_Fours_l0_ann F) :=
  toldS_ok callable (ref07_Fours_all F) (ins := ref07_Fours_l0_ins) (outs := ref07_Fours_l0_outs) (anns := []) (L := fun k d => ref07_Fours_l0 F k d.1 d.2.1 d.2.2.1 d.2.2.2.1) (annsOk_nil _ _) (fun d => rfl)
    (fun k d => (by kernel_rfl : evCode Try.prog (calT Try.prog (ref07_Fours_tab F) _) (qcalT (ref07_Fours_tab F) _) (annOf []) (loopAt (bodyOf Try.f44) 0) (bldS 23 ref07_Fours_l0_ins d) (kS 23 ref07_Fours_l0_ins ref07_Fours_l0_outs 0 fun d => ref07_Fours_l0 F k d.1 d.2.1 d.2.2.1 d.2.2.2.1) = ref07_Fours_l0S F (ref07_Fours_l0 F k) d.1 d.2.1 d.2.2.1 d.2.2.2.1)) F B w

def ref07_Fours_told (F : Nat) : ToldF := ⟨44, 1, [.row .u8 1 (.slot 0) false], [.ty (.is .i64 16), .ty (.int .i64)], fun d => ref07_Fours F d.1⟩
theorem ref07_Fours_ok (F : Nat) : (ref07_Fours_told F).ok Try.prog :=
  toldF_ok callable (ref07_Fours_all F) (fn := Try.f44) (t := ref07_Fours_told F) (anns := [(0, ref07_Fours_l0_ann F)]) (by kernel_rfl) (annsOk_cons (by kernel_rfl) (fun B w => ref07_Fours_l0_ok F B w) (annsOk_nil _ _))
    (fun d => (by kernel_rfl : evBody Try.prog (calT Try.prog (ref07_Fours_tab F) _) (qcalT (ref07_Fours_tab F) _) (annOf [(0, ref07_Fours_l0_ann F)]) 44 (bldS 1 (ref07_Fours_told F).ins d).tmps (bldS 1 (ref07_Fours_told F).ins d).heap (endO (ref07_Fours_told F).os) = ref07_Fours F d.1))

def ref02_power_tab (F : Nat) : List ToldF := []
theorem ref02_power_all (F : Nat) : AllOk Try.prog (ref02_power_tab F) := trivial

abbrev ref02_power_l0_ins : List Go.AE.Item := [.slot 0 (.int .i64), .slot 3 (.int .u64), .slot 4 (.int .i64)]
abbrev ref02_power_l0_outs : List Go.AE.Item := [.slot 3 (.int .u64)]
def ref02_power_l0_ann (F : Nat) {ρ : Type} : Ann ρ := annS 13 ref02_power_l0_ins ref02_power_l0_outs fun d => ref02_power_l0 F F d.1 d.2.1 d.2.2.1
theorem ref02_power_l0_ok (F : Nat) {ρ : Type} (B : Base) (w : World) : AnnAt (ρ := ρ) Try.prog false B w (.block 0 (.loop (loopAt (bodyOf Try.f67) 0))) (ref02_power_l0_ann F) :=
  toldS_ok callable (ref02_power_all F) (ins := ref02_power_l0_ins) (outs := ref02_power_l0_outs) (anns := []) (L := fun k d => ref02_power_l0 F k d.1 d.2.1 d.2.2.1) (annsOk_nil _ _) (fun d => rfl)
    (fun k d => (by kernel_rfl : evCode Try.prog (calT Try.prog (ref02_power_tab F) _) (qcalT (ref02_power_tab F) _) (annOf []) (loopAt (bodyOf Try.f67) 0) (bldS 13 ref02_power_l0_ins d) (kS 13 ref02_power_l0_ins ref02_power_l0_outs 0 fun d => ref02_power_l0 F k d.1 d.2.1 d.2.2.1) = ref02_power_l0S F (ref02_power_l0 F k) d.1 d.2.1 d.2.2.1)) F B w

def ref02_power_told (F : Nat) : ToldF := ⟨67, 1, [.slot 0 (.int .i64)], [.ty (.int .u64)], fun d => ref02_power F d.1⟩
theorem ref02_power_ok (F : Nat) : (ref02_power_told F).ok Try.prog :=
  toldF_ok callable (ref02_power_all F) (fn := Try.f67) (t := ref02_power_told F) (anns := [(0, ref02_power_l0_ann F)]) (by kernel_rfl) (annsOk_cons (by kernel_rfl) (fun B w => ref02_power_l0_ok F B w) (annsOk_nil _ _))
    (fun d => (by kernel_rfl : evBody Try.prog (calT Try.prog (ref02_power_tab F) _) (qcalT (ref02_power_tab F) _) (annOf [(0, ref02_power_l0_ann F)]) 67 (bldS 1 (ref02_power_told F).ins d).tmps (bldS 1 (ref02_power_told F).ins d).heap (endO (ref02_power_told F).os) = ref02_power F d.1))

def ref02_Set_tab (F : Nat) : List ToldF := [ref02_bit_told F, ref02_Get_told F, ref02_power_told F]
theorem ref02_Set_all (F : Nat) : AllOk Try.prog (ref02_Set_tab F) := ⟨ref02_bit_ok F, ⟨ref02_Get_ok F, ⟨ref02_power_ok F, trivial⟩⟩⟩

abbrev ref02_Set_l0_ins : List Go.AE.Item := [.slot 1 (.int .i64), .slot 2 (.int .i64), .slot 3 (.bool), .slot 4 (.int .u64), .row .u8 1 (.slot 14) true, .slot 15 (.int .i64)]
abbrev ref02_Set_l0_outs : List Go.AE.Item := [.row .u8 1 (.slot 14) true]
def ref02_Set_l0_ann (F : Nat) {ρ : Type} : Ann ρ := annS 91 ref02_Set_l0_ins ref02_Set_l0_outs fun d => ref02_Set_l0 F F d.1 d.2.1 d.2.2.1 d.2.2.2.1 d.2.2.2.2.1 d.2.2.2.2.2.1
theorem ref02_Set_l0_ok (F : Nat) {ρ : Type} (B : Base) (w : World) : AnnAt (ρ := ρ) Try.prog false B w (.block 0 (.loop (loopAt (bodyOf Try.f28) 0))) (ref02_Set_l0_ann F) :=
  toldS_ok callable (ref02_Set_all F) (ins := ref02_Set_l0_ins) (outs := ref02_Set_l0_outs) (anns := []) (L := fun k d => ref02_Set_l0 F k d.1 d.2.1 d.2.2.1 d.2.2.2.1 d.2.2.2.2.1 d.2.2.2.2.2.1) (annsOk_nil _ _) (fun d => rfl)
    (fun k d => (by kernel_rfl : evCode Try.prog (calT Try.prog (ref02_Set_tab F) _) (qcalT (ref02_Set_tab F) _) (annOf []) (loopAt (bodyOf Try.f28) 0) (bldS 91 ref02_Set_l0_ins d) (kS 91 ref02_Set_l0_ins ref02_Set_l0_outs 0 fun d => ref02_Set_l0 F k d.1 d.2.1 d.2.2.1 d.2.2.2.1 d.2.2.2.2.1 d.2.2.2.2.2.1) = ref02_Set_l0S F (ref02_Set_l0 F k) d.1 d.2.1 d.2.2.1 d.2.2.2.1 d.2.2.2.2.1 d.2.2.2.2.2.1)) F B w

def ref02_Set_told (F : Nat) : ToldF := ⟨28, 5, [.row .u8 1 (.slot 0) false, .slot 1 (.int .i64), .slot 2 (.int .i64), .slot 3 (.bool), .slot 4 (.int .u64)], [.row .u8 1, .ty (.int .i64)], fun d => ref02_Set F d.1 d.2.1 d.2.2.1 d.2.2.2.1 d.2.2.2.2.1⟩
theorem ref02_Set_ok (F : Nat) : (ref02_Set_told F).ok Try.prog :=
  toldF_ok callable (ref02_Set_all F) (fn := Try.f28) (t := ref02_Set_told F) (anns := [(0, ref02_Set_l0_ann F)]) (by kernel_rfl) (annsOk_cons (by kernel_rfl) (fun B w => ref02_Set_l0_ok F B w) (annsOk_nil _ _))
    (fun d => (by kernel_rfl : evBody Try.prog (calT Try.prog (ref02_Set_tab F) _) (qcalT (ref02_Set_tab F) _) (annOf [(0, ref02_Set_l0_ann F)]) 28 (bldS 5 (ref02_Set_told F).ins d).tmps (bldS 5 (ref02_Set_told F).ins d).heap (endO (ref02_Set_told F).os) = ref02_Set F d.1 d.2.1 d.2.2.1 d.2.2.2.1 d.2.2.2.2.1))

def ref07_Join_tab (F : Nat) : List ToldF := [ref02_Set_told F]
theorem ref07_Join_all (F : Nat) : AllOk Try.prog (ref07_Join_tab F) := ⟨ref02_Set_ok F, trivial⟩

abbrev ref07_Join_l0_ins : List Go.AE.Item := [.segs [.hole (.is .i64 16)] (.slot 5) true, .ptr 5 0 16, .row .u8 1 (.slot 8) true, .slot 9 (.int .i64)]
abbrev ref07_Join_l0_outs : List Go.AE.Item := [.row .u8 1 (.slot 8) true]
abbrev ref07_Join_l0_outX : List Go.AE.Item := [.const 6 .nils, .const 7 (.int .i64 (some 1) 1)]
def ref07_Join_l0_ann (F : Nat) {ρ : Type} : Ann ρ := annX 56 ref07_Join_l0_ins ref07_Join_l0_outX ref07_Join_l0_outs .ret fun d => ref07_Join_l0 F F d.1 d.2.1 d.2.2.1
theorem ref07_Join_l0_ok (F : Nat) {ρ : Type} (B : Base) (w : World) : AnnAt (ρ := ρ) Try.prog false B w (.block 0 (.loop (loopAt (bodyOf Try.f46) 0))) (ref07_Join_l0_ann F) :=
  toldX_ok callable (ref07_Join_all F) (ins := ref07_Join_l0_ins) (outX := ref07_Join_l0_outX) (outs := ref07_Join_l0_outs) (anns := []) (L := fun k d => ref07_Join_l0 F k d.1 d.2.1 d.2.2.1) (annsOk_nil _ _) (fun d => rfl)
    (fun k d => (by kernel_rfl : evCode Try.prog (calT Try.prog (ref07_Join_tab F) _) (qcalT (ref07_Join_tab F) _) (annOf []) (loopAt (bodyOf Try.f46) 0) (bldS 56 ref07_Join_l0_ins d) (kX 56 ref07_Join_l0_ins ref07_Join_l0_outX ref07_Join_l0_outs 0 .ret fun d => ref07_Join_l0 F k d.1 d.2.1 d.2.2.1) = ref07_Join_l0S F (ref07_Join_l0 F k) d.1 d.2.1 d.2.2.1)) (by first | exact .inl rfl | exact .inr ⟨_, rfl, by decide⟩) F B w

def ref07_Join_told (F : Nat) : ToldF := ⟨46, 3, [.slot 0 (.int .i64), .slot 1 (.int .i64), .slot 2 (.is .i64 16)], [.row .u8 1, .ty (.int .i64)], fun d => ref07_Join F d.1 d.2.1 d.2.2.1⟩
theorem ref07_Join_ok (F : Nat) : (ref07_Join_told F).ok Try.prog :=
  toldF_ok callable (ref07_Join_all F) (fn := Try.f46) (t := ref07_Join_told F) (anns := [(0, ref07_Join_l0_ann F)]) (by kernel_rfl) (annsOk_cons (by kernel_rfl) (fun B w => ref07_Join_l0_ok F B w) (annsOk_nil _ _))
    (fun d => (by kernel_rfl : evBody Try.prog (calT Try.prog (ref07_Join_tab F) _) (qcalT (ref07_Join_tab F) _) (annOf [(0, ref07_Join_l0_ann F)]) 46 (bldS 3 (ref07_Join_told F).ins d).tmps (bldS 3 (ref07_Join_told F).ins d).heap (endO (ref07_Join_told F).os) = ref07_Join F d.1 d.2.1 d.2.2.1))

def ref07_JoinFours_tab (F : Nat) : List ToldF := [ref02_Set_told F]
theorem ref07_JoinFours_all (F : Nat) : AllOk Try.prog (ref07_JoinFours_tab F) := ⟨ref02_Set_ok F, trivial⟩

abbrev ref07_JoinFours_l0_ins : List Go.AE.Item := [.segs [.hole (.is .i64 16)] (.slot 1) true, .ptr 1 0 16, .row .u8 1 (.slot 4) true, .slot 5 (.int .i64)]
abbrev ref07_JoinFours_l0_outs : List Go.AE.Item := [.row .u8 1 (.slot 4) true]
abbrev ref07_JoinFours_l0_outX : List Go.AE.Item := [.const 2 .nils, .const 3 (.int .i64 (some 1) 1)]
def ref07_JoinFours_l0_ann (F : Nat) {ρ : Type} : Ann ρ := annX 33 ref07_JoinFours_l0_ins ref07_JoinFours_l0_outX ref07_JoinFours_l0_outs .ret fun d => ref07_JoinFours_l0 F F d.1 d.2.1 d.2.2.1
theorem ref07_JoinFours_l0_ok (F : Nat) {ρ : Type} (B : Base) (w : World) : AnnAt (ρ := ρ) Try.prog false B w (.block 0 (.loop (loopAt (bodyOf Try.f48) 0))) (ref07_JoinFours_l0_ann F) :=
  toldX_ok callable (ref07_JoinFours_all F) (ins := ref07_JoinFours_l0_ins) (outX := ref07_JoinFours_l0_outX) (outs := ref07_JoinFours_l0_outs) (anns := []) (L := fun k d => ref07_JoinFours_l0 F k d.1 d.2.1 d.2.2.1) (annsOk_nil _ _) (fun d => rfl)
    (fun k d => (by kernel_rfl : evCode Try.prog (calT Try.prog (ref07_JoinFours_tab F) _) (qcalT (ref07_JoinFours_tab F) _) (annOf []) (loopAt (bodyOf Try.f48) 0) (bldS 33 ref07_JoinFours_l0_ins d) (kX 33 ref07_JoinFours_l0_ins ref07_JoinFours_l0_outX ref07_JoinFours_l0_outs 0 .ret fun d => ref07_JoinFours_l0 F k d.1 d.2.1 d.2.2.1) = ref07_JoinFours_l0S F (ref07_JoinFours_l0 F k) d.1 d.2.1 d.2.2.1)) (by first | exact .inl rfl | exact .inr ⟨_, rfl, by decide⟩) F B w

def ref07_JoinFours_told (F : Nat) : ToldF := ⟨48, 1, [.slot 0 (.is .i64 16)], [.row .u8 1, .ty (.int .i64)], fun d => ref07_JoinFours F d.1⟩
theorem ref07_JoinFours_ok (F : Nat) : (ref07_JoinFours_told F).ok Try.prog :=
  toldF_ok callable (ref07_JoinFours_all F) (fn := Try.f48) (t := ref07_JoinFours_told F) (anns := [(0, ref07_JoinFours_l0_ann F)]) (by kernel_rfl) (annsOk_cons (by kernel_rfl) (fun B w => ref07_JoinFours_l0_ok F B w) (annsOk_nil _ _))
    (fun d => (by kernel_rfl : evBody Try.prog (calT Try.prog (ref07_JoinFours_tab F) _) (qcalT (ref07_JoinFours_tab F) _) (annOf [(0, ref07_JoinFours_l0_ann F)]) 48 (bldS 1 (ref07_JoinFours_told F).ins d).tmps (bldS 1 (ref07_JoinFours_told F).ins d).heap (endO (ref07_JoinFours_told F).os) = ref07_JoinFours F d.1))

def ref01_Same_tab (F : Nat) : List ToldF := []
theorem ref01_Same_all (F : Nat) : AllOk Try.prog (ref01_Same_tab F) := trivial

abbrev ref01_Same_l0_ins : List Go.AE.Item := [.row .u8 1 (.slot 0) false, .row .u8 1 (.slot 1) false, .slot 5 (.int .i64)]
abbrev ref01_Same_l0_outs : List Go.AE.Item := []
abbrev ref01_Same_l0_outX : List Go.AE.Item := [.const 4 (.bool (some false) false)]
def ref01_Same_l0_ann (F : Nat) {ρ : Type} : Ann ρ := annX 26 ref01_Same_l0_ins ref01_Same_l0_outX ref01_Same_l0_outs .ret fun d => ref01_Same_l0 F F d.1 d.2.1 d.2.2.1
theorem ref01_Same_l0_ok (F : Nat) {ρ : Type} (B : Base) (w : World) : AnnAt (ρ := ρ) Try.prog false B w (.block 0 (.loop (loopAt (bodyOf Try.f30) 0))) (ref01_Same_l0_ann F) :=
  toldX_ok callable (ref01_Same_all F) (ins := ref01_Same_l0_ins) (outX := ref01_Same_l0_outX) (outs := ref01_Same_l0_outs) (anns := []) (L := fun k d => ref01_Same_l0 F k d.1 d.2.1 d.2.2.1) (annsOk_nil _ _) (fun d => rfl)
    (fun k d => (by kernel_rfl : evCode Try.prog (calT Try.prog (ref01_Same_tab F) _) (qcalT (ref01_Same_tab F) _) (annOf []) (loopAt (bodyOf Try.f30) 0) (bldS 26 ref01_Same_l0_ins d) (kX 26 ref01_Same_l0_ins ref01_Same_l0_outX ref01_Same_l0_outs 0 .ret fun d => ref01_Same_l0 F k d.1 d.2.1 d.2.2.1) = ref01_Same_l0S F (ref01_Same_l0 F k) d.1 d.2.1 d.2.2.1)) (by first | exact .inl rfl | exact .inr ⟨_, rfl, by decide⟩) F B w

def ref01_Same_told (F : Nat) : ToldF := ⟨30, 2, [.row .u8 1 (.slot 0) false, .row .u8 1 (.slot 1) false], [.ty (.bool)], fun d => ref01_Same F d.1 d.2.1⟩
theorem ref01_Same_ok (F : Nat) : (ref01_Same_told F).ok Try.prog :=
  toldF_ok callable (ref01_Same_all F) (fn := Try.f30) (t := ref01_Same_told F) (anns := [(0, ref01_Same_l0_ann F)]) (by kernel_rfl) (annsOk_cons (by kernel_rfl) (fun B w => ref01_Same_l0_ok F B w) (annsOk_nil _ _))
    (fun d => (by kernel_rfl : evBody Try.prog (calT Try.prog (ref01_Same_tab F) _) (qcalT (ref01_Same_tab F) _) (annOf [(0, ref01_Same_l0_ann F)]) 30 (bldS 2 (ref01_Same_told F).ins d).tmps (bldS 2 (ref01_Same_told F).ins d).heap (endO (ref01_Same_told F).os) = ref01_Same F d.1 d.2.1))

def law07_BcfourTells_tab (F : Nat) : List ToldF := [bcfour_Join_told F, bcfour_Parts_told F, bcfour_Ramp_told F, bcfour_Decode_told F, bcfour_JoinFours_told F, bcfour_Fours_told F, law07_awake_told F, ref07_Parts_told F, ref07_Ramp_told F, ref07_Decode_told F, ref07_Fours_told F, ref07_Join_told F, ref07_JoinFours_told F, ref01_Same_told F]
theorem law07_BcfourTells_all (F : Nat) : AllOk Try.prog (law07_BcfourTells_tab F) := ⟨bcfour_Join_ok F, ⟨bcfour_Parts_ok F, ⟨bcfour_Ramp_ok F, ⟨bcfour_Decode_ok F, ⟨bcfour_JoinFours_ok F, ⟨bcfour_Fours_ok F, ⟨law07_awake_ok F, ⟨ref07_Parts_ok F, ⟨ref07_Ramp_ok F, ⟨ref07_Decode_ok F, ⟨ref07_Fours_ok F, ⟨ref07_Join_ok F, ⟨ref07_JoinFours_ok F, ⟨ref01_Same_ok F, trivial⟩⟩⟩⟩⟩⟩⟩⟩⟩⟩⟩⟩⟩⟩

abbrev law07_BcfourTells_l0_ins : List Go.AE.Item := [.segs [.hole (.is .i64 18)] (.slot 3) true, .ptr 3 0 18, .slot 5 (.bool), .segs [.hole (.is .i64 16)] (.slot 22) true, .ptr 22 1 16, .slot 23 (.int .i64)]
abbrev law07_BcfourTells_l0_outs : List Go.AE.Item := [.segs [.hole (.is .i64 18)] (.slot 3) true, .ptr 3 0 18, .slot 5 (.bool), .segs [.hole (.is .i64 16)] (.slot 22) true, .ptr 22 1 16]
def law07_BcfourTells_l0_ann (F : Nat) {ρ : Type} : Ann ρ := annS 208 law07_BcfourTells_l0_ins law07_BcfourTells_l0_outs fun d => law07_BcfourTells_l0 F F d.1 d.2.1 d.2.2.1 d.2.2.2.1
theorem law07_BcfourTells_l0_ok (F : Nat) {ρ : Type} (B : Base) (w : World) : AnnAt (ρ := ρ) Try.prog false B w (.block 0 (.loop (loopAt (bodyOf Try.f11) 0))) (law07_BcfourTells_l0_ann F) :=
  toldS_ok callable (law07_BcfourTells_all F) (ins := law07_BcfourTells_l0_ins) (outs := law07_BcfourTells_l0_outs) (anns := []) (L := fun k d => law07_BcfourTells_l0 F k d.1 d.2.1 d.2.2.1 d.2.2.2.1) (annsOk_nil _ _) (fun d => rfl)
    (fun k d => (by kernel_rfl : evCode Try.prog (calT Try.prog (law07_BcfourTells_tab F) _) (qcalT (law07_BcfourTells_tab F) _) (annOf []) (loopAt (bodyOf Try.f11) 0) (bldS 208 law07_BcfourTells_l0_ins d) (kS 208 law07_BcfourTells_l0_ins law07_BcfourTells_l0_outs 0 fun d => law07_BcfourTells_l0 F k d.1 d.2.1 d.2.2.1 d.2.2.2.1) = law07_BcfourTells_l0S F (law07_BcfourTells_l0 F k) d.1 d.2.1 d.2.2.1 d.2.2.2.1)) F B w

def law07_BcfourTells_told (F : Nat) : ToldF := ⟨11, 2, [.row .u8 1 (.slot 0) false, .slot 1 (.is .i64 18)], [.ty (.bool)], fun d => law07_BcfourTells F d.1 d.2.1⟩
theorem law07_BcfourTells_ok (F : Nat) : (law07_BcfourTells_told F).ok Try.prog :=
  toldF_ok callable (law07_BcfourTells_all F) (fn := Try.f11) (t := law07_BcfourTells_told F) (anns := [(0, law07_BcfourTells_l0_ann F)]) (by kernel_rfl) (annsOk_cons (by kernel_rfl) (fun B w => law07_BcfourTells_l0_ok F B w) (annsOk_nil _ _))
    (fun d => (by kernel_rfl : evBody Try.prog (calT Try.prog (law07_BcfourTells_tab F) _) (qcalT (law07_BcfourTells_tab F) _) (annOf [(0, law07_BcfourTells_l0_ann F)]) 11 (bldS 2 (law07_BcfourTells_told F).ins d).tmps (bldS 2 (law07_BcfourTells_told F).ins d).heap (endO (law07_BcfourTells_told F).os) = law07_BcfourTells F d.1 d.2.1))

def law07_BcfourRamp_tab (F : Nat) : List ToldF := [bcfour_Ramp_told F, law07_awake_told F]
theorem law07_BcfourRamp_all (F : Nat) : AllOk Try.prog (law07_BcfourRamp_tab F) := ⟨bcfour_Ramp_ok F, ⟨law07_awake_ok F, trivial⟩⟩

abbrev law07_BcfourRamp_l0_ins : List Go.AE.Item := [.slot 0 (.int .i64), .slot 1 (.int .i64), .slot 5 (.bool), .segs [.hole (.is .i64 8)] (.slot 6) true, .ptr 6 0 8, .slot 7 (.int .i64), .slot 8 (.int .i64), .slot 9 (.int .i64)]
abbrev law07_BcfourRamp_l0_outs : List Go.AE.Item := [.slot 0 (.int .i64), .slot 1 (.int .i64), .slot 5 (.bool), .segs [.hole (.is .i64 8)] (.slot 6) true, .ptr 6 0 8]
abbrev law07_BcfourRamp_l0_outX : List Go.AE.Item := [.const 4 (.bool (some false) false)]
def law07_BcfourRamp_l0_ann (F : Nat) {ρ : Type} : Ann ρ := annX 102 law07_BcfourRamp_l0_ins law07_BcfourRamp_l0_outX law07_BcfourRamp_l0_outs .ret fun d => law07_BcfourRamp_l0 F F d.1 d.2.1 d.2.2.1 d.2.2.2.1 d.2.2.2.2.1 d.2.2.2.2.2.1 d.2.2.2.2.2.2.1
theorem law07_BcfourRamp_l0_ok (F : Nat) {ρ : Type} (B : Base) (w : World) : AnnAt (ρ := ρ) Try.prog false B w (.block 0 (.loop (loopAt (bodyOf Try.f12) 0))) (law07_BcfourRamp_l0_ann F) :=
  toldX_ok callable (law07_BcfourRamp_all F) (ins := law07_BcfourRamp_l0_ins) (outX := law07_BcfourRamp_l0_outX) (outs := law07_BcfourRamp_l0_outs) (anns := []) (L := fun k d => law07_BcfourRamp_l0 F k d.1 d.2.1 d.2.2.1 d.2.2.2.1 d.2.2.2.2.1 d.2.2.2.2.2.1 d.2.2.2.2.2.2.1) (annsOk_nil _ _) (fun d => rfl)
    (fun k d => (by kernel_rfl : evCode Try.prog (calT Try.prog (law07_BcfourRamp_tab F) _) (qcalT (law07_BcfourRamp_tab F) _) (annOf []) (loopAt (bodyOf Try.f12) 0) (bldS 102 law07_BcfourRamp_l0_ins d) (kX 102 law07_BcfourRamp_l0_ins law07_BcfourRamp_l0_outX law07_BcfourRamp_l0_outs 0 .ret fun d => law07_BcfourRamp_l0 F k d.1 d.2.1 d.2.2.1 d.2.2.2.1 d.2.2.2.2.1 d.2.2.2.2.2.1 d.2.2.2.2.2.2.1) = law07_BcfourRamp_l0S F (law07_BcfourRamp_l0 F k) d.1 d.2.1 d.2.2.1 d.2.2.2.1 d.2.2.2.2.1 d.2.2.2.2.2.1 d.2.2.2.2.2.2.1)) (by first | exact .inl rfl | exact .inr ⟨_, rfl, by decide⟩) F B w

def law07_BcfourRamp_told (F : Nat) : ToldF := ⟨12, 2, [.slot 0 (.int .i64), .slot 1 (.int .i64)], [.ty (.bool)], fun d => law07_BcfourRamp F d.1 d.2.1⟩
theorem law07_BcfourRamp_ok (F : Nat) : (law07_BcfourRamp_told F).ok Try.prog :=
  toldF_ok callable (law07_BcfourRamp_all F) (fn := Try.f12) (t := law07_BcfourRamp_told F) (anns := [(0, law07_BcfourRamp_l0_ann F)]) (by kernel_rfl) (annsOk_cons (by kernel_rfl) (fun B w => law07_BcfourRamp_l0_ok F B w) (annsOk_nil _ _))
    (fun d => (by kernel_rfl : evBody Try.prog (calT Try.prog (law07_BcfourRamp_tab F) _) (qcalT (law07_BcfourRamp_tab F) _) (annOf [(0, law07_BcfourRamp_l0_ann F)]) 12 (bldS 2 (law07_BcfourRamp_told F).ins d).tmps (bldS 2 (law07_BcfourRamp_told F).ins d).heap (endO (law07_BcfourRamp_told F).os) = law07_BcfourRamp F d.1 d.2.1))

def level_square_tab (F : Nat) : List ToldF := []
theorem level_square_all (F : Nat) : AllOk Try.prog (level_square_tab F) := trivial

def level_square_told (F : Nat) : ToldF := ⟨82, 1, [.slot 0 (.int .i64)], [.ty (.int .i64)], fun d => level_square F d.1⟩
theorem level_square_ok (F : Nat) : (level_square_told F).ok Try.prog :=
  toldF_ok callable (level_square_all F) (fn := Try.f82) (t := level_square_told F) (anns := []) (by kernel_rfl) (annsOk_nil _ _)
    (fun d => (by kernel_rfl : evBody Try.prog (calT Try.prog (level_square_tab F) _) (qcalT (level_square_tab F) _) (annOf []) 82 (bldS 1 (level_square_told F).ins d).tmps (bldS 1 (level_square_told F).ins d).heap (endO (level_square_told F).os) = level_square F d.1))

def level_Near_c1_tab (F : Nat) : List ToldF := [level_Wide_told F, level_square_told F]
theorem level_Near_c1_all (F : Nat) : AllOk Try.prog (level_Near_c1_tab F) := ⟨level_Wide_ok F, ⟨level_square_ok F, trivial⟩⟩

def level_Near_c1_told (F : Nat) : ToldF := ⟨81, 3, [.slot 0 (.int .i64), .segs [.hole (.int .i64)] (.slot 1) false, .ptr 1 0 1, .segs [.hole (.int .i64)] (.slot 2) false, .ptr 2 1 1], [.ty (.int .i64)], fun d => level_Near_c1 F d.1 d.2.1 d.2.2.1⟩
theorem level_Near_c1_ok (F : Nat) : (level_Near_c1_told F).ok Try.prog :=
  toldF_ok callable (level_Near_c1_all F) (fn := Try.f81) (t := level_Near_c1_told F) (anns := []) (by kernel_rfl) (annsOk_nil _ _)
    (fun d => (by kernel_rfl : evBody Try.prog (calT Try.prog (level_Near_c1_tab F) _) (qcalT (level_Near_c1_tab F) _) (annOf []) 81 (bldS 3 (level_Near_c1_told F).ins d).tmps (bldS 3 (level_Near_c1_told F).ins d).heap (endO (level_Near_c1_told F).os) = level_Near_c1 F d.1 d.2.1 d.2.2.1))

def level_least_Near_c1_tab (F : Nat) : List ToldF := [level_Near_c1_told F]
theorem level_least_Near_c1_all (F : Nat) : AllOk Try.prog (level_least_Near_c1_tab F) := ⟨level_Near_c1_ok F, trivial⟩

abbrev level_least_Near_c1_l0_ins : List Go.AE.Item := [.segs [.hole (.int .i64)] (.cap (.slot 1) 0) false, .segs [.hole (.int .i64)] (.cap (.slot 1) 1) false, .fn 1 81 [.ptr 0 1, .ptr 1 1], .slot 5 (.int .i64), .slot 6 (.int .i64), .slot 9 (.int .i64), .slot 10 (.int .i64)]
abbrev level_least_Near_c1_l0_outs : List Go.AE.Item := [.slot 5 (.int .i64)]
def level_least_Near_c1_l0_ann (F : Nat) {ρ : Type} : Ann ρ := annS 27 level_least_Near_c1_l0_ins level_least_Near_c1_l0_outs fun d => level_least_Near_c1_l0 F F d.1 d.2.1 d.2.2.1 d.2.2.2.1 d.2.2.2.2.1 d.2.2.2.2.2.1
theorem level_least_Near_c1_l0_ok (F : Nat) {ρ : Type} (B : Base) (w : World) : AnnAt (ρ := ρ) Try.prog false B w (.block 0 (.loop (loopAt (bodyOf Try.f80) 0))) (level_least_Near_c1_l0_ann F) :=
  toldS_ok callable (level_least_Near_c1_all F) (ins := level_least_Near_c1_l0_ins) (outs := level_least_Near_c1_l0_outs) (anns := []) (L := fun k d => level_least_Near_c1_l0 F k d.1 d.2.1 d.2.2.1 d.2.2.2.1 d.2.2.2.2.1 d.2.2.2.2.2.1) (annsOk_nil _ _) (fun d => rfl)
    (fun k d => (by kernel_rfl : evCode Try.prog (calT Try.prog (level_least_Near_c1_tab F) _) (qcalT (level_least_Near_c1_tab F) _) (annOf []) (loopAt (bodyOf Try.f80) 0) (bldS 27 level_least_Near_c1_l0_ins d) (kS 27 level_least_Near_c1_l0_ins level_least_Near_c1_l0_outs 0 fun d => level_least_Near_c1_l0 F k d.1 d.2.1 d.2.2.1 d.2.2.2.1 d.2.2.2.2.1 d.2.2.2.2.2.1) = level_least_Near_c1_l0S F (level_least_Near_c1_l0 F k) d.1 d.2.1 d.2.2.1 d.2.2.2.1 d.2.2.2.2.1 d.2.2.2.2.2.1)) F B w

def level_least_Near_c1_told (F : Nat) : ToldF := ⟨80, 2, [.slot 0 (.int .i64), .segs [.hole (.int .i64)] (.cap (.slot 1) 0) false, .segs [.hole (.int .i64)] (.cap (.slot 1) 1) false, .fn 1 81 [.ptr 0 1, .ptr 1 1]], [.ty (.int .i64)], fun d => level_least_Near_c1 F d.1 d.2.1 d.2.2.1⟩
theorem level_least_Near_c1_ok (F : Nat) : (level_least_Near_c1_told F).ok Try.prog :=
  toldF_ok callable (level_least_Near_c1_all F) (fn := Try.f80) (t := level_least_Near_c1_told F) (anns := [(0, level_least_Near_c1_l0_ann F)]) (by kernel_rfl) (annsOk_cons (by kernel_rfl) (fun B w => level_least_Near_c1_l0_ok F B w) (annsOk_nil _ _))
    (fun d => (by kernel_rfl : evBody Try.prog (calT Try.prog (level_least_Near_c1_tab F) _) (qcalT (level_least_Near_c1_tab F) _) (annOf [(0, level_least_Near_c1_l0_ann F)]) 80 (bldS 2 (level_least_Near_c1_told F).ins d).tmps (bldS 2 (level_least_Near_c1_told F).ins d).heap (endO (level_least_Near_c1_told F).os) = level_least_Near_c1 F d.1 d.2.1 d.2.2.1))

def level_Near_tab (F : Nat) : List ToldF := [level_odd_told F, level_least_Near_c1_told F]
theorem level_Near_all (F : Nat) : AllOk Try.prog (level_Near_tab F) := ⟨level_odd_ok F, ⟨level_least_Near_c1_ok F, trivial⟩⟩

def level_Near_told (F : Nat) : ToldF := ⟨51, 2, [.slot 0 (.int .i64), .slot 1 (.int .i64)], [.ty (.int .i64)], fun d => level_Near F d.1 d.2.1⟩
theorem level_Near_ok (F : Nat) : (level_Near_told F).ok Try.prog :=
  toldF_ok callable (level_Near_all F) (fn := Try.f51) (t := level_Near_told F) (anns := []) (by kernel_rfl) (annsOk_nil _ _)
    (fun d => (by kernel_rfl : evBody Try.prog (calT Try.prog (level_Near_tab F) _) (qcalT (level_Near_tab F) _) (annOf []) 51 (bldS 2 (level_Near_told F).ins d).tmps (bldS 2 (level_Near_told F).ins d).heap (endO (level_Near_told F).os) = level_Near F d.1 d.2.1))

def law07_BcfourBack_tab (F : Nat) : List ToldF := [bcfour_Join_told F, bcfour_Parts_told F, bcfour_JoinFours_told F, bcfour_Fours_told F, law07_awake_told F, ref01_Same_told F, level_Near_told F]
theorem law07_BcfourBack_all (F : Nat) : AllOk Try.prog (law07_BcfourBack_tab F) := ⟨bcfour_Join_ok F, ⟨bcfour_Parts_ok F, ⟨bcfour_JoinFours_ok F, ⟨bcfour_Fours_ok F, ⟨law07_awake_ok F, ⟨ref01_Same_ok F, ⟨level_Near_ok F, trivial⟩⟩⟩⟩⟩⟩⟩

abbrev law07_BcfourBack_l0_ins : List Go.AE.Item := [.row .u8 1 (.slot 0) false, .slot 3 (.bool), .slot 7 (.int .i64), .segs [.hole (.is .i64 16)] (.slot 8) true, .ptr 8 1 16, .slot 9 (.int .i64), .row .u8 1 (.slot 10) true, .slot 11 (.int .i64), .slot 12 (.int .i64)]
abbrev law07_BcfourBack_l0_outs : List Go.AE.Item := [.row .u8 1 (.slot 0) false, .slot 3 (.bool), .slot 7 (.int .i64), .segs [.hole (.is .i64 16)] (.slot 8) true, .ptr 8 1 16, .slot 9 (.int .i64), .row .u8 1 (.slot 10) true, .slot 11 (.int .i64)]
def law07_BcfourBack_l0_ann (F : Nat) {ρ : Type} : Ann ρ := annS 93 law07_BcfourBack_l0_ins law07_BcfourBack_l0_outs fun d => law07_BcfourBack_l0 F F d.1 d.2.1 d.2.2.1 d.2.2.2.1 d.2.2.2.2.1 d.2.2.2.2.2.1 d.2.2.2.2.2.2.1 d.2.2.2.2.2.2.2.1
theorem law07_BcfourBack_l0_ok (F : Nat) {ρ : Type} (B : Base) (w : World) : AnnAt (ρ := ρ) Try.prog false B w (.block 0 (.loop (loopAt (bodyOf Try.f13) 0))) (law07_BcfourBack_l0_ann F) :=
  toldS_ok callable (law07_BcfourBack_all F) (ins := law07_BcfourBack_l0_ins) (outs := law07_BcfourBack_l0_outs) (anns := []) (L := fun k d => law07_BcfourBack_l0 F k d.1 d.2.1 d.2.2.1 d.2.2.2.1 d.2.2.2.2.1 d.2.2.2.2.2.1 d.2.2.2.2.2.2.1 d.2.2.2.2.2.2.2.1) (annsOk_nil _ _) (fun d => rfl)
    (fun k d => (by kernel_rfl : evCode Try.prog (calT Try.prog (law07_BcfourBack_tab F) _) (qcalT (law07_BcfourBack_tab F) _) (annOf []) (loopAt (bodyOf Try.f13) 0) (bldS 93 law07_BcfourBack_l0_ins d) (kS 93 law07_BcfourBack_l0_ins law07_BcfourBack_l0_outs 0 fun d => law07_BcfourBack_l0 F k d.1 d.2.1 d.2.2.1 d.2.2.2.1 d.2.2.2.2.1 d.2.2.2.2.2.1 d.2.2.2.2.2.2.1 d.2.2.2.2.2.2.2.1) = law07_BcfourBack_l0S F (law07_BcfourBack_l0 F k) d.1 d.2.1 d.2.2.1 d.2.2.2.1 d.2.2.2.2.1 d.2.2.2.2.2.1 d.2.2.2.2.2.2.1 d.2.2.2.2.2.2.2.1)) F B w

def law07_BcfourBack_told (F : Nat) : ToldF := ⟨13, 1, [.row .u8 1 (.slot 0) false], [.ty (.bool)], fun d => law07_BcfourBack F d.1⟩
theorem law07_BcfourBack_ok (F : Nat) : (law07_BcfourBack_told F).ok Try.prog :=
  toldF_ok callable (law07_BcfourBack_all F) (fn := Try.f13) (t := law07_BcfourBack_told F) (anns := [(0, law07_BcfourBack_l0_ann F)]) (by kernel_rfl) (annsOk_cons (by kernel_rfl) (fun B w => law07_BcfourBack_l0_ok F B w) (annsOk_nil _ _))
    (fun d => (by kernel_rfl : evBody Try.prog (calT Try.prog (law07_BcfourBack_tab F) _) (qcalT (law07_BcfourBack_tab F) _) (annOf [(0, law07_BcfourBack_l0_ann F)]) 13 (bldS 1 (law07_BcfourBack_told F).ins d).tmps (bldS 1 (law07_BcfourBack_told F).ins d).heap (endO (law07_BcfourBack_told F).os) = law07_BcfourBack F d.1))

end Go.Proofs.Ytjmdnghdbfmijaa

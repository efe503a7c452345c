/- Printed by a program of mine (gen.py): the Go functions of this part come to what is told. -/
import Derived.Test.YtpipmhfkdeaebaaRows
import Derived.KernelRfl
import Derived.Test.YtpipmhfkdeaebaaB06defs
set_option linter.unusedSimpArgs false
set_option maxRecDepth 100000
set_option linter.unusedVariables false
namespace Go.Proofs.Ytpipmhfkdeaebaa
open Go Go.AE Go.AE.Gn
theorem callable : Callable Try.prog := callable_of (by kernel_rfl)
def bits_room_tab (F : Nat) : List ToldF := []
theorem bits_room_all (F : Nat) : AllOk Try.prog (bits_room_tab F) := trivial

def bits_room_told (F : Nat) : ToldF := ⟨77, 3, [.row .u8 1 (.slot 0) false, .slot 1 (.int .i64), .slot 2 (.int .i64)], [.ty (.bool)], fun d => bits_room F d.1 d.2.1 d.2.2.1⟩
theorem bits_room_ok (F : Nat) : (bits_room_told F).ok Try.prog :=
  toldF_ok callable (bits_room_all F) (fn := Try.f77) (t := bits_room_told F) (anns := []) (by kernel_rfl) (annsOk_nil _ _)
    (fun d => (by kernel_rfl : evBody Try.prog (calT Try.prog (bits_room_tab F) _) (qcalT (bits_room_tab F) _) (annOf []) 77 (bldS 3 (bits_room_told F).ins d).tmps (bldS 3 (bits_room_told F).ins d).heap (endO (bits_room_told F).os) = bits_room F d.1 d.2.1 d.2.2.1))

def bits_check_tab (F : Nat) : List ToldF := [bits_room_told F]
theorem bits_check_all (F : Nat) : AllOk Try.prog (bits_check_tab F) := ⟨bits_room_ok F, trivial⟩

def bits_check_told (F : Nat) : ToldF := ⟨85, 3, [.row .u8 1 (.slot 0) false, .slot 1 (.int .i64), .slot 2 (.int .i64)], [.ty (.int .i64)], fun d => bits_check F d.1 d.2.1 d.2.2.1⟩
theorem bits_check_ok (F : Nat) : (bits_check_told F).ok Try.prog :=
  toldF_ok callable (bits_check_all F) (fn := Try.f85) (t := bits_check_told F) (anns := []) (by kernel_rfl) (annsOk_nil _ _)
    (fun d => (by kernel_rfl : evBody Try.prog (calT Try.prog (bits_check_tab F) _) (qcalT (bits_check_tab F) _) (annOf []) 85 (bldS 3 (bits_check_told F).ins d).tmps (bldS 3 (bits_check_told F).ins d).heap (endO (bits_check_told F).os) = bits_check F d.1 d.2.1 d.2.2.1))

def bits_fits_tab (F : Nat) : List ToldF := [bits_check_told F]
theorem bits_fits_all (F : Nat) : AllOk Try.prog (bits_fits_tab F) := ⟨bits_check_ok F, trivial⟩

def bits_fits_told (F : Nat) : ToldF := ⟨80, 4, [.row .u8 1 (.slot 0) false, .slot 1 (.int .i64), .slot 2 (.int .i64), .slot 3 (.int .u64)], [.ty (.int .i64)], fun d => bits_fits F d.1 d.2.1 d.2.2.1 d.2.2.2.1⟩
theorem bits_fits_ok (F : Nat) : (bits_fits_told F).ok Try.prog :=
  toldF_ok callable (bits_fits_all F) (fn := Try.f80) (t := bits_fits_told F) (anns := []) (by kernel_rfl) (annsOk_nil _ _)
    (fun d => (by kernel_rfl : evBody Try.prog (calT Try.prog (bits_fits_tab F) _) (qcalT (bits_fits_tab F) _) (annOf []) 80 (bldS 4 (bits_fits_told F).ins d).tmps (bldS 4 (bits_fits_told F).ins d).heap (endO (bits_fits_told F).os) = bits_fits F d.1 d.2.1 d.2.2.1 d.2.2.2.1))

def slices_Clone_byte_byte_told (F : Nat) : ToldF := ⟨81, 1, [.row .u8 1 (.slot 0) false], [.row .u8 1], fun d => slices_Clone_byte_byte F d.1⟩
theorem slices_Clone_byte_byte_ok (F : Nat) : (slices_Clone_byte_byte_told F).ok Try.prog :=
  clone_spec callable (fn := Try.f81) (f := 81) (k := .u8) (sz := 1) (R0 := cloneR0 (bodyOf Try.f81)) (X := cloneX (bodyOf Try.f81)) (REST := cloneRest (bodyOf Try.f81)) (o3 := cloneO3 (bodyOf Try.f81)) (o4 := cloneO4 (bodyOf Try.f81)) (t := 32) (t' := 32) (e := 5) (i1 := 1) (by kernel_rfl) (by kernel_rfl) (by kernel_rfl) (by kernel_rfl) (by kernel_rfl) (by kernel_rfl) (by kernel_rfl)
    (cloneS1 1 .u8) (cloneS2 1 .u8)
    (fun l => by kernel_rfl) (fun l => by kernel_rfl) (fun l => ⟨rfl, rfl⟩) (fun l => by simp [cloneS2]) (fun l => by kernel_rfl) (fun l => by kernel_rfl)

def bits_set_tab (F : Nat) : List ToldF := []
theorem bits_set_all (F : Nat) : AllOk Try.prog (bits_set_tab F) := trivial

def bits_set_told (F : Nat) : ToldF := ⟨82, 3, [.slot 0 (.int .u8), .slot 1 (.int .i64), .slot 2 (.int .u64)], [.ty (.int .u8)], fun d => bits_set F d.1 d.2.1 d.2.2.1⟩
theorem bits_set_ok (F : Nat) : (bits_set_told F).ok Try.prog :=
  toldF_ok callable (bits_set_all F) (fn := Try.f82) (t := bits_set_told F) (anns := []) (by kernel_rfl) (annsOk_nil _ _)
    (fun d => (by kernel_rfl : evBody Try.prog (calT Try.prog (bits_set_tab F) _) (qcalT (bits_set_tab F) _) (annOf []) 82 (bldS 3 (bits_set_told F).ins d).tmps (bldS 3 (bits_set_told F).ins d).heap (endO (bits_set_told F).os) = bits_set F d.1 d.2.1 d.2.2.1))

def bits_SetLow_tab (F : Nat) : List ToldF := [bits_fits_told F, slices_Clone_byte_byte_told F, bits_set_told F]
theorem bits_SetLow_all (F : Nat) : AllOk Try.prog (bits_SetLow_tab F) := ⟨bits_fits_ok F, ⟨slices_Clone_byte_byte_ok F, ⟨bits_set_ok F, trivial⟩⟩⟩

abbrev bits_SetLow_l0_ins : List Go.AE.Item := [.slot 1 (.int .i64), .slot 3 (.int .u64), .row .u8 1 (.slot 11) true, .slot 24 (.int .i64), .slot 25 (.int .i64)]
abbrev bits_SetLow_l0_outs : List Go.AE.Item := [.row .u8 1 (.slot 11) true]
def bits_SetLow_l0_ann (F : Nat) {ρ : Type} : Ann ρ := annS 48 bits_SetLow_l0_ins bits_SetLow_l0_outs fun d => bits_SetLow_l0 F F d.1 d.2.1 d.2.2.1 d.2.2.2.1 d.2.2.2.2.1
theorem bits_SetLow_l0_ok (F : Nat) {ρ : Type} (B : Base) (w : World) : AnnAt (ρ := ρ) Try.prog false B w (.block 0 (.loop (loopAt (bodyOf Try.f50) 0))) (bits_SetLow_l0_ann F) :=
  toldS_ok callable (bits_SetLow_all F) (ins := bits_SetLow_l0_ins) (outs := bits_SetLow_l0_outs) (anns := []) (L := fun k d => bits_SetLow_l0 F k d.1 d.2.1 d.2.2.1 d.2.2.2.1 d.2.2.2.2.1) (annsOk_nil _ _) (fun d => rfl)
    (fun k d => (by kernel_rfl : evCode Try.prog (calT Try.prog (bits_SetLow_tab F) _) (qcalT (bits_SetLow_tab F) _) (annOf []) (loopAt (bodyOf Try.f50) 0) (bldS 48 bits_SetLow_l0_ins d) (kS 48 bits_SetLow_l0_ins bits_SetLow_l0_outs 0 fun d => bits_SetLow_l0 F k d.1 d.2.1 d.2.2.1 d.2.2.2.1 d.2.2.2.2.1) = bits_SetLow_l0S F (bits_SetLow_l0 F k) d.1 d.2.1 d.2.2.1 d.2.2.2.1 d.2.2.2.2.1)) F B w

def bits_SetLow_told (F : Nat) : ToldF := ⟨50, 4, [.row .u8 1 (.slot 0) false, .slot 1 (.int .i64), .slot 2 (.int .i64), .slot 3 (.int .u64)], [.row .u8 1, .ty (.int .i64)], fun d => bits_SetLow F d.1 d.2.1 d.2.2.1 d.2.2.2.1⟩
theorem bits_SetLow_ok (F : Nat) : (bits_SetLow_told F).ok Try.prog :=
  toldF_ok callable (bits_SetLow_all F) (fn := Try.f50) (t := bits_SetLow_told F) (anns := [(0, bits_SetLow_l0_ann F)]) (by kernel_rfl) (annsOk_cons (by kernel_rfl) (fun B w => bits_SetLow_l0_ok F B w) (annsOk_nil _ _))
    (fun d => (by kernel_rfl : evBody Try.prog (calT Try.prog (bits_SetLow_tab F) _) (qcalT (bits_SetLow_tab F) _) (annOf [(0, bits_SetLow_l0_ann F)]) 50 (bldS 4 (bits_SetLow_told F).ins d).tmps (bldS 4 (bits_SetLow_told F).ins d).heap (endO (bits_SetLow_told F).os) = bits_SetLow F d.1 d.2.1 d.2.2.1 d.2.2.2.1))

def bcone_Join_tab (F : Nat) : List ToldF := [bits_SetLow_told F]
theorem bcone_Join_all (F : Nat) : AllOk Try.prog (bcone_Join_tab F) := ⟨bits_SetLow_ok F, trivial⟩

abbrev bcone_Join_l0_ins : List Go.AE.Item := [.slot 8 (.int .u64), .slot 31 (.is .i64 16), .slot 32 (.int .i64)]
abbrev bcone_Join_l0_outs : List Go.AE.Item := [.slot 8 (.int .u64)]
abbrev bcone_Join_l0_outX : List Go.AE.Item := [.const 6 .nils, .const 7 (.int .i64 (some 1) 1)]
def bcone_Join_l0_ann (F : Nat) {ρ : Type} : Ann ρ := annX 56 bcone_Join_l0_ins bcone_Join_l0_outX bcone_Join_l0_outs .ret fun d => bcone_Join_l0 F F d.1 d.2.1 d.2.2.1
theorem bcone_Join_l0_ok (F : Nat) {ρ : Type} (B : Base) (w : World) : AnnAt (ρ := ρ) Try.prog false B w (.block 0 (.loop (loopAt (bodyOf Try.f23) 0))) (bcone_Join_l0_ann F) :=
  toldX_ok callable (bcone_Join_all F) (ins := bcone_Join_l0_ins) (outX := bcone_Join_l0_outX) (outs := bcone_Join_l0_outs) (anns := []) (L := fun k d => bcone_Join_l0 F k d.1 d.2.1 d.2.2.1) (annsOk_nil _ _) (fun d => rfl)
    (fun k d => (by kernel_rfl : evCode Try.prog (calT Try.prog (bcone_Join_tab F) _) (qcalT (bcone_Join_tab F) _) (annOf []) (loopAt (bodyOf Try.f23) 0) (bldS 56 bcone_Join_l0_ins d) (kX 56 bcone_Join_l0_ins bcone_Join_l0_outX bcone_Join_l0_outs 0 .ret fun d => bcone_Join_l0 F k d.1 d.2.1 d.2.2.1) = bcone_Join_l0S F (bcone_Join_l0 F k) d.1 d.2.1 d.2.2.1)) (by first | exact .inl rfl | exact .inr ⟨_, rfl, by decide⟩) F B w

def bcone_Join_told (F : Nat) : ToldF := ⟨23, 3, [.slot 0 (.int .i64), .slot 1 (.int .i64), .slot 2 (.is .i64 16)], [.row .u8 1, .ty (.int .i64)], fun d => bcone_Join F d.1 d.2.1 d.2.2.1⟩
theorem bcone_Join_ok (F : Nat) : (bcone_Join_told F).ok Try.prog :=
  toldF_ok callable (bcone_Join_all F) (fn := Try.f23) (t := bcone_Join_told F) (anns := [(0, bcone_Join_l0_ann F)]) (by kernel_rfl) (annsOk_cons (by kernel_rfl) (fun B w => bcone_Join_l0_ok F B w) (annsOk_nil _ _))
    (fun d => (by kernel_rfl : evBody Try.prog (calT Try.prog (bcone_Join_tab F) _) (qcalT (bcone_Join_tab F) _) (annOf [(0, bcone_Join_l0_ann F)]) 23 (bldS 3 (bcone_Join_told F).ins d).tmps (bldS 3 (bcone_Join_told F).ins d).heap (endO (bcone_Join_told F).os) = bcone_Join F d.1 d.2.1 d.2.2.1))

def bits_spread_tab (F : Nat) : List ToldF := []
theorem bits_spread_all (F : Nat) : AllOk Try.prog (bits_spread_tab F) := trivial

abbrev bits_spread_l0_ins : List Go.AE.Item := [.slot 0 (.int .u8), .segs [.hole (.is .u64 8)] (.slot 2) true, .ptr 2 0 8, .segs [.hole (.is .u64 8)] (.slot 3) true, .ptr 3 1 8, .slot 5 (.int .i64)]
abbrev bits_spread_l0_outs : List Go.AE.Item := [.segs [.hole (.is .u64 8)] (.slot 2) true, .ptr 2 0 8, .segs [.hole (.is .u64 8)] (.slot 3) true, .ptr 3 1 8]
def bits_spread_l0_ann (F : Nat) {ρ : Type} : Ann ρ := annS 17 bits_spread_l0_ins bits_spread_l0_outs fun d => bits_spread_l0 F F d.1 d.2.1 d.2.2.1 d.2.2.2.1
theorem bits_spread_l0_ok (F : Nat) {ρ : Type} (B : Base) (w : World) : AnnAt (ρ := ρ) Try.prog false B w (.block 0 (.loop (loopAt (bodyOf Try.f90) 0))) (bits_spread_l0_ann F) :=
  toldS_ok callable (bits_spread_all F) (ins := bits_spread_l0_ins) (outs := bits_spread_l0_outs) (anns := []) (L := fun k d => bits_spread_l0 F k d.1 d.2.1 d.2.2.1 d.2.2.2.1) (annsOk_nil _ _) (fun d => rfl)
    (fun k d => (by kernel_rfl : evCode Try.prog (calT Try.prog (bits_spread_tab F) _) (qcalT (bits_spread_tab F) _) (annOf []) (loopAt (bodyOf Try.f90) 0) (bldS 17 bits_spread_l0_ins d) (kS 17 bits_spread_l0_ins bits_spread_l0_outs 0 fun d => bits_spread_l0 F k d.1 d.2.1 d.2.2.1 d.2.2.2.1) = bits_spread_l0S F (bits_spread_l0 F k) d.1 d.2.1 d.2.2.1 d.2.2.2.1)) F B w

def bits_spread_told (F : Nat) : ToldF := ⟨90, 1, [.slot 0 (.int .u8)], [.ty (.is .u64 8)], fun d => bits_spread F d.1⟩
theorem bits_spread_ok (F : Nat) : (bits_spread_told F).ok Try.prog :=
  toldF_ok callable (bits_spread_all F) (fn := Try.f90) (t := bits_spread_told F) (anns := [(0, bits_spread_l0_ann F)]) (by kernel_rfl) (annsOk_cons (by kernel_rfl) (fun B w => bits_spread_l0_ok F B w) (annsOk_nil _ _))
    (fun d => (by kernel_rfl : evBody Try.prog (calT Try.prog (bits_spread_tab F) _) (qcalT (bits_spread_tab F) _) (annOf [(0, bits_spread_l0_ann F)]) 90 (bldS 1 (bits_spread_told F).ins d).tmps (bldS 1 (bits_spread_told F).ins d).heap (endO (bits_spread_told F).os) = bits_spread F d.1))

def bits_low_tab (F : Nat) : List ToldF := [bits_spread_told F]
theorem bits_low_all (F : Nat) : AllOk Try.prog (bits_low_tab F) := ⟨bits_spread_ok F, trivial⟩

def bits_low_told (F : Nat) : ToldF := ⟨88, 2, [.row .u8 1 (.slot 0) false, .slot 1 (.int .i64)], [.ty (.int .u64)], fun d => bits_low F d.1 d.2.1⟩
theorem bits_low_ok (F : Nat) : (bits_low_told F).ok Try.prog :=
  toldF_ok callable (bits_low_all F) (fn := Try.f88) (t := bits_low_told F) (anns := []) (by kernel_rfl) (annsOk_nil _ _)
    (fun d => (by kernel_rfl : evBody Try.prog (calT Try.prog (bits_low_tab F) _) (qcalT (bits_low_tab F) _) (annOf []) 88 (bldS 2 (bits_low_told F).ins d).tmps (bldS 2 (bits_low_told F).ins d).heap (endO (bits_low_told F).os) = bits_low F d.1 d.2.1))

def bits_Low_tab (F : Nat) : List ToldF := [bits_check_told F, bits_low_told F]
theorem bits_Low_all (F : Nat) : AllOk Try.prog (bits_Low_tab F) := ⟨bits_check_ok F, ⟨bits_low_ok F, trivial⟩⟩

abbrev bits_Low_l0_ins : List Go.AE.Item := [.row .u8 1 (.slot 0) false, .slot 1 (.int .i64), .slot 8 (.int .i64), .slot 9 (.int .u64), .slot 15 (.int .i64), .slot 16 (.int .i64)]
abbrev bits_Low_l0_outs : List Go.AE.Item := [.slot 8 (.int .i64), .slot 9 (.int .u64)]
abbrev bits_Low_l0_outX : List Go.AE.Item := [.const 6 (.int .u64 (some 0) 0), .slot 7 (.int .i64)]
def bits_Low_l0_ann (F : Nat) {ρ : Type} : Ann ρ := annX 34 bits_Low_l0_ins bits_Low_l0_outX bits_Low_l0_outs .ret fun d => bits_Low_l0 F F d.1 d.2.1 d.2.2.1 d.2.2.2.1 d.2.2.2.2.1 d.2.2.2.2.2.1
theorem bits_Low_l0_ok (F : Nat) {ρ : Type} (B : Base) (w : World) : AnnAt (ρ := ρ) Try.prog false B w (.block 0 (.loop (loopAt (bodyOf Try.f78) 0))) (bits_Low_l0_ann F) :=
  toldX_ok callable (bits_Low_all F) (ins := bits_Low_l0_ins) (outX := bits_Low_l0_outX) (outs := bits_Low_l0_outs) (anns := []) (L := fun k d => bits_Low_l0 F k d.1 d.2.1 d.2.2.1 d.2.2.2.1 d.2.2.2.2.1 d.2.2.2.2.2.1) (annsOk_nil _ _) (fun d => rfl)
    (fun k d => (by kernel_rfl : evCode Try.prog (calT Try.prog (bits_Low_tab F) _) (qcalT (bits_Low_tab F) _) (annOf []) (loopAt (bodyOf Try.f78) 0) (bldS 34 bits_Low_l0_ins d) (kX 34 bits_Low_l0_ins bits_Low_l0_outX bits_Low_l0_outs 0 .ret fun d => bits_Low_l0 F k d.1 d.2.1 d.2.2.1 d.2.2.2.1 d.2.2.2.2.1 d.2.2.2.2.2.1) = bits_Low_l0S F (bits_Low_l0 F k) d.1 d.2.1 d.2.2.1 d.2.2.2.1 d.2.2.2.2.1 d.2.2.2.2.2.1)) (by first | exact .inl rfl | exact .inr ⟨_, rfl, by decide⟩) F B w

def bits_Low_told (F : Nat) : ToldF := ⟨78, 3, [.row .u8 1 (.slot 0) false, .slot 1 (.int .i64), .slot 2 (.int .i64)], [.ty (.int .u64), .ty (.int .i64)], fun d => bits_Low F d.1 d.2.1 d.2.2.1⟩
theorem bits_Low_ok (F : Nat) : (bits_Low_told F).ok Try.prog :=
  toldF_ok callable (bits_Low_all F) (fn := Try.f78) (t := bits_Low_told F) (anns := [(0, bits_Low_l0_ann F)]) (by kernel_rfl) (annsOk_cons (by kernel_rfl) (fun B w => bits_Low_l0_ok F B w) (annsOk_nil _ _))
    (fun d => (by kernel_rfl : evBody Try.prog (calT Try.prog (bits_Low_tab F) _) (qcalT (bits_Low_tab F) _) (annOf [(0, bits_Low_l0_ann F)]) 78 (bldS 3 (bits_Low_told F).ins d).tmps (bldS 3 (bits_Low_told F).ins d).heap (endO (bits_Low_told F).os) = bits_Low F d.1 d.2.1 d.2.2.1))

def bits_Lows_tab (F : Nat) : List ToldF := [bits_room_told F, bits_Low_told F]
theorem bits_Lows_all (F : Nat) : AllOk Try.prog (bits_Lows_tab F) := ⟨bits_room_ok F, ⟨bits_Low_ok F, trivial⟩⟩

abbrev bits_Lows_l1_ins : List Go.AE.Item := [.row .u8 1 (.slot 0) false, .slot 1 (.int .i64), .slot 2 (.int .i64), .row .i64 1 (.slot 10) true, .slot 41 (.int .i64), .slot 42 (.int .i64)]
abbrev bits_Lows_l1_outs : List Go.AE.Item := [.row .i64 1 (.slot 10) true]
def bits_Lows_l1_ann (F : Nat) {ρ : Type} : Ann ρ := annS 63 bits_Lows_l1_ins bits_Lows_l1_outs fun d => bits_Lows_l1 F F d.1 d.2.1 d.2.2.1 d.2.2.2.1 d.2.2.2.2.1 d.2.2.2.2.2.1
theorem bits_Lows_l1_ok (F : Nat) {ρ : Type} (B : Base) (w : World) : AnnAt (ρ := ρ) Try.prog false B w (.block 1 (.loop (loopAt (bodyOf Try.f48) 1))) (bits_Lows_l1_ann F) :=
  toldS_ok callable (bits_Lows_all F) (ins := bits_Lows_l1_ins) (outs := bits_Lows_l1_outs) (anns := []) (L := fun k d => bits_Lows_l1 F k d.1 d.2.1 d.2.2.1 d.2.2.2.1 d.2.2.2.2.1 d.2.2.2.2.2.1) (annsOk_nil _ _) (fun d => rfl)
    (fun k d => (by kernel_rfl : evCode Try.prog (calT Try.prog (bits_Lows_tab F) _) (qcalT (bits_Lows_tab F) _) (annOf []) (loopAt (bodyOf Try.f48) 1) (bldS 63 bits_Lows_l1_ins d) (kS 63 bits_Lows_l1_ins bits_Lows_l1_outs 1 fun d => bits_Lows_l1 F k d.1 d.2.1 d.2.2.1 d.2.2.2.1 d.2.2.2.2.1 d.2.2.2.2.2.1) = bits_Lows_l1S F (bits_Lows_l1 F k) d.1 d.2.1 d.2.2.1 d.2.2.2.1 d.2.2.2.2.1 d.2.2.2.2.2.1)) F B w

def bits_Lows_told (F : Nat) : ToldF := ⟨48, 4, [.row .u8 1 (.slot 0) false, .slot 1 (.int .i64), .slot 2 (.int .i64), .slot 3 (.int .i64)], [.row .i64 1, .ty (.int .i64)], fun d => bits_Lows F d.1 d.2.1 d.2.2.1 d.2.2.2.1⟩
theorem bits_Lows_ok (F : Nat) : (bits_Lows_told F).ok Try.prog :=
  toldF_ok callable (bits_Lows_all F) (fn := Try.f48) (t := bits_Lows_told F) (anns := [(1, bits_Lows_l1_ann F)]) (by kernel_rfl) (annsOk_cons (by kernel_rfl) (fun B w => bits_Lows_l1_ok F B w) (annsOk_nil _ _))
    (fun d => (by kernel_rfl : evBody Try.prog (calT Try.prog (bits_Lows_tab F) _) (qcalT (bits_Lows_tab F) _) (annOf [(1, bits_Lows_l1_ann F)]) 48 (bldS 4 (bits_Lows_told F).ins d).tmps (bldS 4 (bits_Lows_told F).ins d).heap (endO (bits_Lows_told F).os) = bits_Lows F d.1 d.2.1 d.2.2.1 d.2.2.2.1))

def bcone_Parts_tab (F : Nat) : List ToldF := [bits_Lows_told F]
theorem bcone_Parts_all (F : Nat) : AllOk Try.prog (bcone_Parts_tab F) := ⟨bits_Lows_ok F, trivial⟩

def bcone_Parts_told (F : Nat) : ToldF := ⟨19, 1, [.row .u8 1 (.slot 0) false], [.ty (.int .i64), .ty (.int .i64), .ty (.is .i64 16), .ty (.int .i64)], fun d => bcone_Parts F d.1⟩
theorem bcone_Parts_ok (F : Nat) : (bcone_Parts_told F).ok Try.prog :=
  toldF_ok callable (bcone_Parts_all F) (fn := Try.f19) (t := bcone_Parts_told F) (anns := []) (by kernel_rfl) (annsOk_nil _ _)
    (fun d => (by kernel_rfl : evBody Try.prog (calT Try.prog (bcone_Parts_tab F) _) (qcalT (bcone_Parts_tab F) _) (annOf []) 19 (bldS 1 (bcone_Parts_told F).ins d).tmps (bldS 1 (bcone_Parts_told F).ins d).heap (endO (bcone_Parts_told F).os) = bcone_Parts F d.1))

def level_odd_tab (F : Nat) : List ToldF := []
theorem level_odd_all (F : Nat) : AllOk Try.prog (level_odd_tab F) := trivial

def level_odd_told (F : Nat) : ToldF := ⟨68, 1, [.slot 0 (.int .i64)], [.ty (.bool)], fun d => level_odd F d.1⟩
theorem level_odd_ok (F : Nat) : (level_odd_told F).ok Try.prog :=
  toldF_ok callable (level_odd_all F) (fn := Try.f68) (t := level_odd_told F) (anns := []) (by kernel_rfl) (annsOk_nil _ _)
    (fun d => (by kernel_rfl : evBody Try.prog (calT Try.prog (level_odd_tab F) _) (qcalT (level_odd_tab F) _) (annOf []) 68 (bldS 1 (level_odd_told F).ins d).tmps (bldS 1 (level_odd_told F).ins d).heap (endO (level_odd_told F).os) = level_odd F d.1))

def level_Wide_tab (F : Nat) : List ToldF := [level_odd_told F]
theorem level_Wide_all (F : Nat) : AllOk Try.prog (level_Wide_tab F) := ⟨level_odd_ok F, trivial⟩

abbrev level_Wide_l0_ins : List Go.AE.Item := [.slot 0 (.int .i64), .slot 1 (.int .i64), .slot 5 (.int .i64), .slot 6 (.int .i64)]
abbrev level_Wide_l0_outs : List Go.AE.Item := [.slot 5 (.int .i64), .slot 6 (.int .i64)]
def level_Wide_l0_ann (F : Nat) {ρ : Type} : Ann ρ := annS 28 level_Wide_l0_ins level_Wide_l0_outs fun d => level_Wide_l0 F F d.1 d.2.1 d.2.2.1 d.2.2.2.1
theorem level_Wide_l0_ok (F : Nat) {ρ : Type} (B : Base) (w : World) : AnnAt (ρ := ρ) Try.prog false B w (.block 0 (.loop (loopAt (bodyOf Try.f42) 0))) (level_Wide_l0_ann F) :=
  toldS_ok callable (level_Wide_all F) (ins := level_Wide_l0_ins) (outs := level_Wide_l0_outs) (anns := []) (L := fun k d => level_Wide_l0 F k d.1 d.2.1 d.2.2.1 d.2.2.2.1) (annsOk_nil _ _) (fun d => rfl)
    (fun k d => (by kernel_rfl : evCode Try.prog (calT Try.prog (level_Wide_tab F) _) (qcalT (level_Wide_tab F) _) (annOf []) (loopAt (bodyOf Try.f42) 0) (bldS 28 level_Wide_l0_ins d) (kS 28 level_Wide_l0_ins level_Wide_l0_outs 0 fun d => level_Wide_l0 F k d.1 d.2.1 d.2.2.1 d.2.2.2.1) = level_Wide_l0S F (level_Wide_l0 F k) d.1 d.2.1 d.2.2.1 d.2.2.2.1)) F B w

def level_Wide_told (F : Nat) : ToldF := ⟨42, 2, [.slot 0 (.int .i64), .slot 1 (.int .i64)], [.ty (.int .i64)], fun d => level_Wide F d.1 d.2.1⟩
theorem level_Wide_ok (F : Nat) : (level_Wide_told F).ok Try.prog :=
  toldF_ok callable (level_Wide_all F) (fn := Try.f42) (t := level_Wide_told F) (anns := [(0, level_Wide_l0_ann F)]) (by kernel_rfl) (annsOk_cons (by kernel_rfl) (fun B w => level_Wide_l0_ok F B w) (annsOk_nil _ _))
    (fun d => (by kernel_rfl : evBody Try.prog (calT Try.prog (level_Wide_tab F) _) (qcalT (level_Wide_tab F) _) (annOf [(0, level_Wide_l0_ann F)]) 42 (bldS 2 (level_Wide_told F).ins d).tmps (bldS 2 (level_Wide_told F).ins d).heap (endO (level_Wide_told F).os) = level_Wide F d.1 d.2.1))

def bcone_Colour_tab (F : Nat) : List ToldF := [level_Wide_told F]
theorem bcone_Colour_all (F : Nat) : AllOk Try.prog (bcone_Colour_tab F) := ⟨level_Wide_ok F, trivial⟩

def bcone_Colour_told (F : Nat) : ToldF := ⟨13, 1, [.slot 0 (.int .i64)], [.ty (.is .i64 4)], fun d => bcone_Colour F d.1⟩
theorem bcone_Colour_ok (F : Nat) : (bcone_Colour_told F).ok Try.prog :=
  toldF_ok callable (bcone_Colour_all F) (fn := Try.f13) (t := bcone_Colour_told F) (anns := []) (by kernel_rfl) (annsOk_nil _ _)
    (fun d => (by kernel_rfl : evBody Try.prog (calT Try.prog (bcone_Colour_tab F) _) (qcalT (bcone_Colour_tab F) _) (annOf []) 13 (bldS 1 (bcone_Colour_told F).ins d).tmps (bldS 1 (bcone_Colour_told F).ins d).heap (endO (bcone_Colour_told F).os) = bcone_Colour F d.1))

def level_Mix_tab (F : Nat) : List ToldF := []
theorem level_Mix_all (F : Nat) : AllOk Try.prog (level_Mix_tab F) := trivial

def level_Mix_told (F : Nat) : ToldF := ⟨75, 5, [.slot 0 (.int .i64), .slot 1 (.int .i64), .slot 2 (.int .i64), .slot 3 (.int .i64), .slot 4 (.int .i64)], [.ty (.int .i64)], fun d => level_Mix F d.1 d.2.1 d.2.2.1 d.2.2.2.1 d.2.2.2.2.1⟩
theorem level_Mix_ok (F : Nat) : (level_Mix_told F).ok Try.prog :=
  toldF_ok callable (level_Mix_all F) (fn := Try.f75) (t := level_Mix_told F) (anns := []) (by kernel_rfl) (annsOk_nil _ _)
    (fun d => (by kernel_rfl : evBody Try.prog (calT Try.prog (level_Mix_tab F) _) (qcalT (level_Mix_tab F) _) (annOf []) 75 (bldS 5 (level_Mix_told F).ins d).tmps (bldS 5 (level_Mix_told F).ins d).heap (endO (level_Mix_told F).os) = level_Mix F d.1 d.2.1 d.2.2.1 d.2.2.2.1 d.2.2.2.2.1))

def bcone_between_tab (F : Nat) : List ToldF := [level_Mix_told F]
theorem bcone_between_all (F : Nat) : AllOk Try.prog (bcone_between_tab F) := ⟨level_Mix_ok F, trivial⟩

abbrev bcone_between_l0_ins : List Go.AE.Item := [.slot 2 (.int .i64), .slot 3 (.int .i64), .segs [.hole (.is .i64 4)] (.slot 4) true, .ptr 4 0 4, .segs [.hole (.is .i64 4)] (.slot 5) true, .ptr 5 1 4, .segs [.hole (.is .i64 4)] (.slot 8) true, .ptr 8 2 4, .segs [.hole (.is .i64 4)] (.slot 9) true, .ptr 9 3 4, .slot 12 (.int .i64)]
abbrev bcone_between_l0_outs : List Go.AE.Item := [.segs [.hole (.is .i64 4)] (.slot 8) true, .ptr 8 0 4, .segs [.hole (.is .i64 4)] (.slot 9) true, .ptr 9 1 4]
def bcone_between_l0_ann (F : Nat) {ρ : Type} : Ann ρ := annS 28 bcone_between_l0_ins bcone_between_l0_outs fun d => bcone_between_l0 F F d.1 d.2.1 d.2.2.1 d.2.2.2.1 d.2.2.2.2.1 d.2.2.2.2.2.1 d.2.2.2.2.2.2.1
theorem bcone_between_l0_ok (F : Nat) {ρ : Type} (B : Base) (w : World) : AnnAt (ρ := ρ) Try.prog false B w (.block 0 (.loop (loopAt (bodyOf Try.f46) 0))) (bcone_between_l0_ann F) :=
  toldS_ok callable (bcone_between_all F) (ins := bcone_between_l0_ins) (outs := bcone_between_l0_outs) (anns := []) (L := fun k d => bcone_between_l0 F k d.1 d.2.1 d.2.2.1 d.2.2.2.1 d.2.2.2.2.1 d.2.2.2.2.2.1 d.2.2.2.2.2.2.1) (annsOk_nil _ _) (fun d => rfl)
    (fun k d => (by kernel_rfl : evCode Try.prog (calT Try.prog (bcone_between_tab F) _) (qcalT (bcone_between_tab F) _) (annOf []) (loopAt (bodyOf Try.f46) 0) (bldS 28 bcone_between_l0_ins d) (kS 28 bcone_between_l0_ins bcone_between_l0_outs 0 fun d => bcone_between_l0 F k d.1 d.2.1 d.2.2.1 d.2.2.2.1 d.2.2.2.2.1 d.2.2.2.2.2.1 d.2.2.2.2.2.2.1) = bcone_between_l0S F (bcone_between_l0 F k) d.1 d.2.1 d.2.2.1 d.2.2.2.1 d.2.2.2.2.1 d.2.2.2.2.2.1 d.2.2.2.2.2.2.1)) F B w

def bcone_between_told (F : Nat) : ToldF := ⟨46, 4, [.slot 0 (.is .i64 4), .slot 1 (.is .i64 4), .slot 2 (.int .i64), .slot 3 (.int .i64)], [.ty (.is .i64 4)], fun d => bcone_between F d.1 d.2.1 d.2.2.1 d.2.2.2.1⟩
theorem bcone_between_ok (F : Nat) : (bcone_between_told F).ok Try.prog :=
  toldF_ok callable (bcone_between_all F) (fn := Try.f46) (t := bcone_between_told F) (anns := [(0, bcone_between_l0_ann F)]) (by kernel_rfl) (annsOk_cons (by kernel_rfl) (fun B w => bcone_between_l0_ok F B w) (annsOk_nil _ _))
    (fun d => (by kernel_rfl : evBody Try.prog (calT Try.prog (bcone_between_tab F) _) (qcalT (bcone_between_tab F) _) (annOf [(0, bcone_between_l0_ann F)]) 46 (bldS 4 (bcone_between_told F).ins d).tmps (bldS 4 (bcone_between_told F).ins d).heap (endO (bcone_between_told F).os) = bcone_between F d.1 d.2.1 d.2.2.1 d.2.2.2.1))

def bcone_Palette_tab (F : Nat) : List ToldF := [bcone_Colour_told F, bcone_between_told F]
theorem bcone_Palette_all (F : Nat) : AllOk Try.prog (bcone_Palette_tab F) := ⟨bcone_Colour_ok F, ⟨bcone_between_ok F, trivial⟩⟩

def bcone_Palette_told (F : Nat) : ToldF := ⟨17, 3, [.slot 0 (.int .i64), .slot 1 (.int .i64), .slot 2 (.bool)], [.ty (.is .i64 16)], fun d => bcone_Palette F d.1 d.2.1 d.2.2.1⟩
theorem bcone_Palette_ok (F : Nat) : (bcone_Palette_told F).ok Try.prog :=
  toldF_ok callable (bcone_Palette_all F) (fn := Try.f17) (t := bcone_Palette_told F) (anns := []) (by kernel_rfl) (annsOk_nil _ _)
    (fun d => (by kernel_rfl : evBody Try.prog (calT Try.prog (bcone_Palette_tab F) _) (qcalT (bcone_Palette_tab F) _) (annOf []) 17 (bldS 3 (bcone_Palette_told F).ins d).tmps (bldS 3 (bcone_Palette_told F).ins d).heap (endO (bcone_Palette_told F).os) = bcone_Palette F d.1 d.2.1 d.2.2.1))

def bcone_Decode_tab (F : Nat) : List ToldF := [bcone_Parts_told F, bcone_Palette_told F]
theorem bcone_Decode_all (F : Nat) : AllOk Try.prog (bcone_Decode_tab F) := ⟨bcone_Parts_ok F, ⟨bcone_Palette_ok F, trivial⟩⟩

abbrev bcone_Decode_l0_ins : List Go.AE.Item := [.segs [.hole (.is .i64 64)] (.slot 4) true, .ptr 4 0 64, .segs [.hole (.is .i64 64)] (.slot 6) true, .ptr 6 1 64, .segs [.hole (.is .i64 16)] (.slot 11) true, .ptr 11 2 16, .slot 29 (.is .i64 16), .slot 30 (.int .i64)]
abbrev bcone_Decode_l0_outs : List Go.AE.Item := [.segs [.hole (.is .i64 64)] (.slot 4) true, .ptr 4 0 64, .segs [.hole (.is .i64 64)] (.slot 6) true, .ptr 6 1 64]
def bcone_Decode_l0_ann (F : Nat) {ρ : Type} : Ann ρ := annS 41 bcone_Decode_l0_ins bcone_Decode_l0_outs fun d => bcone_Decode_l0 F F d.1 d.2.1 d.2.2.1 d.2.2.2.1 d.2.2.2.2.1
theorem bcone_Decode_l0_ok (F : Nat) {ρ : Type} (B : Base) (w : World) : AnnAt (ρ := ρ) Try.prog false B w (.block 0 (.loop (loopAt (bodyOf Try.f21) 0))) (bcone_Decode_l0_ann F) :=
  toldS_ok callable (bcone_Decode_all F) (ins := bcone_Decode_l0_ins) (outs := bcone_Decode_l0_outs) (anns := []) (L := fun k d => bcone_Decode_l0 F k d.1 d.2.1 d.2.2.1 d.2.2.2.1 d.2.2.2.2.1) (annsOk_nil _ _) (fun d => rfl)
    (fun k d => (by kernel_rfl : evCode Try.prog (calT Try.prog (bcone_Decode_tab F) _) (qcalT (bcone_Decode_tab F) _) (annOf []) (loopAt (bodyOf Try.f21) 0) (bldS 41 bcone_Decode_l0_ins d) (kS 41 bcone_Decode_l0_ins bcone_Decode_l0_outs 0 fun d => bcone_Decode_l0 F k d.1 d.2.1 d.2.2.1 d.2.2.2.1 d.2.2.2.2.1) = bcone_Decode_l0S F (bcone_Decode_l0 F k) d.1 d.2.1 d.2.2.1 d.2.2.2.1 d.2.2.2.2.1)) F B w

def bcone_Decode_told (F : Nat) : ToldF := ⟨21, 2, [.row .u8 1 (.slot 0) false, .slot 1 (.bool)], [.ty (.is .i64 64), .ty (.int .i64)], fun d => bcone_Decode F d.1 d.2.1⟩
theorem bcone_Decode_ok (F : Nat) : (bcone_Decode_told F).ok Try.prog :=
  toldF_ok callable (bcone_Decode_all F) (fn := Try.f21) (t := bcone_Decode_told F) (anns := [(0, bcone_Decode_l0_ann F)]) (by kernel_rfl) (annsOk_cons (by kernel_rfl) (fun B w => bcone_Decode_l0_ok F B w) (annsOk_nil _ _))
    (fun d => (by kernel_rfl : evBody Try.prog (calT Try.prog (bcone_Decode_tab F) _) (qcalT (bcone_Decode_tab F) _) (annOf [(0, bcone_Decode_l0_ann F)]) 21 (bldS 2 (bcone_Decode_told F).ins d).tmps (bldS 2 (bcone_Decode_told F).ins d).heap (endO (bcone_Decode_told F).os) = bcone_Decode F d.1 d.2.1))

def level_square_tab (F : Nat) : List ToldF := []
theorem level_square_all (F : Nat) : AllOk Try.prog (level_square_tab F) := trivial

def level_square_told (F : Nat) : ToldF := ⟨73, 1, [.slot 0 (.int .i64)], [.ty (.int .i64)], fun d => level_square F d.1⟩
theorem level_square_ok (F : Nat) : (level_square_told F).ok Try.prog :=
  toldF_ok callable (level_square_all F) (fn := Try.f73) (t := level_square_told F) (anns := []) (by kernel_rfl) (annsOk_nil _ _)
    (fun d => (by kernel_rfl : evBody Try.prog (calT Try.prog (level_square_tab F) _) (qcalT (level_square_tab F) _) (annOf []) 73 (bldS 1 (level_square_told F).ins d).tmps (bldS 1 (level_square_told F).ins d).heap (endO (level_square_told F).os) = level_square F d.1))

def level_Near_c1_tab (F : Nat) : List ToldF := [level_Wide_told F, level_square_told F]
theorem level_Near_c1_all (F : Nat) : AllOk Try.prog (level_Near_c1_tab F) := ⟨level_Wide_ok F, ⟨level_square_ok F, trivial⟩⟩

def level_Near_c1_told (F : Nat) : ToldF := ⟨72, 3, [.slot 0 (.int .i64), .segs [.hole (.int .i64)] (.slot 1) false, .ptr 1 0 1, .segs [.hole (.int .i64)] (.slot 2) false, .ptr 2 1 1], [.ty (.int .i64)], fun d => level_Near_c1 F d.1 d.2.1 d.2.2.1⟩
theorem level_Near_c1_ok (F : Nat) : (level_Near_c1_told F).ok Try.prog :=
  toldF_ok callable (level_Near_c1_all F) (fn := Try.f72) (t := level_Near_c1_told F) (anns := []) (by kernel_rfl) (annsOk_nil _ _)
    (fun d => (by kernel_rfl : evBody Try.prog (calT Try.prog (level_Near_c1_tab F) _) (qcalT (level_Near_c1_tab F) _) (annOf []) 72 (bldS 3 (level_Near_c1_told F).ins d).tmps (bldS 3 (level_Near_c1_told F).ins d).heap (endO (level_Near_c1_told F).os) = level_Near_c1 F d.1 d.2.1 d.2.2.1))

def level_least_Near_c1_tab (F : Nat) : List ToldF := [level_Near_c1_told F]
theorem level_least_Near_c1_all (F : Nat) : AllOk Try.prog (level_least_Near_c1_tab F) := ⟨level_Near_c1_ok F, trivial⟩

abbrev level_least_Near_c1_l0_ins : List Go.AE.Item := [.segs [.hole (.int .i64)] (.cap (.slot 1) 0) false, .segs [.hole (.int .i64)] (.cap (.slot 1) 1) false, .fn 1 72 [.ptr 0 1, .ptr 1 1], .slot 5 (.int .i64), .slot 6 (.int .i64), .slot 9 (.int .i64), .slot 10 (.int .i64)]
abbrev level_least_Near_c1_l0_outs : List Go.AE.Item := [.slot 5 (.int .i64)]
def level_least_Near_c1_l0_ann (F : Nat) {ρ : Type} : Ann ρ := annS 27 level_least_Near_c1_l0_ins level_least_Near_c1_l0_outs fun d => level_least_Near_c1_l0 F F d.1 d.2.1 d.2.2.1 d.2.2.2.1 d.2.2.2.2.1 d.2.2.2.2.2.1
theorem level_least_Near_c1_l0_ok (F : Nat) {ρ : Type} (B : Base) (w : World) : AnnAt (ρ := ρ) Try.prog false B w (.block 0 (.loop (loopAt (bodyOf Try.f71) 0))) (level_least_Near_c1_l0_ann F) :=
  toldS_ok callable (level_least_Near_c1_all F) (ins := level_least_Near_c1_l0_ins) (outs := level_least_Near_c1_l0_outs) (anns := []) (L := fun k d => level_least_Near_c1_l0 F k d.1 d.2.1 d.2.2.1 d.2.2.2.1 d.2.2.2.2.1 d.2.2.2.2.2.1) (annsOk_nil _ _) (fun d => rfl)
    (fun k d => (by kernel_rfl : evCode Try.prog (calT Try.prog (level_least_Near_c1_tab F) _) (qcalT (level_least_Near_c1_tab F) _) (annOf []) (loopAt (bodyOf Try.f71) 0) (bldS 27 level_least_Near_c1_l0_ins d) (kS 27 level_least_Near_c1_l0_ins level_least_Near_c1_l0_outs 0 fun d => level_least_Near_c1_l0 F k d.1 d.2.1 d.2.2.1 d.2.2.2.1 d.2.2.2.2.1 d.2.2.2.2.2.1) = level_least_Near_c1_l0S F (level_least_Near_c1_l0 F k) d.1 d.2.1 d.2.2.1 d.2.2.2.1 d.2.2.2.2.1 d.2.2.2.2.2.1)) F B w

def level_least_Near_c1_told (F : Nat) : ToldF := ⟨71, 2, [.slot 0 (.int .i64), .segs [.hole (.int .i64)] (.cap (.slot 1) 0) false, .segs [.hole (.int .i64)] (.cap (.slot 1) 1) false, .fn 1 72 [.ptr 0 1, .ptr 1 1]], [.ty (.int .i64)], fun d => level_least_Near_c1 F d.1 d.2.1 d.2.2.1⟩
theorem level_least_Near_c1_ok (F : Nat) : (level_least_Near_c1_told F).ok Try.prog :=
  toldF_ok callable (level_least_Near_c1_all F) (fn := Try.f71) (t := level_least_Near_c1_told F) (anns := [(0, level_least_Near_c1_l0_ann F)]) (by kernel_rfl) (annsOk_cons (by kernel_rfl) (fun B w => level_least_Near_c1_l0_ok F B w) (annsOk_nil _ _))
    (fun d => (by kernel_rfl : evBody Try.prog (calT Try.prog (level_least_Near_c1_tab F) _) (qcalT (level_least_Near_c1_tab F) _) (annOf [(0, level_least_Near_c1_l0_ann F)]) 71 (bldS 2 (level_least_Near_c1_told F).ins d).tmps (bldS 2 (level_least_Near_c1_told F).ins d).heap (endO (level_least_Near_c1_told F).os) = level_least_Near_c1 F d.1 d.2.1 d.2.2.1))

def level_Near_tab (F : Nat) : List ToldF := [level_odd_told F, level_least_Near_c1_told F]
theorem level_Near_all (F : Nat) : AllOk Try.prog (level_Near_tab F) := ⟨level_odd_ok F, ⟨level_least_Near_c1_ok F, trivial⟩⟩

def level_Near_told (F : Nat) : ToldF := ⟨44, 2, [.slot 0 (.int .i64), .slot 1 (.int .i64)], [.ty (.int .i64)], fun d => level_Near F d.1 d.2.1⟩
theorem level_Near_ok (F : Nat) : (level_Near_told F).ok Try.prog :=
  toldF_ok callable (level_Near_all F) (fn := Try.f44) (t := level_Near_told F) (anns := []) (by kernel_rfl) (annsOk_nil _ _)
    (fun d => (by kernel_rfl : evBody Try.prog (calT Try.prog (level_Near_tab F) _) (qcalT (level_Near_tab F) _) (annOf []) 44 (bldS 2 (level_Near_told F).ins d).tmps (bldS 2 (level_Near_told F).ins d).heap (endO (level_Near_told F).os) = level_Near F d.1 d.2.1))

def bcone_Pack_tab (F : Nat) : List ToldF := [level_Near_told F]
theorem bcone_Pack_all (F : Nat) : AllOk Try.prog (bcone_Pack_tab F) := ⟨level_Near_ok F, trivial⟩

def bcone_Pack_told (F : Nat) : ToldF := ⟨15, 1, [.slot 0 (.is .i64 4)], [.ty (.int .i64)], fun d => bcone_Pack F d.1⟩
theorem bcone_Pack_ok (F : Nat) : (bcone_Pack_told F).ok Try.prog :=
  toldF_ok callable (bcone_Pack_all F) (fn := Try.f15) (t := bcone_Pack_told F) (anns := []) (by kernel_rfl) (annsOk_nil _ _)
    (fun d => (by kernel_rfl : evBody Try.prog (calT Try.prog (bcone_Pack_tab F) _) (qcalT (bcone_Pack_tab F) _) (annOf []) 15 (bldS 1 (bcone_Pack_told F).ins d).tmps (bldS 1 (bcone_Pack_told F).ins d).heap (endO (bcone_Pack_told F).os) = bcone_Pack F d.1))

def law06_awake_tab (F : Nat) : List ToldF := [bcone_Join_told F, bcone_Decode_told F, bcone_Pack_told F]
theorem law06_awake_all (F : Nat) : AllOk Try.prog (law06_awake_tab F) := ⟨bcone_Join_ok F, ⟨bcone_Decode_ok F, ⟨bcone_Pack_ok F, trivial⟩⟩⟩

def law06_awake_told (F : Nat) : ToldF := ⟨11, 0, [], [.ty (.bool)], fun d => law06_awake F⟩
theorem law06_awake_ok (F : Nat) : (law06_awake_told F).ok Try.prog :=
  toldF_ok callable (law06_awake_all F) (fn := Try.f11) (t := law06_awake_told F) (anns := []) (by kernel_rfl) (annsOk_nil _ _)
    (fun d => (by kernel_rfl : evBody Try.prog (calT Try.prog (law06_awake_tab F) _) (qcalT (law06_awake_tab F) _) (annOf []) 11 (bldS 0 (law06_awake_told F).ins d).tmps (bldS 0 (law06_awake_told F).ins d).heap (endO (law06_awake_told F).os) = law06_awake F))

def ref03_Small_tab (F : Nat) : List ToldF := []
theorem ref03_Small_all (F : Nat) : AllOk Try.prog (ref03_Small_tab F) := trivial

def ref03_Small_told (F : Nat) : ToldF := ⟨12, 1, [.slot 0 (.int .i64)], [.ty (.bool)], fun d => ref03_Small F d.1⟩
theorem ref03_Small_ok (F : Nat) : (ref03_Small_told F).ok Try.prog :=
  toldF_ok callable (ref03_Small_all F) (fn := Try.f12) (t := ref03_Small_told F) (anns := []) (by kernel_rfl) (annsOk_nil _ _)
    (fun d => (by kernel_rfl : evBody Try.prog (calT Try.prog (ref03_Small_tab F) _) (qcalT (ref03_Small_tab F) _) (annOf []) 12 (bldS 1 (ref03_Small_told F).ins d).tmps (bldS 1 (ref03_Small_told F).ins d).heap (endO (ref03_Small_told F).os) = ref03_Small F d.1))

def ref03_power_tab (F : Nat) : List ToldF := []
theorem ref03_power_all (F : Nat) : AllOk Try.prog (ref03_power_tab F) := trivial

abbrev ref03_power_l0_ins : List Go.AE.Item := [.slot 0 (.int .i64), .slot 3 (.int .i64), .slot 4 (.int .i64)]
abbrev ref03_power_l0_outs : List Go.AE.Item := [.slot 3 (.int .i64)]
def ref03_power_l0_ann (F : Nat) {ρ : Type} : Ann ρ := annS 13 ref03_power_l0_ins ref03_power_l0_outs fun d => ref03_power_l0 F F d.1 d.2.1 d.2.2.1
theorem ref03_power_l0_ok (F : Nat) {ρ : Type} (B : Base) (w : World) : AnnAt (ρ := ρ) Try.prog false B w (.block 0 (.loop (loopAt (bodyOf Try.f70) 0))) (ref03_power_l0_ann F) :=
  toldS_ok callable (ref03_power_all F) (ins := ref03_power_l0_ins) (outs := ref03_power_l0_outs) (anns := []) (L := fun k d => ref03_power_l0 F k d.1 d.2.1 d.2.2.1) (annsOk_nil _ _) (fun d => rfl)
    (fun k d => (by kernel_rfl : evCode Try.prog (calT Try.prog (ref03_power_tab F) _) (qcalT (ref03_power_tab F) _) (annOf []) (loopAt (bodyOf Try.f70) 0) (bldS 13 ref03_power_l0_ins d) (kS 13 ref03_power_l0_ins ref03_power_l0_outs 0 fun d => ref03_power_l0 F k d.1 d.2.1 d.2.2.1) = ref03_power_l0S F (ref03_power_l0 F k) d.1 d.2.1 d.2.2.1)) F B w

def ref03_power_told (F : Nat) : ToldF := ⟨70, 1, [.slot 0 (.int .i64)], [.ty (.int .i64)], fun d => ref03_power F d.1⟩
theorem ref03_power_ok (F : Nat) : (ref03_power_told F).ok Try.prog :=
  toldF_ok callable (ref03_power_all F) (fn := Try.f70) (t := ref03_power_told F) (anns := [(0, ref03_power_l0_ann F)]) (by kernel_rfl) (annsOk_cons (by kernel_rfl) (fun B w => ref03_power_l0_ok F B w) (annsOk_nil _ _))
    (fun d => (by kernel_rfl : evBody Try.prog (calT Try.prog (ref03_power_tab F) _) (qcalT (ref03_power_tab F) _) (annOf [(0, ref03_power_l0_ann F)]) 70 (bldS 1 (ref03_power_told F).ins d).tmps (bldS 1 (ref03_power_told F).ins d).heap (endO (ref03_power_told F).os) = ref03_power F d.1))

def ref03_mod_tab (F : Nat) : List ToldF := []
theorem ref03_mod_all (F : Nat) : AllOk Try.prog (ref03_mod_tab F) := trivial

def ref03_mod_told (F : Nat) : ToldF := ⟨69, 2, [.slot 0 (.int .i64), .slot 1 (.int .i64)], [.ty (.int .i64)], fun d => ref03_mod F d.1 d.2.1⟩
theorem ref03_mod_ok (F : Nat) : (ref03_mod_told F).ok Try.prog :=
  toldF_ok callable (ref03_mod_all F) (fn := Try.f69) (t := ref03_mod_told F) (anns := []) (by kernel_rfl) (annsOk_nil _ _)
    (fun d => (by kernel_rfl : evBody Try.prog (calT Try.prog (ref03_mod_tab F) _) (qcalT (ref03_mod_tab F) _) (annOf []) 69 (bldS 2 (ref03_mod_told F).ins d).tmps (bldS 2 (ref03_mod_told F).ins d).heap (endO (ref03_mod_told F).os) = ref03_mod F d.1 d.2.1))

def ref03_Wide_tab (F : Nat) : List ToldF := [ref03_power_told F, ref03_mod_told F]
theorem ref03_Wide_all (F : Nat) : AllOk Try.prog (ref03_Wide_tab F) := ⟨ref03_power_ok F, ⟨ref03_mod_ok F, trivial⟩⟩

abbrev ref03_Wide_l0_ins : List Go.AE.Item := [.slot 0 (.int .i64), .slot 1 (.int .i64), .slot 5 (.int .i64), .slot 6 (.int .i64)]
abbrev ref03_Wide_l0_outs : List Go.AE.Item := [.slot 5 (.int .i64)]
def ref03_Wide_l0_ann (F : Nat) {ρ : Type} : Ann ρ := annS 35 ref03_Wide_l0_ins ref03_Wide_l0_outs fun d => ref03_Wide_l0 F F d.1 d.2.1 d.2.2.1 d.2.2.2.1
theorem ref03_Wide_l0_ok (F : Nat) {ρ : Type} (B : Base) (w : World) : AnnAt (ρ := ρ) Try.prog false B w (.block 0 (.loop (loopAt (bodyOf Try.f43) 0))) (ref03_Wide_l0_ann F) :=
  toldS_ok callable (ref03_Wide_all F) (ins := ref03_Wide_l0_ins) (outs := ref03_Wide_l0_outs) (anns := []) (L := fun k d => ref03_Wide_l0 F k d.1 d.2.1 d.2.2.1 d.2.2.2.1) (annsOk_nil _ _) (fun d => rfl)
    (fun k d => (by kernel_rfl : evCode Try.prog (calT Try.prog (ref03_Wide_tab F) _) (qcalT (ref03_Wide_tab F) _) (annOf []) (loopAt (bodyOf Try.f43) 0) (bldS 35 ref03_Wide_l0_ins d) (kS 35 ref03_Wide_l0_ins ref03_Wide_l0_outs 0 fun d => ref03_Wide_l0 F k d.1 d.2.1 d.2.2.1 d.2.2.2.1) = ref03_Wide_l0S F (ref03_Wide_l0 F k) d.1 d.2.1 d.2.2.1 d.2.2.2.1)) F B w

def ref03_Wide_told (F : Nat) : ToldF := ⟨43, 2, [.slot 0 (.int .i64), .slot 1 (.int .i64)], [.ty (.int .i64)], fun d => ref03_Wide F d.1 d.2.1⟩
theorem ref03_Wide_ok (F : Nat) : (ref03_Wide_told F).ok Try.prog :=
  toldF_ok callable (ref03_Wide_all F) (fn := Try.f43) (t := ref03_Wide_told F) (anns := [(0, ref03_Wide_l0_ann F)]) (by kernel_rfl) (annsOk_cons (by kernel_rfl) (fun B w => ref03_Wide_l0_ok F B w) (annsOk_nil _ _))
    (fun d => (by kernel_rfl : evBody Try.prog (calT Try.prog (ref03_Wide_tab F) _) (qcalT (ref03_Wide_tab F) _) (annOf [(0, ref03_Wide_l0_ann F)]) 43 (bldS 2 (ref03_Wide_told F).ins d).tmps (bldS 2 (ref03_Wide_told F).ins d).heap (endO (ref03_Wide_told F).os) = ref03_Wide F d.1 d.2.1))

def ref06_Colour_tab (F : Nat) : List ToldF := [ref03_Wide_told F]
theorem ref06_Colour_all (F : Nat) : AllOk Try.prog (ref06_Colour_tab F) := ⟨ref03_Wide_ok F, trivial⟩

def ref06_Colour_told (F : Nat) : ToldF := ⟨14, 1, [.slot 0 (.int .i64)], [.ty (.is .i64 4)], fun d => ref06_Colour F d.1⟩
theorem ref06_Colour_ok (F : Nat) : (ref06_Colour_told F).ok Try.prog :=
  toldF_ok callable (ref06_Colour_all F) (fn := Try.f14) (t := ref06_Colour_told F) (anns := []) (by kernel_rfl) (annsOk_nil _ _)
    (fun d => (by kernel_rfl : evBody Try.prog (calT Try.prog (ref06_Colour_tab F) _) (qcalT (ref06_Colour_tab F) _) (annOf []) 14 (bldS 1 (ref06_Colour_told F).ins d).tmps (bldS 1 (ref06_Colour_told F).ins d).heap (endO (ref06_Colour_told F).os) = ref06_Colour F d.1))

def ref03_far_tab (F : Nat) : List ToldF := []
theorem ref03_far_all (F : Nat) : AllOk Try.prog (ref03_far_tab F) := trivial

def ref03_far_told (F : Nat) : ToldF := ⟨74, 1, [.slot 0 (.int .i64)], [.ty (.int .i64)], fun d => ref03_far F d.1⟩
theorem ref03_far_ok (F : Nat) : (ref03_far_told F).ok Try.prog :=
  toldF_ok callable (ref03_far_all F) (fn := Try.f74) (t := ref03_far_told F) (anns := []) (by kernel_rfl) (annsOk_nil _ _)
    (fun d => (by kernel_rfl : evBody Try.prog (calT Try.prog (ref03_far_tab F) _) (qcalT (ref03_far_tab F) _) (annOf []) 74 (bldS 1 (ref03_far_told F).ins d).tmps (bldS 1 (ref03_far_told F).ins d).heap (endO (ref03_far_told F).os) = ref03_far F d.1))

def ref03_Near_tab (F : Nat) : List ToldF := [ref03_power_told F, ref03_Wide_told F, ref03_far_told F]
theorem ref03_Near_all (F : Nat) : AllOk Try.prog (ref03_Near_tab F) := ⟨ref03_power_ok F, ⟨ref03_Wide_ok F, ⟨ref03_far_ok F, trivial⟩⟩⟩

abbrev ref03_Near_l0_ins : List Go.AE.Item := [.slot 0 (.int .i64), .slot 1 (.int .i64), .slot 5 (.int .i64), .slot 6 (.int .i64)]
abbrev ref03_Near_l0_outs : List Go.AE.Item := [.slot 5 (.int .i64)]
def ref03_Near_l0_ann (F : Nat) {ρ : Type} : Ann ρ := annS 34 ref03_Near_l0_ins ref03_Near_l0_outs fun d => ref03_Near_l0 F F d.1 d.2.1 d.2.2.1 d.2.2.2.1
theorem ref03_Near_l0_ok (F : Nat) {ρ : Type} (B : Base) (w : World) : AnnAt (ρ := ρ) Try.prog false B w (.block 0 (.loop (loopAt (bodyOf Try.f45) 0))) (ref03_Near_l0_ann F) :=
  toldS_ok callable (ref03_Near_all F) (ins := ref03_Near_l0_ins) (outs := ref03_Near_l0_outs) (anns := []) (L := fun k d => ref03_Near_l0 F k d.1 d.2.1 d.2.2.1 d.2.2.2.1) (annsOk_nil _ _) (fun d => rfl)
    (fun k d => (by kernel_rfl : evCode Try.prog (calT Try.prog (ref03_Near_tab F) _) (qcalT (ref03_Near_tab F) _) (annOf []) (loopAt (bodyOf Try.f45) 0) (bldS 34 ref03_Near_l0_ins d) (kS 34 ref03_Near_l0_ins ref03_Near_l0_outs 0 fun d => ref03_Near_l0 F k d.1 d.2.1 d.2.2.1 d.2.2.2.1) = ref03_Near_l0S F (ref03_Near_l0 F k) d.1 d.2.1 d.2.2.1 d.2.2.2.1)) F B w

def ref03_Near_told (F : Nat) : ToldF := ⟨45, 2, [.slot 0 (.int .i64), .slot 1 (.int .i64)], [.ty (.int .i64)], fun d => ref03_Near F d.1 d.2.1⟩
theorem ref03_Near_ok (F : Nat) : (ref03_Near_told F).ok Try.prog :=
  toldF_ok callable (ref03_Near_all F) (fn := Try.f45) (t := ref03_Near_told F) (anns := [(0, ref03_Near_l0_ann F)]) (by kernel_rfl) (annsOk_cons (by kernel_rfl) (fun B w => ref03_Near_l0_ok F B w) (annsOk_nil _ _))
    (fun d => (by kernel_rfl : evBody Try.prog (calT Try.prog (ref03_Near_tab F) _) (qcalT (ref03_Near_tab F) _) (annOf [(0, ref03_Near_l0_ann F)]) 45 (bldS 2 (ref03_Near_told F).ins d).tmps (bldS 2 (ref03_Near_told F).ins d).heap (endO (ref03_Near_told F).os) = ref03_Near F d.1 d.2.1))

def ref06_Pack_tab (F : Nat) : List ToldF := [ref03_Near_told F]
theorem ref06_Pack_all (F : Nat) : AllOk Try.prog (ref06_Pack_tab F) := ⟨ref03_Near_ok F, trivial⟩

def ref06_Pack_told (F : Nat) : ToldF := ⟨16, 1, [.slot 0 (.is .i64 4)], [.ty (.int .i64)], fun d => ref06_Pack F d.1⟩
theorem ref06_Pack_ok (F : Nat) : (ref06_Pack_told F).ok Try.prog :=
  toldF_ok callable (ref06_Pack_all F) (fn := Try.f16) (t := ref06_Pack_told F) (anns := []) (by kernel_rfl) (annsOk_nil _ _)
    (fun d => (by kernel_rfl : evBody Try.prog (calT Try.prog (ref06_Pack_tab F) _) (qcalT (ref06_Pack_tab F) _) (annOf []) 16 (bldS 1 (ref06_Pack_told F).ins d).tmps (bldS 1 (ref06_Pack_told F).ins d).heap (endO (ref06_Pack_told F).os) = ref06_Pack F d.1))

def ref03_Mix_tab (F : Nat) : List ToldF := [ref03_mod_told F]
theorem ref03_Mix_all (F : Nat) : AllOk Try.prog (ref03_Mix_tab F) := ⟨ref03_mod_ok F, trivial⟩

def ref03_Mix_told (F : Nat) : ToldF := ⟨76, 5, [.slot 0 (.int .i64), .slot 1 (.int .i64), .slot 2 (.int .i64), .slot 3 (.int .i64), .slot 4 (.int .i64)], [.ty (.int .i64)], fun d => ref03_Mix F d.1 d.2.1 d.2.2.1 d.2.2.2.1 d.2.2.2.2.1⟩
theorem ref03_Mix_ok (F : Nat) : (ref03_Mix_told F).ok Try.prog :=
  toldF_ok callable (ref03_Mix_all F) (fn := Try.f76) (t := ref03_Mix_told F) (anns := []) (by kernel_rfl) (annsOk_nil _ _)
    (fun d => (by kernel_rfl : evBody Try.prog (calT Try.prog (ref03_Mix_tab F) _) (qcalT (ref03_Mix_tab F) _) (annOf []) 76 (bldS 5 (ref03_Mix_told F).ins d).tmps (bldS 5 (ref03_Mix_told F).ins d).heap (endO (ref03_Mix_told F).os) = ref03_Mix F d.1 d.2.1 d.2.2.1 d.2.2.2.1 d.2.2.2.2.1))

def ref06_mix_tab (F : Nat) : List ToldF := [ref03_Mix_told F]
theorem ref06_mix_all (F : Nat) : AllOk Try.prog (ref06_mix_tab F) := ⟨ref03_Mix_ok F, trivial⟩

abbrev ref06_mix_l0_ins : List Go.AE.Item := [.slot 2 (.int .i64), .slot 3 (.int .i64), .segs [.hole (.is .i64 4)] (.slot 4) true, .ptr 4 0 4, .segs [.hole (.is .i64 4)] (.slot 5) true, .ptr 5 1 4, .segs [.hole (.is .i64 4)] (.slot 8) true, .ptr 8 2 4, .segs [.hole (.is .i64 4)] (.slot 9) true, .ptr 9 3 4, .slot 10 (.int .i64)]
abbrev ref06_mix_l0_outs : List Go.AE.Item := [.segs [.hole (.is .i64 4)] (.slot 8) true, .ptr 8 0 4, .segs [.hole (.is .i64 4)] (.slot 9) true, .ptr 9 1 4]
def ref06_mix_l0_ann (F : Nat) {ρ : Type} : Ann ρ := annS 28 ref06_mix_l0_ins ref06_mix_l0_outs fun d => ref06_mix_l0 F F d.1 d.2.1 d.2.2.1 d.2.2.2.1 d.2.2.2.2.1 d.2.2.2.2.2.1 d.2.2.2.2.2.2.1
theorem ref06_mix_l0_ok (F : Nat) {ρ : Type} (B : Base) (w : World) : AnnAt (ρ := ρ) Try.prog false B w (.block 0 (.loop (loopAt (bodyOf Try.f47) 0))) (ref06_mix_l0_ann F) :=
  toldS_ok callable (ref06_mix_all F) (ins := ref06_mix_l0_ins) (outs := ref06_mix_l0_outs) (anns := []) (L := fun k d => ref06_mix_l0 F k d.1 d.2.1 d.2.2.1 d.2.2.2.1 d.2.2.2.2.1 d.2.2.2.2.2.1 d.2.2.2.2.2.2.1) (annsOk_nil _ _) (fun d => rfl)
    (fun k d => (by kernel_rfl : evCode Try.prog (calT Try.prog (ref06_mix_tab F) _) (qcalT (ref06_mix_tab F) _) (annOf []) (loopAt (bodyOf Try.f47) 0) (bldS 28 ref06_mix_l0_ins d) (kS 28 ref06_mix_l0_ins ref06_mix_l0_outs 0 fun d => ref06_mix_l0 F k d.1 d.2.1 d.2.2.1 d.2.2.2.1 d.2.2.2.2.1 d.2.2.2.2.2.1 d.2.2.2.2.2.2.1) = ref06_mix_l0S F (ref06_mix_l0 F k) d.1 d.2.1 d.2.2.1 d.2.2.2.1 d.2.2.2.2.1 d.2.2.2.2.2.1 d.2.2.2.2.2.2.1)) F B w

def ref06_mix_told (F : Nat) : ToldF := ⟨47, 4, [.slot 0 (.is .i64 4), .slot 1 (.is .i64 4), .slot 2 (.int .i64), .slot 3 (.int .i64)], [.ty (.is .i64 4)], fun d => ref06_mix F d.1 d.2.1 d.2.2.1 d.2.2.2.1⟩
theorem ref06_mix_ok (F : Nat) : (ref06_mix_told F).ok Try.prog :=
  toldF_ok callable (ref06_mix_all F) (fn := Try.f47) (t := ref06_mix_told F) (anns := [(0, ref06_mix_l0_ann F)]) (by kernel_rfl) (annsOk_cons (by kernel_rfl) (fun B w => ref06_mix_l0_ok F B w) (annsOk_nil _ _))
    (fun d => (by kernel_rfl : evBody Try.prog (calT Try.prog (ref06_mix_tab F) _) (qcalT (ref06_mix_tab F) _) (annOf [(0, ref06_mix_l0_ann F)]) 47 (bldS 4 (ref06_mix_told F).ins d).tmps (bldS 4 (ref06_mix_told F).ins d).heap (endO (ref06_mix_told F).os) = ref06_mix F d.1 d.2.1 d.2.2.1 d.2.2.2.1))

def ref06_Palette_tab (F : Nat) : List ToldF := [ref06_Colour_told F, ref06_mix_told F]
theorem ref06_Palette_all (F : Nat) : AllOk Try.prog (ref06_Palette_tab F) := ⟨ref06_Colour_ok F, ⟨ref06_mix_ok F, trivial⟩⟩

def ref06_Palette_told (F : Nat) : ToldF := ⟨18, 3, [.slot 0 (.int .i64), .slot 1 (.int .i64), .slot 2 (.bool)], [.ty (.is .i64 16)], fun d => ref06_Palette F d.1 d.2.1 d.2.2.1⟩
theorem ref06_Palette_ok (F : Nat) : (ref06_Palette_told F).ok Try.prog :=
  toldF_ok callable (ref06_Palette_all F) (fn := Try.f18) (t := ref06_Palette_told F) (anns := []) (by kernel_rfl) (annsOk_nil _ _)
    (fun d => (by kernel_rfl : evBody Try.prog (calT Try.prog (ref06_Palette_tab F) _) (qcalT (ref06_Palette_tab F) _) (annOf []) 18 (bldS 3 (ref06_Palette_told F).ins d).tmps (bldS 3 (ref06_Palette_told F).ins d).heap (endO (ref06_Palette_told F).os) = ref06_Palette F d.1 d.2.1 d.2.2.1))

def law06_BconeColours_tab (F : Nat) : List ToldF := [bcone_Colour_told F, bcone_Palette_told F, bcone_Pack_told F, law06_awake_told F, ref03_Small_told F, ref06_Colour_told F, ref06_Pack_told F, ref06_Palette_told F]
theorem law06_BconeColours_all (F : Nat) : AllOk Try.prog (law06_BconeColours_tab F) := ⟨bcone_Colour_ok F, ⟨bcone_Palette_ok F, ⟨bcone_Pack_ok F, ⟨law06_awake_ok F, ⟨ref03_Small_ok F, ⟨ref06_Colour_ok F, ⟨ref06_Pack_ok F, ⟨ref06_Palette_ok F, trivial⟩⟩⟩⟩⟩⟩⟩⟩

abbrev law06_BconeColours_l0_ins : List Go.AE.Item := [.slot 1 (.bool), .segs [.hole (.is .i64 2)] (.slot 3) true, .ptr 3 0 2, .segs [.hole (.is .i64 4)] (.slot 5) true, .ptr 5 1 4, .slot 7 (.bool), .slot 8 (.int .i64)]
abbrev law06_BconeColours_l0_outs : List Go.AE.Item := [.slot 1 (.bool), .segs [.hole (.is .i64 2)] (.slot 3) true, .ptr 3 0 2, .segs [.hole (.is .i64 4)] (.slot 5) true, .ptr 5 1 4, .slot 7 (.bool)]
abbrev law06_BconeColours_l0_outX : List Go.AE.Item := [.slot 6 (.bool)]
def law06_BconeColours_l0_ann (F : Nat) {ρ : Type} : Ann ρ := annX 69 law06_BconeColours_l0_ins law06_BconeColours_l0_outX law06_BconeColours_l0_outs .ret fun d => law06_BconeColours_l0 F F d.1 d.2.1 d.2.2.1 d.2.2.2.1 d.2.2.2.2.1
theorem law06_BconeColours_l0_ok (F : Nat) {ρ : Type} (B : Base) (w : World) : AnnAt (ρ := ρ) Try.prog false B w (.block 0 (.loop (loopAt (bodyOf Try.f3) 0))) (law06_BconeColours_l0_ann F) :=
  toldX_ok callable (law06_BconeColours_all F) (ins := law06_BconeColours_l0_ins) (outX := law06_BconeColours_l0_outX) (outs := law06_BconeColours_l0_outs) (anns := []) (L := fun k d => law06_BconeColours_l0 F k d.1 d.2.1 d.2.2.1 d.2.2.2.1 d.2.2.2.2.1) (annsOk_nil _ _) (fun d => rfl)
    (fun k d => (by kernel_rfl : evCode Try.prog (calT Try.prog (law06_BconeColours_tab F) _) (qcalT (law06_BconeColours_tab F) _) (annOf []) (loopAt (bodyOf Try.f3) 0) (bldS 69 law06_BconeColours_l0_ins d) (kX 69 law06_BconeColours_l0_ins law06_BconeColours_l0_outX law06_BconeColours_l0_outs 0 .ret fun d => law06_BconeColours_l0 F k d.1 d.2.1 d.2.2.1 d.2.2.2.1 d.2.2.2.2.1) = law06_BconeColours_l0S F (law06_BconeColours_l0 F k) d.1 d.2.1 d.2.2.1 d.2.2.2.1 d.2.2.2.2.1)) (by first | exact .inl rfl | exact .inr ⟨_, rfl, by decide⟩) F B w

def law06_BconeColours_told (F : Nat) : ToldF := ⟨3, 3, [.slot 0 (.is .i64 2), .slot 1 (.bool), .slot 2 (.is .i64 4)], [.ty (.bool)], fun d => law06_BconeColours F d.1 d.2.1 d.2.2.1⟩
theorem law06_BconeColours_ok (F : Nat) : (law06_BconeColours_told F).ok Try.prog :=
  toldF_ok callable (law06_BconeColours_all F) (fn := Try.f3) (t := law06_BconeColours_told F) (anns := [(0, law06_BconeColours_l0_ann F)]) (by kernel_rfl) (annsOk_cons (by kernel_rfl) (fun B w => law06_BconeColours_l0_ok F B w) (annsOk_nil _ _))
    (fun d => (by kernel_rfl : evBody Try.prog (calT Try.prog (law06_BconeColours_tab F) _) (qcalT (law06_BconeColours_tab F) _) (annOf [(0, law06_BconeColours_l0_ann F)]) 3 (bldS 3 (law06_BconeColours_told F).ins d).tmps (bldS 3 (law06_BconeColours_told F).ins d).heap (endO (law06_BconeColours_told F).os) = law06_BconeColours F d.1 d.2.1 d.2.2.1))

def ref02_fits_tab (F : Nat) : List ToldF := []
theorem ref02_fits_all (F : Nat) : AllOk Try.prog (ref02_fits_tab F) := trivial

def ref02_fits_told (F : Nat) : ToldF := ⟨89, 3, [.row .u8 1 (.slot 0) false, .slot 1 (.int .i64), .slot 2 (.int .i64)], [.ty (.bool)], fun d => ref02_fits F d.1 d.2.1 d.2.2.1⟩
theorem ref02_fits_ok (F : Nat) : (ref02_fits_told F).ok Try.prog :=
  toldF_ok callable (ref02_fits_all F) (fn := Try.f89) (t := ref02_fits_told F) (anns := []) (by kernel_rfl) (annsOk_nil _ _)
    (fun d => (by kernel_rfl : evBody Try.prog (calT Try.prog (ref02_fits_tab F) _) (qcalT (ref02_fits_tab F) _) (annOf []) 89 (bldS 3 (ref02_fits_told F).ins d).tmps (bldS 3 (ref02_fits_told F).ins d).heap (endO (ref02_fits_told F).os) = ref02_fits F d.1 d.2.1 d.2.2.1))

def ref02_bit_tab (F : Nat) : List ToldF := []
theorem ref02_bit_all (F : Nat) : AllOk Try.prog (ref02_bit_tab F) := trivial

abbrev ref02_bit_l0_ins : List Go.AE.Item := [.slot 7 (.int .i64), .slot 8 (.int .i64), .slot 9 (.int .i64)]
abbrev ref02_bit_l0_outs : List Go.AE.Item := [.slot 8 (.int .i64)]
def ref02_bit_l0_ann (F : Nat) {ρ : Type} : Ann ρ := annS 30 ref02_bit_l0_ins ref02_bit_l0_outs fun d => ref02_bit_l0 F F d.1 d.2.1 d.2.2.1
theorem ref02_bit_l0_ok (F : Nat) {ρ : Type} (B : Base) (w : World) : AnnAt (ρ := ρ) Try.prog false B w (.block 0 (.loop (loopAt (bodyOf Try.f84) 0))) (ref02_bit_l0_ann F) :=
  toldS_ok callable (ref02_bit_all F) (ins := ref02_bit_l0_ins) (outs := ref02_bit_l0_outs) (anns := []) (L := fun k d => ref02_bit_l0 F k d.1 d.2.1 d.2.2.1) (annsOk_nil _ _) (fun d => rfl)
    (fun k d => (by kernel_rfl : evCode Try.prog (calT Try.prog (ref02_bit_tab F) _) (qcalT (ref02_bit_tab F) _) (annOf []) (loopAt (bodyOf Try.f84) 0) (bldS 30 ref02_bit_l0_ins d) (kS 30 ref02_bit_l0_ins ref02_bit_l0_outs 0 fun d => ref02_bit_l0 F k d.1 d.2.1 d.2.2.1) = ref02_bit_l0S F (ref02_bit_l0 F k) d.1 d.2.1 d.2.2.1)) F B w

def ref02_bit_told (F : Nat) : ToldF := ⟨84, 3, [.row .u8 1 (.slot 0) false, .slot 1 (.int .i64), .slot 2 (.bool)], [.ty (.int .i64)], fun d => ref02_bit F d.1 d.2.1 d.2.2.1⟩
theorem ref02_bit_ok (F : Nat) : (ref02_bit_told F).ok Try.prog :=
  toldF_ok callable (ref02_bit_all F) (fn := Try.f84) (t := ref02_bit_told F) (anns := [(0, ref02_bit_l0_ann F)]) (by kernel_rfl) (annsOk_cons (by kernel_rfl) (fun B w => ref02_bit_l0_ok F B w) (annsOk_nil _ _))
    (fun d => (by kernel_rfl : evBody Try.prog (calT Try.prog (ref02_bit_tab F) _) (qcalT (ref02_bit_tab F) _) (annOf [(0, ref02_bit_l0_ann F)]) 84 (bldS 3 (ref02_bit_told F).ins d).tmps (bldS 3 (ref02_bit_told F).ins d).heap (endO (ref02_bit_told F).os) = ref02_bit F d.1 d.2.1 d.2.2.1))

def ref02_Get_tab (F : Nat) : List ToldF := [ref02_fits_told F, ref02_bit_told F]
theorem ref02_Get_all (F : Nat) : AllOk Try.prog (ref02_Get_tab F) := ⟨ref02_fits_ok F, ⟨ref02_bit_ok F, trivial⟩⟩

abbrev ref02_Get_l0_ins : List Go.AE.Item := [.row .u8 1 (.slot 0) false, .slot 1 (.int .i64), .slot 2 (.int .i64), .slot 3 (.bool), .slot 10 (.int .u64), .slot 11 (.int .i64)]
abbrev ref02_Get_l0_outs : List Go.AE.Item := [.slot 10 (.int .u64)]
def ref02_Get_l0_ann (F : Nat) {ρ : Type} : Ann ρ := annS 52 ref02_Get_l0_ins ref02_Get_l0_outs fun d => ref02_Get_l0 F F d.1 d.2.1 d.2.2.1 d.2.2.2.1 d.2.2.2.2.1 d.2.2.2.2.2.1
theorem ref02_Get_l0_ok (F : Nat) {ρ : Type} (B : Base) (w : World) : AnnAt (ρ := ρ) Try.prog false B w (.block 0 (.loop (loopAt (bodyOf Try.f79) 0))) (ref02_Get_l0_ann F) :=
  toldS_ok callable (ref02_Get_all F) (ins := ref02_Get_l0_ins) (outs := ref02_Get_l0_outs) (anns := []) (L := fun k d => ref02_Get_l0 F k d.1 d.2.1 d.2.2.1 d.2.2.2.1 d.2.2.2.2.1 d.2.2.2.2.2.1) (annsOk_nil _ _) (fun d => rfl)
    (fun k d => (by kernel_rfl : evCode Try.prog (calT Try.prog (ref02_Get_tab F) _) (qcalT (ref02_Get_tab F) _) (annOf []) (loopAt (bodyOf Try.f79) 0) (bldS 52 ref02_Get_l0_ins d) (kS 52 ref02_Get_l0_ins ref02_Get_l0_outs 0 fun d => ref02_Get_l0 F k d.1 d.2.1 d.2.2.1 d.2.2.2.1 d.2.2.2.2.1 d.2.2.2.2.2.1) = ref02_Get_l0S F (ref02_Get_l0 F k) d.1 d.2.1 d.2.2.1 d.2.2.2.1 d.2.2.2.2.1 d.2.2.2.2.2.1)) F B w

def ref02_Get_told (F : Nat) : ToldF := ⟨79, 4, [.row .u8 1 (.slot 0) false, .slot 1 (.int .i64), .slot 2 (.int .i64), .slot 3 (.bool)], [.ty (.int .u64), .ty (.int .i64)], fun d => ref02_Get F d.1 d.2.1 d.2.2.1 d.2.2.2.1⟩
theorem ref02_Get_ok (F : Nat) : (ref02_Get_told F).ok Try.prog :=
  toldF_ok callable (ref02_Get_all F) (fn := Try.f79) (t := ref02_Get_told F) (anns := [(0, ref02_Get_l0_ann F)]) (by kernel_rfl) (annsOk_cons (by kernel_rfl) (fun B w => ref02_Get_l0_ok F B w) (annsOk_nil _ _))
    (fun d => (by kernel_rfl : evBody Try.prog (calT Try.prog (ref02_Get_tab F) _) (qcalT (ref02_Get_tab F) _) (annOf [(0, ref02_Get_l0_ann F)]) 79 (bldS 4 (ref02_Get_told F).ins d).tmps (bldS 4 (ref02_Get_told F).ins d).heap (endO (ref02_Get_told F).os) = ref02_Get F d.1 d.2.1 d.2.2.1 d.2.2.2.1))

def ref02_Field_tab (F : Nat) : List ToldF := [ref02_Get_told F]
theorem ref02_Field_all (F : Nat) : AllOk Try.prog (ref02_Field_tab F) := ⟨ref02_Get_ok F, trivial⟩

def ref02_Field_told (F : Nat) : ToldF := ⟨49, 3, [.row .u8 1 (.slot 0) false, .slot 1 (.int .i64), .slot 2 (.int .i64)], [.ty (.int .i64)], fun d => ref02_Field F d.1 d.2.1 d.2.2.1⟩
theorem ref02_Field_ok (F : Nat) : (ref02_Field_told F).ok Try.prog :=
  toldF_ok callable (ref02_Field_all F) (fn := Try.f49) (t := ref02_Field_told F) (anns := []) (by kernel_rfl) (annsOk_nil _ _)
    (fun d => (by kernel_rfl : evBody Try.prog (calT Try.prog (ref02_Field_tab F) _) (qcalT (ref02_Field_tab F) _) (annOf []) 49 (bldS 3 (ref02_Field_told F).ins d).tmps (bldS 3 (ref02_Field_told F).ins d).heap (endO (ref02_Field_told F).os) = ref02_Field F d.1 d.2.1 d.2.2.1))

def ref06_Parts_tab (F : Nat) : List ToldF := [ref02_Field_told F]
theorem ref06_Parts_all (F : Nat) : AllOk Try.prog (ref06_Parts_tab F) := ⟨ref02_Field_ok F, trivial⟩

abbrev ref06_Parts_l0_ins : List Go.AE.Item := [.row .u8 1 (.slot 0) false, .segs [.hole (.is .i64 16)] (.slot 4) true, .ptr 4 1 16, .segs [.hole (.is .i64 16)] (.slot 6) true, .ptr 6 2 16, .slot 7 (.int .i64)]
abbrev ref06_Parts_l0_outs : List Go.AE.Item := [.row .u8 1 (.slot 0) false, .segs [.hole (.is .i64 16)] (.slot 4) true, .ptr 4 1 16, .segs [.hole (.is .i64 16)] (.slot 6) true, .ptr 6 2 16]
def ref06_Parts_l0_ann (F : Nat) {ρ : Type} : Ann ρ := annS 29 ref06_Parts_l0_ins ref06_Parts_l0_outs fun d => ref06_Parts_l0 F F d.1 d.2.1 d.2.2.1 d.2.2.2.1
theorem ref06_Parts_l0_ok (F : Nat) {ρ : Type} (B : Base) (w : World) : AnnAt (ρ := ρ) Try.prog false B w (.block 0 (.loop (loopAt (bodyOf Try.f20) 0))) (ref06_Parts_l0_ann F) :=
  toldS_ok callable (ref06_Parts_all F) (ins := ref06_Parts_l0_ins) (outs := ref06_Parts_l0_outs) (anns := []) (L := fun k d => ref06_Parts_l0 F k d.1 d.2.1 d.2.2.1 d.2.2.2.1) (annsOk_nil _ _) (fun d => rfl)
    (fun k d => (by kernel_rfl : evCode Try.prog (calT Try.prog (ref06_Parts_tab F) _) (qcalT (ref06_Parts_tab F) _) (annOf []) (loopAt (bodyOf Try.f20) 0) (bldS 29 ref06_Parts_l0_ins d) (kS 29 ref06_Parts_l0_ins ref06_Parts_l0_outs 0 fun d => ref06_Parts_l0 F k d.1 d.2.1 d.2.2.1 d.2.2.2.1) = ref06_Parts_l0S F (ref06_Parts_l0 F k) d.1 d.2.1 d.2.2.1 d.2.2.2.1)) F B w

def ref06_Parts_told (F : Nat) : ToldF := ⟨20, 1, [.row .u8 1 (.slot 0) false], [.ty (.int .i64), .ty (.int .i64), .ty (.is .i64 16), .ty (.int .i64)], fun d => ref06_Parts F d.1⟩
theorem ref06_Parts_ok (F : Nat) : (ref06_Parts_told F).ok Try.prog :=
  toldF_ok callable (ref06_Parts_all F) (fn := Try.f20) (t := ref06_Parts_told F) (anns := [(0, ref06_Parts_l0_ann F)]) (by kernel_rfl) (annsOk_cons (by kernel_rfl) (fun B w => ref06_Parts_l0_ok F B w) (annsOk_nil _ _))
    (fun d => (by kernel_rfl : evBody Try.prog (calT Try.prog (ref06_Parts_tab F) _) (qcalT (ref06_Parts_tab F) _) (annOf [(0, ref06_Parts_l0_ann F)]) 20 (bldS 1 (ref06_Parts_told F).ins d).tmps (bldS 1 (ref06_Parts_told F).ins d).heap (endO (ref06_Parts_told F).os) = ref06_Parts F d.1))

def ref06_Decode_tab (F : Nat) : List ToldF := [ref06_Palette_told F, ref06_Parts_told F]
theorem ref06_Decode_all (F : Nat) : AllOk Try.prog (ref06_Decode_tab F) := ⟨ref06_Palette_ok F, ⟨ref06_Parts_ok F, trivial⟩⟩

abbrev ref06_Decode_l0_ins : List Go.AE.Item := [.segs [.hole (.is .i64 64)] (.slot 4) true, .ptr 4 0 64, .segs [.hole (.is .i64 64)] (.slot 6) true, .ptr 6 1 64, .segs [.hole (.is .i64 16)] (.slot 9) true, .ptr 9 2 16, .segs [.hole (.is .i64 16)] (.slot 11) true, .ptr 11 3 16, .slot 12 (.int .i64)]
abbrev ref06_Decode_l0_outs : List Go.AE.Item := [.segs [.hole (.is .i64 64)] (.slot 4) true, .ptr 4 0 64, .segs [.hole (.is .i64 64)] (.slot 6) true, .ptr 6 1 64]
def ref06_Decode_l0_ann (F : Nat) {ρ : Type} : Ann ρ := annS 41 ref06_Decode_l0_ins ref06_Decode_l0_outs fun d => ref06_Decode_l0 F F d.1 d.2.1 d.2.2.1 d.2.2.2.1 d.2.2.2.2.1
theorem ref06_Decode_l0_ok (F : Nat) {ρ : Type} (B : Base) (w : World) : AnnAt (ρ := ρ) Try.prog false B w (.block 0 (.loop (loopAt (bodyOf Try.f22) 0))) (ref06_Decode_l0_ann F) :=
  toldS_ok callable (ref06_Decode_all F) (ins := ref06_Decode_l0_ins) (outs := ref06_Decode_l0_outs) (anns := []) (L := fun k d => ref06_Decode_l0 F k d.1 d.2.1 d.2.2.1 d.2.2.2.1 d.2.2.2.2.1) (annsOk_nil _ _) (fun d => rfl)
    (fun k d => (by kernel_rfl : evCode Try.prog (calT Try.prog (ref06_Decode_tab F) _) (qcalT (ref06_Decode_tab F) _) (annOf []) (loopAt (bodyOf Try.f22) 0) (bldS 41 ref06_Decode_l0_ins d) (kS 41 ref06_Decode_l0_ins ref06_Decode_l0_outs 0 fun d => ref06_Decode_l0 F k d.1 d.2.1 d.2.2.1 d.2.2.2.1 d.2.2.2.2.1) = ref06_Decode_l0S F (ref06_Decode_l0 F k) d.1 d.2.1 d.2.2.1 d.2.2.2.1 d.2.2.2.2.1)) F B w

def ref06_Decode_told (F : Nat) : ToldF := ⟨22, 2, [.row .u8 1 (.slot 0) false, .slot 1 (.bool)], [.ty (.is .i64 64), .ty (.int .i64)], fun d => ref06_Decode F d.1 d.2.1⟩
theorem ref06_Decode_ok (F : Nat) : (ref06_Decode_told F).ok Try.prog :=
  toldF_ok callable (ref06_Decode_all F) (fn := Try.f22) (t := ref06_Decode_told F) (anns := [(0, ref06_Decode_l0_ann F)]) (by kernel_rfl) (annsOk_cons (by kernel_rfl) (fun B w => ref06_Decode_l0_ok F B w) (annsOk_nil _ _))
    (fun d => (by kernel_rfl : evBody Try.prog (calT Try.prog (ref06_Decode_tab F) _) (qcalT (ref06_Decode_tab F) _) (annOf [(0, ref06_Decode_l0_ann F)]) 22 (bldS 2 (ref06_Decode_told F).ins d).tmps (bldS 2 (ref06_Decode_told F).ins d).heap (endO (ref06_Decode_told F).os) = ref06_Decode F d.1 d.2.1))

def ref02_power_tab (F : Nat) : List ToldF := []
theorem ref02_power_all (F : Nat) : AllOk Try.prog (ref02_power_tab F) := trivial

abbrev ref02_power_l0_ins : List Go.AE.Item := [.slot 0 (.int .i64), .slot 3 (.int .u64), .slot 4 (.int .i64)]
abbrev ref02_power_l0_outs : List Go.AE.Item := [.slot 3 (.int .u64)]
def ref02_power_l0_ann (F : Nat) {ρ : Type} : Ann ρ := annS 13 ref02_power_l0_ins ref02_power_l0_outs fun d => ref02_power_l0 F F d.1 d.2.1 d.2.2.1
theorem ref02_power_l0_ok (F : Nat) {ρ : Type} (B : Base) (w : World) : AnnAt (ρ := ρ) Try.prog false B w (.block 0 (.loop (loopAt (bodyOf Try.f83) 0))) (ref02_power_l0_ann F) :=
  toldS_ok callable (ref02_power_all F) (ins := ref02_power_l0_ins) (outs := ref02_power_l0_outs) (anns := []) (L := fun k d => ref02_power_l0 F k d.1 d.2.1 d.2.2.1) (annsOk_nil _ _) (fun d => rfl)
    (fun k d => (by kernel_rfl : evCode Try.prog (calT Try.prog (ref02_power_tab F) _) (qcalT (ref02_power_tab F) _) (annOf []) (loopAt (bodyOf Try.f83) 0) (bldS 13 ref02_power_l0_ins d) (kS 13 ref02_power_l0_ins ref02_power_l0_outs 0 fun d => ref02_power_l0 F k d.1 d.2.1 d.2.2.1) = ref02_power_l0S F (ref02_power_l0 F k) d.1 d.2.1 d.2.2.1)) F B w

def ref02_power_told (F : Nat) : ToldF := ⟨83, 1, [.slot 0 (.int .i64)], [.ty (.int .u64)], fun d => ref02_power F d.1⟩
theorem ref02_power_ok (F : Nat) : (ref02_power_told F).ok Try.prog :=
  toldF_ok callable (ref02_power_all F) (fn := Try.f83) (t := ref02_power_told F) (anns := [(0, ref02_power_l0_ann F)]) (by kernel_rfl) (annsOk_cons (by kernel_rfl) (fun B w => ref02_power_l0_ok F B w) (annsOk_nil _ _))
    (fun d => (by kernel_rfl : evBody Try.prog (calT Try.prog (ref02_power_tab F) _) (qcalT (ref02_power_tab F) _) (annOf [(0, ref02_power_l0_ann F)]) 83 (bldS 1 (ref02_power_told F).ins d).tmps (bldS 1 (ref02_power_told F).ins d).heap (endO (ref02_power_told F).os) = ref02_power F d.1))

def ref02_Set_tab (F : Nat) : List ToldF := [ref02_bit_told F, ref02_Get_told F, ref02_power_told F]
theorem ref02_Set_all (F : Nat) : AllOk Try.prog (ref02_Set_tab F) := ⟨ref02_bit_ok F, ⟨ref02_Get_ok F, ⟨ref02_power_ok F, trivial⟩⟩⟩

abbrev ref02_Set_l0_ins : List Go.AE.Item := [.slot 1 (.int .i64), .slot 2 (.int .i64), .slot 3 (.bool), .slot 4 (.int .u64), .row .u8 1 (.slot 14) true, .slot 15 (.int .i64)]
abbrev ref02_Set_l0_outs : List Go.AE.Item := [.row .u8 1 (.slot 14) true]
def ref02_Set_l0_ann (F : Nat) {ρ : Type} : Ann ρ := annS 91 ref02_Set_l0_ins ref02_Set_l0_outs fun d => ref02_Set_l0 F F d.1 d.2.1 d.2.2.1 d.2.2.2.1 d.2.2.2.2.1 d.2.2.2.2.2.1
theorem ref02_Set_l0_ok (F : Nat) {ρ : Type} (B : Base) (w : World) : AnnAt (ρ := ρ) Try.prog false B w (.block 0 (.loop (loopAt (bodyOf Try.f51) 0))) (ref02_Set_l0_ann F) :=
  toldS_ok callable (ref02_Set_all F) (ins := ref02_Set_l0_ins) (outs := ref02_Set_l0_outs) (anns := []) (L := fun k d => ref02_Set_l0 F k d.1 d.2.1 d.2.2.1 d.2.2.2.1 d.2.2.2.2.1 d.2.2.2.2.2.1) (annsOk_nil _ _) (fun d => rfl)
    (fun k d => (by kernel_rfl : evCode Try.prog (calT Try.prog (ref02_Set_tab F) _) (qcalT (ref02_Set_tab F) _) (annOf []) (loopAt (bodyOf Try.f51) 0) (bldS 91 ref02_Set_l0_ins d) (kS 91 ref02_Set_l0_ins ref02_Set_l0_outs 0 fun d => ref02_Set_l0 F k d.1 d.2.1 d.2.2.1 d.2.2.2.1 d.2.2.2.2.1 d.2.2.2.2.2.1) = ref02_Set_l0S F (ref02_Set_l0 F k) d.1 d.2.1 d.2.2.1 d.2.2.2.1 d.2.2.2.2.1 d.2.2.2.2.2.1)) F B w

def ref02_Set_told (F : Nat) : ToldF := ⟨51, 5, [.row .u8 1 (.slot 0) false, .slot 1 (.int .i64), .slot 2 (.int .i64), .slot 3 (.bool), .slot 4 (.int .u64)], [.row .u8 1, .ty (.int .i64)], fun d => ref02_Set F d.1 d.2.1 d.2.2.1 d.2.2.2.1 d.2.2.2.2.1⟩
theorem ref02_Set_ok (F : Nat) : (ref02_Set_told F).ok Try.prog :=
  toldF_ok callable (ref02_Set_all F) (fn := Try.f51) (t := ref02_Set_told F) (anns := [(0, ref02_Set_l0_ann F)]) (by kernel_rfl) (annsOk_cons (by kernel_rfl) (fun B w => ref02_Set_l0_ok F B w) (annsOk_nil _ _))
    (fun d => (by kernel_rfl : evBody Try.prog (calT Try.prog (ref02_Set_tab F) _) (qcalT (ref02_Set_tab F) _) (annOf [(0, ref02_Set_l0_ann F)]) 51 (bldS 5 (ref02_Set_told F).ins d).tmps (bldS 5 (ref02_Set_told F).ins d).heap (endO (ref02_Set_told F).os) = ref02_Set F d.1 d.2.1 d.2.2.1 d.2.2.2.1 d.2.2.2.2.1))

def ref06_Join_tab (F : Nat) : List ToldF := [ref02_Set_told F]
theorem ref06_Join_all (F : Nat) : AllOk Try.prog (ref06_Join_tab F) := ⟨ref02_Set_ok F, trivial⟩

abbrev ref06_Join_l0_ins : List Go.AE.Item := [.segs [.hole (.is .i64 16)] (.slot 5) true, .ptr 5 0 16, .row .u8 1 (.slot 8) true, .slot 9 (.int .i64)]
abbrev ref06_Join_l0_outs : List Go.AE.Item := [.row .u8 1 (.slot 8) true]
abbrev ref06_Join_l0_outX : List Go.AE.Item := [.const 6 .nils, .const 7 (.int .i64 (some 1) 1)]
def ref06_Join_l0_ann (F : Nat) {ρ : Type} : Ann ρ := annX 66 ref06_Join_l0_ins ref06_Join_l0_outX ref06_Join_l0_outs .ret fun d => ref06_Join_l0 F F d.1 d.2.1 d.2.2.1
theorem ref06_Join_l0_ok (F : Nat) {ρ : Type} (B : Base) (w : World) : AnnAt (ρ := ρ) Try.prog false B w (.block 0 (.loop (loopAt (bodyOf Try.f24) 0))) (ref06_Join_l0_ann F) :=
  toldX_ok callable (ref06_Join_all F) (ins := ref06_Join_l0_ins) (outX := ref06_Join_l0_outX) (outs := ref06_Join_l0_outs) (anns := []) (L := fun k d => ref06_Join_l0 F k d.1 d.2.1 d.2.2.1) (annsOk_nil _ _) (fun d => rfl)
    (fun k d => (by kernel_rfl : evCode Try.prog (calT Try.prog (ref06_Join_tab F) _) (qcalT (ref06_Join_tab F) _) (annOf []) (loopAt (bodyOf Try.f24) 0) (bldS 66 ref06_Join_l0_ins d) (kX 66 ref06_Join_l0_ins ref06_Join_l0_outX ref06_Join_l0_outs 0 .ret fun d => ref06_Join_l0 F k d.1 d.2.1 d.2.2.1) = ref06_Join_l0S F (ref06_Join_l0 F k) d.1 d.2.1 d.2.2.1)) (by first | exact .inl rfl | exact .inr ⟨_, rfl, by decide⟩) F B w

def ref06_Join_told (F : Nat) : ToldF := ⟨24, 3, [.slot 0 (.int .i64), .slot 1 (.int .i64), .slot 2 (.is .i64 16)], [.row .u8 1, .ty (.int .i64)], fun d => ref06_Join F d.1 d.2.1 d.2.2.1⟩
theorem ref06_Join_ok (F : Nat) : (ref06_Join_told F).ok Try.prog :=
  toldF_ok callable (ref06_Join_all F) (fn := Try.f24) (t := ref06_Join_told F) (anns := [(0, ref06_Join_l0_ann F)]) (by kernel_rfl) (annsOk_cons (by kernel_rfl) (fun B w => ref06_Join_l0_ok F B w) (annsOk_nil _ _))
    (fun d => (by kernel_rfl : evBody Try.prog (calT Try.prog (ref06_Join_tab F) _) (qcalT (ref06_Join_tab F) _) (annOf [(0, ref06_Join_l0_ann F)]) 24 (bldS 3 (ref06_Join_told F).ins d).tmps (bldS 3 (ref06_Join_told F).ins d).heap (endO (ref06_Join_told F).os) = ref06_Join F d.1 d.2.1 d.2.2.1))

def ref01_Same_tab (F : Nat) : List ToldF := []
theorem ref01_Same_all (F : Nat) : AllOk Try.prog (ref01_Same_tab F) := trivial

abbrev ref01_Same_l0_ins : List Go.AE.Item := [.row .u8 1 (.slot 0) false, .row .u8 1 (.slot 1) false, .slot 5 (.int .i64)]
abbrev ref01_Same_l0_outs : List Go.AE.Item := []
abbrev ref01_Same_l0_outX : List Go.AE.Item := [.const 4 (.bool (some false) false)]
def ref01_Same_l0_ann (F : Nat) {ρ : Type} : Ann ρ := annX 26 ref01_Same_l0_ins ref01_Same_l0_outX ref01_Same_l0_outs .ret fun d => ref01_Same_l0 F F d.1 d.2.1 d.2.2.1
theorem ref01_Same_l0_ok (F : Nat) {ρ : Type} (B : Base) (w : World) : AnnAt (ρ := ρ) Try.prog false B w (.block 0 (.loop (loopAt (bodyOf Try.f25) 0))) (ref01_Same_l0_ann F) :=
  toldX_ok callable (ref01_Same_all F) (ins := ref01_Same_l0_ins) (outX := ref01_Same_l0_outX) (outs := ref01_Same_l0_outs) (anns := []) (L := fun k d => ref01_Same_l0 F k d.1 d.2.1 d.2.2.1) (annsOk_nil _ _) (fun d => rfl)
    (fun k d => (by kernel_rfl : evCode Try.prog (calT Try.prog (ref01_Same_tab F) _) (qcalT (ref01_Same_tab F) _) (annOf []) (loopAt (bodyOf Try.f25) 0) (bldS 26 ref01_Same_l0_ins d) (kX 26 ref01_Same_l0_ins ref01_Same_l0_outX ref01_Same_l0_outs 0 .ret fun d => ref01_Same_l0 F k d.1 d.2.1 d.2.2.1) = ref01_Same_l0S F (ref01_Same_l0 F k) d.1 d.2.1 d.2.2.1)) (by first | exact .inl rfl | exact .inr ⟨_, rfl, by decide⟩) F B w

def ref01_Same_told (F : Nat) : ToldF := ⟨25, 2, [.row .u8 1 (.slot 0) false, .row .u8 1 (.slot 1) false], [.ty (.bool)], fun d => ref01_Same F d.1 d.2.1⟩
theorem ref01_Same_ok (F : Nat) : (ref01_Same_told F).ok Try.prog :=
  toldF_ok callable (ref01_Same_all F) (fn := Try.f25) (t := ref01_Same_told F) (anns := [(0, ref01_Same_l0_ann F)]) (by kernel_rfl) (annsOk_cons (by kernel_rfl) (fun B w => ref01_Same_l0_ok F B w) (annsOk_nil _ _))
    (fun d => (by kernel_rfl : evBody Try.prog (calT Try.prog (ref01_Same_tab F) _) (qcalT (ref01_Same_tab F) _) (annOf [(0, ref01_Same_l0_ann F)]) 25 (bldS 2 (ref01_Same_told F).ins d).tmps (bldS 2 (ref01_Same_told F).ins d).heap (endO (ref01_Same_told F).os) = ref01_Same F d.1 d.2.1))

def law06_BconeBlocks_tab (F : Nat) : List ToldF := [bcone_Join_told F, bcone_Parts_told F, bcone_Decode_told F, law06_awake_told F, ref06_Parts_told F, ref06_Decode_told F, ref06_Join_told F, ref01_Same_told F]
theorem law06_BconeBlocks_all (F : Nat) : AllOk Try.prog (law06_BconeBlocks_tab F) := ⟨bcone_Join_ok F, ⟨bcone_Parts_ok F, ⟨bcone_Decode_ok F, ⟨law06_awake_ok F, ⟨ref06_Parts_ok F, ⟨ref06_Decode_ok F, ⟨ref06_Join_ok F, ⟨ref01_Same_ok F, trivial⟩⟩⟩⟩⟩⟩⟩⟩

abbrev law06_BconeBlocks_l0_ins : List Go.AE.Item := [.segs [.hole (.is .i64 18)] (.slot 5) true, .ptr 5 0 18, .slot 7 (.bool), .slot 8 (.int .i64), .slot 9 (.int .i64), .segs [.hole (.is .i64 16)] (.slot 10) true, .ptr 10 1 16, .slot 11 (.int .i64), .slot 12 (.int .i64), .slot 13 (.int .i64), .segs [.hole (.is .i64 16)] (.slot 14) true, .ptr 14 2 16, .slot 15 (.int .i64), .segs [.hole (.is .i64 64)] (.slot 16) true, .ptr 16 3 64, .slot 17 (.int .i64), .segs [.hole (.is .i64 64)] (.slot 18) true, .ptr 18 4 64, .slot 19 (.int .i64), .segs [.hole (.is .i64 16)] (.slot 20) true, .ptr 20 5 16, .slot 21 (.int .i64)]
abbrev law06_BconeBlocks_l0_outs : List Go.AE.Item := [.segs [.hole (.is .i64 18)] (.slot 5) true, .ptr 5 0 18, .slot 7 (.bool), .slot 8 (.int .i64), .slot 9 (.int .i64), .segs [.hole (.is .i64 16)] (.slot 10) true, .ptr 10 1 16, .slot 11 (.int .i64), .slot 12 (.int .i64), .slot 13 (.int .i64), .segs [.hole (.is .i64 16)] (.slot 14) true, .ptr 14 2 16, .slot 15 (.int .i64), .segs [.hole (.is .i64 64)] (.slot 16) true, .ptr 16 3 64, .slot 17 (.int .i64), .segs [.hole (.is .i64 64)] (.slot 18) true, .ptr 18 4 64, .slot 19 (.int .i64), .segs [.hole (.is .i64 16)] (.slot 20) true, .ptr 20 5 16]
def law06_BconeBlocks_l0_ann (F : Nat) {ρ : Type} : Ann ρ := annS 129 law06_BconeBlocks_l0_ins law06_BconeBlocks_l0_outs fun d => law06_BconeBlocks_l0 F F d.1 d.2.1 d.2.2.1 d.2.2.2.1 d.2.2.2.2.1 d.2.2.2.2.2.1 d.2.2.2.2.2.2.1 d.2.2.2.2.2.2.2.1 d.2.2.2.2.2.2.2.2.1 d.2.2.2.2.2.2.2.2.2.1 d.2.2.2.2.2.2.2.2.2.2.1 d.2.2.2.2.2.2.2.2.2.2.2.1 d.2.2.2.2.2.2.2.2.2.2.2.2.1 d.2.2.2.2.2.2.2.2.2.2.2.2.2.1 d.2.2.2.2.2.2.2.2.2.2.2.2.2.2.1 d.2.2.2.2.2.2.2.2.2.2.2.2.2.2.2.1
theorem law06_BconeBlocks_l0_ok (F : Nat) {ρ : Type} (B : Base) (w : World) : AnnAt (ρ := ρ) Try.prog false B w (.block 0 (.loop (loopAt (bodyOf Try.f4) 0))) (law06_BconeBlocks_l0_ann F) :=
  toldS_ok callable (law06_BconeBlocks_all F) (ins := law06_BconeBlocks_l0_ins) (outs := law06_BconeBlocks_l0_outs) (anns := []) (L := fun k d => law06_BconeBlocks_l0 F k d.1 d.2.1 d.2.2.1 d.2.2.2.1 d.2.2.2.2.1 d.2.2.2.2.2.1 d.2.2.2.2.2.2.1 d.2.2.2.2.2.2.2.1 d.2.2.2.2.2.2.2.2.1 d.2.2.2.2.2.2.2.2.2.1 d.2.2.2.2.2.2.2.2.2.2.1 d.2.2.2.2.2.2.2.2.2.2.2.1 d.2.2.2.2.2.2.2.2.2.2.2.2.1 d.2.2.2.2.2.2.2.2.2.2.2.2.2.1 d.2.2.2.2.2.2.2.2.2.2.2.2.2.2.1 d.2.2.2.2.2.2.2.2.2.2.2.2.2.2.2.1) (annsOk_nil _ _) (fun d => rfl)
    (fun k d => (by kernel_rfl : evCode Try.prog (calT Try.prog (law06_BconeBlocks_tab F) _) (qcalT (law06_BconeBlocks_tab F) _) (annOf []) (loopAt (bodyOf Try.f4) 0) (bldS 129 law06_BconeBlocks_l0_ins d) (kS 129 law06_BconeBlocks_l0_ins law06_BconeBlocks_l0_outs 0 fun d => law06_BconeBlocks_l0 F k d.1 d.2.1 d.2.2.1 d.2.2.2.1 d.2.2.2.2.1 d.2.2.2.2.2.1 d.2.2.2.2.2.2.1 d.2.2.2.2.2.2.2.1 d.2.2.2.2.2.2.2.2.1 d.2.2.2.2.2.2.2.2.2.1 d.2.2.2.2.2.2.2.2.2.2.1 d.2.2.2.2.2.2.2.2.2.2.2.1 d.2.2.2.2.2.2.2.2.2.2.2.2.1 d.2.2.2.2.2.2.2.2.2.2.2.2.2.1 d.2.2.2.2.2.2.2.2.2.2.2.2.2.2.1 d.2.2.2.2.2.2.2.2.2.2.2.2.2.2.2.1) = law06_BconeBlocks_l0S F (law06_BconeBlocks_l0 F k) d.1 d.2.1 d.2.2.1 d.2.2.2.1 d.2.2.2.2.1 d.2.2.2.2.2.1 d.2.2.2.2.2.2.1 d.2.2.2.2.2.2.2.1 d.2.2.2.2.2.2.2.2.1 d.2.2.2.2.2.2.2.2.2.1 d.2.2.2.2.2.2.2.2.2.2.1 d.2.2.2.2.2.2.2.2.2.2.2.1 d.2.2.2.2.2.2.2.2.2.2.2.2.1 d.2.2.2.2.2.2.2.2.2.2.2.2.2.1 d.2.2.2.2.2.2.2.2.2.2.2.2.2.2.1 d.2.2.2.2.2.2.2.2.2.2.2.2.2.2.2.1)) F B w

def law06_BconeBlocks_told (F : Nat) : ToldF := ⟨4, 3, [.row .u8 1 (.slot 0) false, .slot 1 (.bool), .slot 2 (.is .i64 18)], [.ty (.bool)], fun d => law06_BconeBlocks F d.1 d.2.1 d.2.2.1⟩
theorem law06_BconeBlocks_ok (F : Nat) : (law06_BconeBlocks_told F).ok Try.prog :=
  toldF_ok callable (law06_BconeBlocks_all F) (fn := Try.f4) (t := law06_BconeBlocks_told F) (anns := [(0, law06_BconeBlocks_l0_ann F)]) (by kernel_rfl) (annsOk_cons (by kernel_rfl) (fun B w => law06_BconeBlocks_l0_ok F B w) (annsOk_nil _ _))
    (fun d => (by kernel_rfl : evBody Try.prog (calT Try.prog (law06_BconeBlocks_tab F) _) (qcalT (law06_BconeBlocks_tab F) _) (annOf [(0, law06_BconeBlocks_l0_ann F)]) 4 (bldS 3 (law06_BconeBlocks_told F).ins d).tmps (bldS 3 (law06_BconeBlocks_told F).ins d).heap (endO (law06_BconeBlocks_told F).os) = law06_BconeBlocks F d.1 d.2.1 d.2.2.1))

def law06_BconeBack_tab (F : Nat) : List ToldF := [bcone_Join_told F, bcone_Parts_told F, law06_awake_told F, ref01_Same_told F]
theorem law06_BconeBack_all (F : Nat) : AllOk Try.prog (law06_BconeBack_tab F) := ⟨bcone_Join_ok F, ⟨bcone_Parts_ok F, ⟨law06_awake_ok F, ⟨ref01_Same_ok F, trivial⟩⟩⟩⟩

def law06_BconeBack_told (F : Nat) : ToldF := ⟨5, 1, [.row .u8 1 (.slot 0) false], [.ty (.bool)], fun d => law06_BconeBack F d.1⟩
theorem law06_BconeBack_ok (F : Nat) : (law06_BconeBack_told F).ok Try.prog :=
  toldF_ok callable (law06_BconeBack_all F) (fn := Try.f5) (t := law06_BconeBack_told F) (anns := []) (by kernel_rfl) (annsOk_nil _ _)
    (fun d => (by kernel_rfl : evBody Try.prog (calT Try.prog (law06_BconeBack_tab F) _) (qcalT (law06_BconeBack_tab F) _) (annOf []) 5 (bldS 1 (law06_BconeBack_told F).ins d).tmps (bldS 1 (law06_BconeBack_told F).ins d).heap (endO (law06_BconeBack_told F).os) = law06_BconeBack F d.1))

def law06_BconeBetween_tab (F : Nat) : List ToldF := [bcone_Join_told F, bcone_Parts_told F, bcone_Colour_told F, bcone_Decode_told F, bcone_Pack_told F, law06_awake_told F]
theorem law06_BconeBetween_all (F : Nat) : AllOk Try.prog (law06_BconeBetween_tab F) := ⟨bcone_Join_ok F, ⟨bcone_Parts_ok F, ⟨bcone_Colour_ok F, ⟨bcone_Decode_ok F, ⟨bcone_Pack_ok F, ⟨law06_awake_ok F, trivial⟩⟩⟩⟩⟩⟩

abbrev law06_BconeBetween_l4_ins : List Go.AE.Item := [.row .u8 1 (.slot 0) false, .slot 1 (.int .i64), .slot 5 (.bool), .slot 6 (.int .i64), .segs [.hole (.is .i64 64)] (.slot 7) true, .ptr 7 1 64, .slot 9 (.int .i64), .slot 10 (.int .i64), .segs [.hole (.is .i64 4)] (.slot 13) true, .ptr 13 2 4, .segs [.hole (.is .i64 4)] (.slot 14) true, .ptr 14 3 4, .slot 15 (.int .i64), .slot 16 (.int .i64)]
abbrev law06_BconeBetween_l4_outs : List Go.AE.Item := [.row .u8 1 (.slot 0) false, .slot 1 (.int .i64), .slot 5 (.bool), .slot 6 (.int .i64), .segs [.hole (.is .i64 64)] (.slot 7) true, .ptr 7 1 64, .slot 9 (.int .i64), .slot 10 (.int .i64), .segs [.hole (.is .i64 4)] (.slot 13) true, .ptr 13 2 4, .segs [.hole (.is .i64 4)] (.slot 14) true, .ptr 14 3 4, .slot 15 (.int .i64)]
abbrev law06_BconeBetween_l4_outX : List Go.AE.Item := [.const 4 (.bool (some false) false)]
def law06_BconeBetween_l4_ann (F : Nat) {ρ : Type} : Ann ρ := annX 145 law06_BconeBetween_l4_ins law06_BconeBetween_l4_outX law06_BconeBetween_l4_outs .ret fun d => law06_BconeBetween_l4 F F d.1 d.2.1 d.2.2.1 d.2.2.2.1 d.2.2.2.2.1 d.2.2.2.2.2.1 d.2.2.2.2.2.2.1 d.2.2.2.2.2.2.2.1 d.2.2.2.2.2.2.2.2.1 d.2.2.2.2.2.2.2.2.2.1 d.2.2.2.2.2.2.2.2.2.2.1
theorem law06_BconeBetween_l4_ok (F : Nat) {ρ : Type} (B : Base) (w : World) : AnnAt (ρ := ρ) Try.prog false B w (.block 4 (.loop (loopAt (bodyOf Try.f6) 4))) (law06_BconeBetween_l4_ann F) :=
  toldX_ok callable (law06_BconeBetween_all F) (ins := law06_BconeBetween_l4_ins) (outX := law06_BconeBetween_l4_outX) (outs := law06_BconeBetween_l4_outs) (anns := []) (L := fun k d => law06_BconeBetween_l4 F k d.1 d.2.1 d.2.2.1 d.2.2.2.1 d.2.2.2.2.1 d.2.2.2.2.2.1 d.2.2.2.2.2.2.1 d.2.2.2.2.2.2.2.1 d.2.2.2.2.2.2.2.2.1 d.2.2.2.2.2.2.2.2.2.1 d.2.2.2.2.2.2.2.2.2.2.1) (annsOk_nil _ _) (fun d => rfl)
    (fun k d => (by kernel_rfl : evCode Try.prog (calT Try.prog (law06_BconeBetween_tab F) _) (qcalT (law06_BconeBetween_tab F) _) (annOf []) (loopAt (bodyOf Try.f6) 4) (bldS 145 law06_BconeBetween_l4_ins d) (kX 145 law06_BconeBetween_l4_ins law06_BconeBetween_l4_outX law06_BconeBetween_l4_outs 4 .ret fun d => law06_BconeBetween_l4 F k d.1 d.2.1 d.2.2.1 d.2.2.2.1 d.2.2.2.2.1 d.2.2.2.2.2.1 d.2.2.2.2.2.2.1 d.2.2.2.2.2.2.2.1 d.2.2.2.2.2.2.2.2.1 d.2.2.2.2.2.2.2.2.2.1 d.2.2.2.2.2.2.2.2.2.2.1) = law06_BconeBetween_l4S F (law06_BconeBetween_l4 F k) d.1 d.2.1 d.2.2.1 d.2.2.2.1 d.2.2.2.2.1 d.2.2.2.2.2.1 d.2.2.2.2.2.2.1 d.2.2.2.2.2.2.2.1 d.2.2.2.2.2.2.2.2.1 d.2.2.2.2.2.2.2.2.2.1 d.2.2.2.2.2.2.2.2.2.2.1)) (by first | exact .inl rfl | exact .inr ⟨_, rfl, by decide⟩) F B w

abbrev law06_BconeBetween_l2_ins : List Go.AE.Item := [.row .u8 1 (.slot 0) false, .slot 1 (.int .i64), .slot 5 (.bool), .slot 6 (.int .i64), .segs [.hole (.is .i64 64)] (.slot 7) true, .ptr 7 1 64, .slot 9 (.int .i64), .slot 10 (.int .i64), .segs [.hole (.is .i64 4)] (.slot 13) true, .ptr 13 2 4, .segs [.hole (.is .i64 4)] (.slot 14) true, .ptr 14 3 4, .slot 15 (.int .i64)]
abbrev law06_BconeBetween_l2_outs : List Go.AE.Item := [.row .u8 1 (.slot 0) false, .slot 1 (.int .i64), .slot 5 (.bool), .slot 6 (.int .i64)]
abbrev law06_BconeBetween_l2_outX : List Go.AE.Item := [.const 4 (.bool (some false) false)]
def law06_BconeBetween_l2_ann (F : Nat) {ρ : Type} : Ann ρ := annX 145 law06_BconeBetween_l2_ins law06_BconeBetween_l2_outX law06_BconeBetween_l2_outs .ret fun d => law06_BconeBetween_l2 F F d.1 d.2.1 d.2.2.1 d.2.2.2.1 d.2.2.2.2.1 d.2.2.2.2.2.1 d.2.2.2.2.2.2.1 d.2.2.2.2.2.2.2.1 d.2.2.2.2.2.2.2.2.1 d.2.2.2.2.2.2.2.2.2.1
theorem law06_BconeBetween_l2_ok (F : Nat) {ρ : Type} (B : Base) (w : World) : AnnAt (ρ := ρ) Try.prog false B w (.block 2 (.loop (loopAt (bodyOf Try.f6) 2))) (law06_BconeBetween_l2_ann F) :=
  toldX_ok callable (law06_BconeBetween_all F) (ins := law06_BconeBetween_l2_ins) (outX := law06_BconeBetween_l2_outX) (outs := law06_BconeBetween_l2_outs) (anns := [(4, law06_BconeBetween_l4_ann F)]) (L := fun k d => law06_BconeBetween_l2 F k d.1 d.2.1 d.2.2.1 d.2.2.2.1 d.2.2.2.2.1 d.2.2.2.2.2.1 d.2.2.2.2.2.2.1 d.2.2.2.2.2.2.2.1 d.2.2.2.2.2.2.2.2.1 d.2.2.2.2.2.2.2.2.2.1) (annsOk_cons (by kernel_rfl) (fun B w => law06_BconeBetween_l4_ok F B w) (annsOk_nil _ _)) (fun d => rfl)
    (fun k d => (by kernel_rfl : evCode Try.prog (calT Try.prog (law06_BconeBetween_tab F) _) (qcalT (law06_BconeBetween_tab F) _) (annOf [(4, law06_BconeBetween_l4_ann F)]) (loopAt (bodyOf Try.f6) 2) (bldS 145 law06_BconeBetween_l2_ins d) (kX 145 law06_BconeBetween_l2_ins law06_BconeBetween_l2_outX law06_BconeBetween_l2_outs 2 .ret fun d => law06_BconeBetween_l2 F k d.1 d.2.1 d.2.2.1 d.2.2.2.1 d.2.2.2.2.1 d.2.2.2.2.2.1 d.2.2.2.2.2.2.1 d.2.2.2.2.2.2.2.1 d.2.2.2.2.2.2.2.2.1 d.2.2.2.2.2.2.2.2.2.1) = law06_BconeBetween_l2S F (law06_BconeBetween_l2 F k) d.1 d.2.1 d.2.2.1 d.2.2.2.1 d.2.2.2.2.1 d.2.2.2.2.2.1 d.2.2.2.2.2.2.1 d.2.2.2.2.2.2.2.1 d.2.2.2.2.2.2.2.2.1 d.2.2.2.2.2.2.2.2.2.1)) (by first | exact .inl rfl | exact .inr ⟨_, rfl, by decide⟩) F B w

abbrev law06_BconeBetween_l0_ins : List Go.AE.Item := [.row .u8 1 (.slot 0) false, .slot 1 (.int .i64), .slot 5 (.bool), .slot 6 (.int .i64)]
abbrev law06_BconeBetween_l0_outs : List Go.AE.Item := [.slot 1 (.int .i64), .slot 5 (.bool)]
abbrev law06_BconeBetween_l0_outX : List Go.AE.Item := [.const 4 (.bool (some false) false)]
def law06_BconeBetween_l0_ann (F : Nat) {ρ : Type} : Ann ρ := annX 145 law06_BconeBetween_l0_ins law06_BconeBetween_l0_outX law06_BconeBetween_l0_outs .ret fun d => law06_BconeBetween_l0 F F d.1 d.2.1 d.2.2.1 d.2.2.2.1
theorem law06_BconeBetween_l0_ok (F : Nat) {ρ : Type} (B : Base) (w : World) : AnnAt (ρ := ρ) Try.prog false B w (.block 0 (.loop (loopAt (bodyOf Try.f6) 0))) (law06_BconeBetween_l0_ann F) :=
  toldX_ok callable (law06_BconeBetween_all F) (ins := law06_BconeBetween_l0_ins) (outX := law06_BconeBetween_l0_outX) (outs := law06_BconeBetween_l0_outs) (anns := [(4, law06_BconeBetween_l4_ann F), (2, law06_BconeBetween_l2_ann F)]) (L := fun k d => law06_BconeBetween_l0 F k d.1 d.2.1 d.2.2.1 d.2.2.2.1) (annsOk_cons (by kernel_rfl) (fun B w => law06_BconeBetween_l4_ok F B w) (annsOk_cons (by kernel_rfl) (fun B w => law06_BconeBetween_l2_ok F B w) (annsOk_nil _ _))) (fun d => rfl)
    (fun k d => (by kernel_rfl : evCode Try.prog (calT Try.prog (law06_BconeBetween_tab F) _) (qcalT (law06_BconeBetween_tab F) _) (annOf [(4, law06_BconeBetween_l4_ann F), (2, law06_BconeBetween_l2_ann F)]) (loopAt (bodyOf Try.f6) 0) (bldS 145 law06_BconeBetween_l0_ins d) (kX 145 law06_BconeBetween_l0_ins law06_BconeBetween_l0_outX law06_BconeBetween_l0_outs 0 .ret fun d => law06_BconeBetween_l0 F k d.1 d.2.1 d.2.2.1 d.2.2.2.1) = law06_BconeBetween_l0S F (law06_BconeBetween_l0 F k) d.1 d.2.1 d.2.2.1 d.2.2.2.1)) (by first | exact .inl rfl | exact .inr ⟨_, rfl, by decide⟩) F B w

abbrev law06_BconeBetween_l6_ins : List Go.AE.Item := [.slot 5 (.bool), .slot 17 (.int .i64), .slot 19 (.int .i64), .segs [.hole (.is .i64 64)] (.slot 20) true, .ptr 20 0 64, .slot 21 (.int .i64), .slot 22 (.int .i64)]
abbrev law06_BconeBetween_l6_outs : List Go.AE.Item := [.slot 5 (.bool), .slot 17 (.int .i64), .slot 19 (.int .i64), .slot 21 (.int .i64)]
abbrev law06_BconeBetween_l6_outX : List Go.AE.Item := [.const 4 (.bool (some false) false)]
def law06_BconeBetween_l6_ann (F : Nat) {ρ : Type} : Ann ρ := annX 145 law06_BconeBetween_l6_ins law06_BconeBetween_l6_outX law06_BconeBetween_l6_outs .ret fun d => law06_BconeBetween_l6 F F d.1 d.2.1 d.2.2.1 d.2.2.2.1 d.2.2.2.2.1 d.2.2.2.2.2.1
theorem law06_BconeBetween_l6_ok (F : Nat) {ρ : Type} (B : Base) (w : World) : AnnAt (ρ := ρ) Try.prog false B w (.block 6 (.loop (loopAt (bodyOf Try.f6) 6))) (law06_BconeBetween_l6_ann F) :=
  toldX_ok callable (law06_BconeBetween_all F) (ins := law06_BconeBetween_l6_ins) (outX := law06_BconeBetween_l6_outX) (outs := law06_BconeBetween_l6_outs) (anns := []) (L := fun k d => law06_BconeBetween_l6 F k d.1 d.2.1 d.2.2.1 d.2.2.2.1 d.2.2.2.2.1 d.2.2.2.2.2.1) (annsOk_nil _ _) (fun d => rfl)
    (fun k d => (by kernel_rfl : evCode Try.prog (calT Try.prog (law06_BconeBetween_tab F) _) (qcalT (law06_BconeBetween_tab F) _) (annOf []) (loopAt (bodyOf Try.f6) 6) (bldS 145 law06_BconeBetween_l6_ins d) (kX 145 law06_BconeBetween_l6_ins law06_BconeBetween_l6_outX law06_BconeBetween_l6_outs 6 .ret fun d => law06_BconeBetween_l6 F k d.1 d.2.1 d.2.2.1 d.2.2.2.1 d.2.2.2.2.1 d.2.2.2.2.2.1) = law06_BconeBetween_l6S F (law06_BconeBetween_l6 F k) d.1 d.2.1 d.2.2.1 d.2.2.2.1 d.2.2.2.2.1 d.2.2.2.2.2.1)) (by first | exact .inl rfl | exact .inr ⟨_, rfl, by decide⟩) F B w

def law06_BconeBetween_told (F : Nat) : ToldF := ⟨6, 2, [.row .u8 1 (.slot 0) false, .slot 1 (.int .i64)], [.ty (.bool)], fun d => law06_BconeBetween F d.1 d.2.1⟩
theorem law06_BconeBetween_ok (F : Nat) : (law06_BconeBetween_told F).ok Try.prog :=
  toldF_ok callable (law06_BconeBetween_all F) (fn := Try.f6) (t := law06_BconeBetween_told F) (anns := [(4, law06_BconeBetween_l4_ann F), (2, law06_BconeBetween_l2_ann F), (0, law06_BconeBetween_l0_ann F), (6, law06_BconeBetween_l6_ann F)]) (by kernel_rfl) (annsOk_cons (by kernel_rfl) (fun B w => law06_BconeBetween_l4_ok F B w) (annsOk_cons (by kernel_rfl) (fun B w => law06_BconeBetween_l2_ok F B w) (annsOk_cons (by kernel_rfl) (fun B w => law06_BconeBetween_l0_ok F B w) (annsOk_cons (by kernel_rfl) (fun B w => law06_BconeBetween_l6_ok F B w) (annsOk_nil _ _)))))
    (fun d => (by kernel_rfl : evBody Try.prog (calT Try.prog (law06_BconeBetween_tab F) _) (qcalT (law06_BconeBetween_tab F) _) (annOf [(4, law06_BconeBetween_l4_ann F), (2, law06_BconeBetween_l2_ann F), (0, law06_BconeBetween_l0_ann F), (6, law06_BconeBetween_l6_ann F)]) 6 (bldS 2 (law06_BconeBetween_told F).ins d).tmps (bldS 2 (law06_BconeBetween_told F).ins d).heap (endO (law06_BconeBetween_told F).os) = law06_BconeBetween F d.1 d.2.1))

end Go.Proofs.Ytpipmhfkdeaebaa

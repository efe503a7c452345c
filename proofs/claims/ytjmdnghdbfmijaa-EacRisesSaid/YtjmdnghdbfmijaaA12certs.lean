/- Printed by a program of mine (gen.py): the Go functions of this part come to what is told. -/
import Derived.Test.YtjmdnghdbfmijaaRows
import Derived.KernelRfl
import Derived.Test.YtjmdnghdbfmijaaA12defs
import Derived.Test.YtjmdnghdbfmijaaA02certs
set_option linter.unusedSimpArgs false
set_option maxRecDepth 100000
set_option linter.unusedVariables false
namespace Go.Proofs.Ytjmdnghdbfmijaa
open Go Go.AE Go.AE.Gn
def eac_at_tab (F : Nat) : List ToldF := []
theorem eac_at_all (F : Nat) : AllOk Try.prog (eac_at_tab F) := trivial

def eac_at_told (F : Nat) : ToldF := ⟨72, 1, [.slot 0 (.int .i64)], [.ty (.int .i64)], fun d => eac_at F d.1⟩
theorem eac_at_ok (F : Nat) : (eac_at_told F).ok Try.prog :=
  toldF_ok callable (eac_at_all F) (fn := Try.f72) (t := eac_at_told F) (anns := []) (by kernel_rfl) (annsOk_nil _ _)
    (fun d => (by kernel_rfl : evBody Try.prog (calT Try.prog (eac_at_tab F) _) (qcalT (eac_at_tab F) _) (annOf []) 72 (bldS 1 (eac_at_told F).ins d).tmps (bldS 1 (eac_at_told F).ins d).heap (fun l H' => exO H' (eac_at_told F).os l []) = eac_at F d.1)) rfl

def eac_Join_tab (F : Nat) : List ToldF := [bits_SetHigh_told F, eac_at_told F]
theorem eac_Join_all (F : Nat) : AllOk Try.prog (eac_Join_tab F) := ⟨bits_SetHigh_ok F, ⟨eac_at_ok F, trivial⟩⟩

abbrev eac_Join_l0_ins : List Go.AE.Item := [.row .u8 1 (.slot 10) true, .row .i64 3 (.slot 11) true, .slot 27 (.is .i64 16), .slot 28 (.int .i64)]
abbrev eac_Join_l0_outs : List Go.AE.Item := [.row .u8 1 (.slot 10) true, .row .i64 3 (.slot 11) true]
def eac_Join_l0_ann (F : Nat) {ρ : Type} : Ann ρ := annS 65 eac_Join_l0_ins eac_Join_l0_outs fun d => eac_Join_l0 F F d.1 d.2.1 d.2.2.1 d.2.2.2.1
theorem eac_Join_l0_ok (F : Nat) {ρ : Type} (B : Nat) (w : World) : AnnAt (ρ := ρ) Try.prog false B w (.block 0 (.loop (loopAt (bodyOf Try.f36) 0))) (eac_Join_l0_ann F) :=
  toldS_ok callable (eac_Join_all F) (ins := eac_Join_l0_ins) (outs := eac_Join_l0_outs) (anns := []) (L := fun k d => eac_Join_l0 F k d.1 d.2.1 d.2.2.1 d.2.2.2.1) (annsOk_nil _ _) (fun d => rfl)
    (fun k d => (by kernel_rfl : evCode Try.prog (calT Try.prog (eac_Join_tab F) _) (qcalT (eac_Join_tab F) _) (annOf []) (loopAt (bodyOf Try.f36) 0) (bldS 65 eac_Join_l0_ins d) (kS 65 eac_Join_l0_ins eac_Join_l0_outs 0 fun d => eac_Join_l0 F k d.1 d.2.1 d.2.2.1 d.2.2.2.1) = eac_Join_l0S F (eac_Join_l0 F k) d.1 d.2.1 d.2.2.1 d.2.2.2.1)) F B w

abbrev eac_Join_l2_ins : List Go.AE.Item := [.row .u8 1 (.slot 10) true, .const 14 (.bool (some true) true), .row .i64 3 (.slot 40) true, .slot 41 (.int .i64), .slot 42 (.int .i64)]
abbrev eac_Join_l2_outs : List Go.AE.Item := [.row .u8 1 (.slot 10) true, .slot 14 (.bool)]
def eac_Join_l2_ann (F : Nat) {ρ : Type} : Ann ρ := annS 65 eac_Join_l2_ins eac_Join_l2_outs fun d => eac_Join_l2 F F d.1 d.2.1 d.2.2.1 d.2.2.2.1
theorem eac_Join_l2_ok (F : Nat) {ρ : Type} (B : Nat) (w : World) : AnnAt (ρ := ρ) Try.prog false B w (.block 2 (.loop (loopAt (bodyOf Try.f36) 2))) (eac_Join_l2_ann F) :=
  toldS_ok callable (eac_Join_all F) (ins := eac_Join_l2_ins) (outs := eac_Join_l2_outs) (anns := []) (L := fun k d => eac_Join_l2 F k d.1 d.2.1 d.2.2.1 d.2.2.2.1) (annsOk_nil _ _) (fun d => rfl)
    (fun k d => (by kernel_rfl : evCode Try.prog (calT Try.prog (eac_Join_tab F) _) (qcalT (eac_Join_tab F) _) (annOf []) (loopAt (bodyOf Try.f36) 2) (bldS 65 eac_Join_l2_ins d) (kS 65 eac_Join_l2_ins eac_Join_l2_outs 2 fun d => eac_Join_l2 F k d.1 d.2.1 d.2.2.1 d.2.2.2.1) = eac_Join_l2S F (eac_Join_l2 F k) d.1 d.2.1 d.2.2.1 d.2.2.2.1)) F B w

def eac_Join_told (F : Nat) : ToldF := ⟨36, 4, [.slot 0 (.int .i64), .slot 1 (.int .i64), .slot 2 (.int .i64), .slot 3 (.is .i64 16)], [.row .u8 1, .ty (.int .i64)], fun d => eac_Join F d.1 d.2.1 d.2.2.1 d.2.2.2.1⟩
theorem eac_Join_ok (F : Nat) : (eac_Join_told F).ok Try.prog :=
  toldF_ok callable (eac_Join_all F) (fn := Try.f36) (t := eac_Join_told F) (anns := [(0, eac_Join_l0_ann F), (2, eac_Join_l2_ann F)]) (by kernel_rfl) (annsOk_cons (by kernel_rfl) (fun B w => eac_Join_l0_ok F B w) (annsOk_cons (by kernel_rfl) (fun B w => eac_Join_l2_ok F B w) (annsOk_nil _ _)))
    (fun d => (by kernel_rfl : evBody Try.prog (calT Try.prog (eac_Join_tab F) _) (qcalT (eac_Join_tab F) _) (annOf [(0, eac_Join_l0_ann F), (2, eac_Join_l2_ann F)]) 36 (bldS 4 (eac_Join_told F).ins d).tmps (bldS 4 (eac_Join_told F).ins d).heap (fun l H' => exO H' (eac_Join_told F).os l []) = eac_Join F d.1 d.2.1 d.2.2.1 d.2.2.2.1)) rfl

def eac_Parts_c1_tab (F : Nat) : List ToldF := [bits_High_told F]
theorem eac_Parts_c1_all (F : Nat) : AllOk Try.prog (eac_Parts_c1_tab F) := ⟨bits_High_ok F, trivial⟩

def eac_Parts_c1_told (F : Nat) : ToldF := ⟨71, 3, [.slot 0 (.int .i64), .slot 1 (.int .i64), .row .u8 1 (.pcell 2 0) false, .segs [.sl 0 1 .whole] (.ptr 2) false, .ptr 2 1 1], [.ty (.int .i64)], fun d => eac_Parts_c1 F d.1 d.2.1 d.2.2.1⟩
theorem eac_Parts_c1_ok (F : Nat) : (eac_Parts_c1_told F).ok Try.prog :=
  toldF_ok callable (eac_Parts_c1_all F) (fn := Try.f71) (t := eac_Parts_c1_told F) (anns := []) (by kernel_rfl) (annsOk_nil _ _)
    (fun d => (by kernel_rfl : evBody Try.prog (calT Try.prog (eac_Parts_c1_tab F) _) (qcalT (eac_Parts_c1_tab F) _) (annOf []) 71 (bldS 3 (eac_Parts_c1_told F).ins d).tmps (bldS 3 (eac_Parts_c1_told F).ins d).heap (fun l H' => exO H' (eac_Parts_c1_told F).os l []) = eac_Parts_c1 F d.1 d.2.1 d.2.2.1)) rfl

def eac_Parts_tab (F : Nat) : List ToldF := [eac_at_told F, eac_Parts_c1_told F]
theorem eac_Parts_all (F : Nat) : AllOk Try.prog (eac_Parts_tab F) := ⟨eac_at_ok F, ⟨eac_Parts_c1_ok F, trivial⟩⟩

abbrev eac_Parts_l0_ins : List Go.AE.Item := [.row .u8 1 (.pcell 1 0) false, .segs [.sl 0 1 .whole] (.ptr 1) true, .ptr 1 1 1, .segs [.hole (.is .i64 16)] (.ptr 5) true, .ptr 5 2 16, .segs [.hole (.is .i64 16)] (.ptr 7) true, .ptr 7 3 16, .slot 15 (.int .i64), .fn 8 71 [.ptr 1 1]]
abbrev eac_Parts_l0_outs : List Go.AE.Item := [.row .u8 1 (.pcell 1 0) false, .segs [.sl 0 1 .whole] (.ptr 1) true, .ptr 1 1 1, .segs [.hole (.is .i64 16)] (.ptr 5) true, .ptr 5 2 16, .segs [.hole (.is .i64 16)] (.ptr 7) true, .ptr 7 3 16, .fn 8 71 [.ptr 1 1]]
def eac_Parts_l0_ann (F : Nat) {ρ : Type} : Ann ρ := annS 32 eac_Parts_l0_ins eac_Parts_l0_outs fun d => eac_Parts_l0 F F d.1 d.2.1 d.2.2.1 d.2.2.2.1
theorem eac_Parts_l0_ok (F : Nat) {ρ : Type} (B : Nat) (w : World) : AnnAt (ρ := ρ) Try.prog false B w (.block 0 (.loop (loopAt (bodyOf Try.f35) 0))) (eac_Parts_l0_ann F) :=
  toldS_ok callable (eac_Parts_all F) (ins := eac_Parts_l0_ins) (outs := eac_Parts_l0_outs) (anns := []) (L := fun k d => eac_Parts_l0 F k d.1 d.2.1 d.2.2.1 d.2.2.2.1) (annsOk_nil _ _) (fun d => rfl)
    (fun k d => (by kernel_rfl : evCode Try.prog (calT Try.prog (eac_Parts_tab F) _) (qcalT (eac_Parts_tab F) _) (annOf []) (loopAt (bodyOf Try.f35) 0) (bldS 32 eac_Parts_l0_ins d) (kS 32 eac_Parts_l0_ins eac_Parts_l0_outs 0 fun d => eac_Parts_l0 F k d.1 d.2.1 d.2.2.1 d.2.2.2.1) = eac_Parts_l0S F (eac_Parts_l0 F k) d.1 d.2.1 d.2.2.1 d.2.2.2.1)) F B w

def eac_Parts_told (F : Nat) : ToldF := ⟨35, 1, [.row .u8 1 (.slot 0) false], [.ty (.int .i64), .ty (.int .i64), .ty (.int .i64), .ty (.is .i64 16), .ty (.int .i64)], fun d => eac_Parts F d.1⟩
theorem eac_Parts_ok (F : Nat) : (eac_Parts_told F).ok Try.prog :=
  toldF_ok callable (eac_Parts_all F) (fn := Try.f35) (t := eac_Parts_told F) (anns := [(0, eac_Parts_l0_ann F)]) (by kernel_rfl) (annsOk_cons (by kernel_rfl) (fun B w => eac_Parts_l0_ok F B w) (annsOk_nil _ _))
    (fun d => (by kernel_rfl : evBody Try.prog (calT Try.prog (eac_Parts_tab F) _) (qcalT (eac_Parts_tab F) _) (annOf [(0, eac_Parts_l0_ann F)]) 35 (bldS 1 (eac_Parts_told F).ins d).tmps (bldS 1 (eac_Parts_told F).ins d).heap (fun l H' => exO H' (eac_Parts_told F).os l []) = eac_Parts F d.1)) rfl

def eac_Table_tab (F : Nat) : List ToldF := []
theorem eac_Table_all (F : Nat) : AllOk Try.prog (eac_Table_tab F) := trivial

def eac_Table_told (F : Nat) : ToldF := ⟨70, 1, [.slot 0 (.int .i64)], [.ty (.is .i64 8)], fun d => eac_Table F d.1⟩
theorem eac_Table_ok (F : Nat) : (eac_Table_told F).ok Try.prog :=
  toldF_ok callable (eac_Table_all F) (fn := Try.f70) (t := eac_Table_told F) (anns := []) (by kernel_rfl) (annsOk_nil _ _)
    (fun d => (by kernel_rfl : evBody Try.prog (calT Try.prog (eac_Table_tab F) _) (qcalT (eac_Table_tab F) _) (annOf []) 70 (bldS 1 (eac_Table_told F).ins d).tmps (bldS 1 (eac_Table_told F).ins d).heap (fun l H' => exO H' (eac_Table_told F).os l []) = eac_Table F d.1)) rfl

def level_Clamp_tab (F : Nat) : List ToldF := []
theorem level_Clamp_all (F : Nat) : AllOk Try.prog (level_Clamp_tab F) := trivial

def level_Clamp_told (F : Nat) : ToldF := ⟨84, 2, [.slot 0 (.int .i64), .slot 1 (.int .i64)], [.ty (.int .i64)], fun d => level_Clamp F d.1 d.2.1⟩
theorem level_Clamp_ok (F : Nat) : (level_Clamp_told F).ok Try.prog :=
  toldF_ok callable (level_Clamp_all F) (fn := Try.f84) (t := level_Clamp_told F) (anns := []) (by kernel_rfl) (annsOk_nil _ _)
    (fun d => (by kernel_rfl : evBody Try.prog (calT Try.prog (level_Clamp_tab F) _) (qcalT (level_Clamp_tab F) _) (annOf []) 84 (bldS 2 (level_Clamp_told F).ins d).tmps (bldS 2 (level_Clamp_told F).ins d).heap (fun l H' => exO H' (level_Clamp_told F).os l []) = level_Clamp F d.1 d.2.1)) rfl

def eac_Value_tab (F : Nat) : List ToldF := [level_Clamp_told F]
theorem eac_Value_all (F : Nat) : AllOk Try.prog (eac_Value_tab F) := ⟨level_Clamp_ok F, trivial⟩

def eac_Value_told (F : Nat) : ToldF := ⟨69, 4, [.slot 0 (.int .i64), .slot 1 (.int .i64), .slot 2 (.int .i64), .slot 3 (.bool)], [.ty (.int .i64)], fun d => eac_Value F d.1 d.2.1 d.2.2.1 d.2.2.2.1⟩
theorem eac_Value_ok (F : Nat) : (eac_Value_told F).ok Try.prog :=
  toldF_ok callable (eac_Value_all F) (fn := Try.f69) (t := eac_Value_told F) (anns := []) (by kernel_rfl) (annsOk_nil _ _)
    (fun d => (by kernel_rfl : evBody Try.prog (calT Try.prog (eac_Value_tab F) _) (qcalT (eac_Value_tab F) _) (annOf []) 69 (bldS 4 (eac_Value_told F).ins d).tmps (bldS 4 (eac_Value_told F).ins d).heap (fun l H' => exO H' (eac_Value_told F).os l []) = eac_Value F d.1 d.2.1 d.2.2.1 d.2.2.2.1)) rfl

def eac_Decode_tab (F : Nat) : List ToldF := [eac_Value_told F, eac_Table_told F, eac_Parts_told F]
theorem eac_Decode_all (F : Nat) : AllOk Try.prog (eac_Decode_tab F) := ⟨eac_Value_ok F, ⟨eac_Table_ok F, ⟨eac_Parts_ok F, trivial⟩⟩⟩

abbrev eac_Decode_l0_ins : List Go.AE.Item := [.slot 1 (.bool), .segs [.hole (.is .i64 16)] (.ptr 4) true, .ptr 4 0 16, .slot 6 (.int .i64), .slot 7 (.int .i64), .segs [.hole (.is .i64 16)] (.ptr 9) true, .ptr 9 1 16, .segs [.hole (.is .i64 8)] (.ptr 11) true, .ptr 11 2 8, .slot 28 (.is .i64 16), .slot 29 (.int .i64)]
abbrev eac_Decode_l0_outs : List Go.AE.Item := [.segs [.hole (.is .i64 16)] (.ptr 4) true, .ptr 4 0 16, .segs [.hole (.is .i64 16)] (.ptr 9) true, .ptr 9 1 16]
def eac_Decode_l0_ann (F : Nat) {ρ : Type} : Ann ρ := annS 44 eac_Decode_l0_ins eac_Decode_l0_outs fun d => eac_Decode_l0 F F d.1 d.2.1 d.2.2.1 d.2.2.2.1 d.2.2.2.2.1 d.2.2.2.2.2.1 d.2.2.2.2.2.2.1 d.2.2.2.2.2.2.2.1
theorem eac_Decode_l0_ok (F : Nat) {ρ : Type} (B : Nat) (w : World) : AnnAt (ρ := ρ) Try.prog false B w (.block 0 (.loop (loopAt (bodyOf Try.f37) 0))) (eac_Decode_l0_ann F) :=
  toldS_ok callable (eac_Decode_all F) (ins := eac_Decode_l0_ins) (outs := eac_Decode_l0_outs) (anns := []) (L := fun k d => eac_Decode_l0 F k d.1 d.2.1 d.2.2.1 d.2.2.2.1 d.2.2.2.2.1 d.2.2.2.2.2.1 d.2.2.2.2.2.2.1 d.2.2.2.2.2.2.2.1) (annsOk_nil _ _) (fun d => rfl)
    (fun k d => (by kernel_rfl : evCode Try.prog (calT Try.prog (eac_Decode_tab F) _) (qcalT (eac_Decode_tab F) _) (annOf []) (loopAt (bodyOf Try.f37) 0) (bldS 44 eac_Decode_l0_ins d) (kS 44 eac_Decode_l0_ins eac_Decode_l0_outs 0 fun d => eac_Decode_l0 F k d.1 d.2.1 d.2.2.1 d.2.2.2.1 d.2.2.2.2.1 d.2.2.2.2.2.1 d.2.2.2.2.2.2.1 d.2.2.2.2.2.2.2.1) = eac_Decode_l0S F (eac_Decode_l0 F k) d.1 d.2.1 d.2.2.1 d.2.2.2.1 d.2.2.2.2.1 d.2.2.2.2.2.1 d.2.2.2.2.2.2.1 d.2.2.2.2.2.2.2.1)) F B w

def eac_Decode_told (F : Nat) : ToldF := ⟨37, 2, [.row .u8 1 (.slot 0) false, .slot 1 (.bool)], [.ty (.is .i64 16), .ty (.int .i64)], fun d => eac_Decode F d.1 d.2.1⟩
theorem eac_Decode_ok (F : Nat) : (eac_Decode_told F).ok Try.prog :=
  toldF_ok callable (eac_Decode_all F) (fn := Try.f37) (t := eac_Decode_told F) (anns := [(0, eac_Decode_l0_ann F)]) (by kernel_rfl) (annsOk_cons (by kernel_rfl) (fun B w => eac_Decode_l0_ok F B w) (annsOk_nil _ _))
    (fun d => (by kernel_rfl : evBody Try.prog (calT Try.prog (eac_Decode_tab F) _) (qcalT (eac_Decode_tab F) _) (annOf [(0, eac_Decode_l0_ann F)]) 37 (bldS 2 (eac_Decode_told F).ins d).tmps (bldS 2 (eac_Decode_told F).ins d).heap (fun l H' => exO H' (eac_Decode_told F).os l []) = eac_Decode F d.1 d.2.1)) rfl

def law12_awake_tab (F : Nat) : List ToldF := [eac_Table_told F, eac_Value_told F, eac_Decode_told F, eac_Join_told F]
theorem law12_awake_all (F : Nat) : AllOk Try.prog (law12_awake_tab F) := ⟨eac_Table_ok F, ⟨eac_Value_ok F, ⟨eac_Decode_ok F, ⟨eac_Join_ok F, trivial⟩⟩⟩⟩

def law12_awake_told (F : Nat) : ToldF := ⟨34, 0, [], [.ty (.bool)], fun d => law12_awake F⟩
theorem law12_awake_ok (F : Nat) : (law12_awake_told F).ok Try.prog :=
  toldF_ok callable (law12_awake_all F) (fn := Try.f34) (t := law12_awake_told F) (anns := []) (by kernel_rfl) (annsOk_nil _ _)
    (fun d => (by kernel_rfl : evBody Try.prog (calT Try.prog (law12_awake_tab F) _) (qcalT (law12_awake_tab F) _) (annOf []) 34 (bldS 0 (law12_awake_told F).ins d).tmps (bldS 0 (law12_awake_told F).ins d).heap (fun l H' => exO H' (law12_awake_told F).os l []) = law12_awake F)) rfl

def law12_EacBack_tab (F : Nat) : List ToldF := [ref01_Same_told F, eac_Join_told F, eac_Parts_told F, law12_awake_told F]
theorem law12_EacBack_all (F : Nat) : AllOk Try.prog (law12_EacBack_tab F) := ⟨ref01_Same_ok F, ⟨eac_Join_ok F, ⟨eac_Parts_ok F, ⟨law12_awake_ok F, trivial⟩⟩⟩⟩

def law12_EacBack_told (F : Nat) : ToldF := ⟨9, 1, [.row .u8 1 (.slot 0) false], [.ty (.bool)], fun d => law12_EacBack F d.1⟩
theorem law12_EacBack_ok (F : Nat) : (law12_EacBack_told F).ok Try.prog :=
  toldF_ok callable (law12_EacBack_all F) (fn := Try.f9) (t := law12_EacBack_told F) (anns := []) (by kernel_rfl) (annsOk_nil _ _)
    (fun d => (by kernel_rfl : evBody Try.prog (calT Try.prog (law12_EacBack_tab F) _) (qcalT (law12_EacBack_tab F) _) (annOf []) 9 (bldS 1 (law12_EacBack_told F).ins d).tmps (bldS 1 (law12_EacBack_told F).ins d).heap (fun l H' => exO H' (law12_EacBack_told F).os l []) = law12_EacBack F d.1)) rfl

def law12_EacRises_tab (F : Nat) : List ToldF := [eac_Decode_told F, eac_Join_told F, eac_Parts_told F, law12_awake_told F]
theorem law12_EacRises_all (F : Nat) : AllOk Try.prog (law12_EacRises_tab F) := ⟨eac_Decode_ok F, ⟨eac_Join_ok F, ⟨eac_Parts_ok F, ⟨law12_awake_ok F, trivial⟩⟩⟩⟩

abbrev law12_EacRises_l0_ins : List Go.AE.Item := [.slot 2 (.bool), .slot 7 (.bool), .slot 8 (.int .i64), .slot 9 (.int .i64), .segs [.hole (.is .i64 16)] (.ptr 13) true, .ptr 13 0 16, .slot 14 (.int .i64), .slot 16 (.int .i64), .segs [.hole (.is .i64 16)] (.ptr 17) true, .ptr 17 1 16, .slot 18 (.int .i64), .slot 19 (.int .i64), .slot 20 (.int .i64)]
abbrev law12_EacRises_l0_outs : List Go.AE.Item := [.slot 7 (.bool), .slot 14 (.int .i64), .slot 16 (.int .i64), .slot 18 (.int .i64)]
abbrev law12_EacRises_l0_outX : List Go.AE.Item := [.const 6 (.bool (some false) false)]
def law12_EacRises_l0_ann (F : Nat) {ρ : Type} : Ann ρ := annX 118 law12_EacRises_l0_ins law12_EacRises_l0_outX law12_EacRises_l0_outs .ret fun d => law12_EacRises_l0 F F d.1 d.2.1 d.2.2.1 d.2.2.2.1 d.2.2.2.2.1 d.2.2.2.2.2.1 d.2.2.2.2.2.2.1 d.2.2.2.2.2.2.2.1 d.2.2.2.2.2.2.2.2.1 d.2.2.2.2.2.2.2.2.2.1 d.2.2.2.2.2.2.2.2.2.2.1
theorem law12_EacRises_l0_ok (F : Nat) {ρ : Type} (B : Nat) (w : World) : AnnAt (ρ := ρ) Try.prog false B w (.block 0 (.loop (loopAt (bodyOf Try.f10) 0))) (law12_EacRises_l0_ann F) :=
  toldX_ok callable (law12_EacRises_all F) (ins := law12_EacRises_l0_ins) (outX := law12_EacRises_l0_outX) (outs := law12_EacRises_l0_outs) (anns := []) (L := fun k d => law12_EacRises_l0 F k d.1 d.2.1 d.2.2.1 d.2.2.2.1 d.2.2.2.2.1 d.2.2.2.2.2.1 d.2.2.2.2.2.2.1 d.2.2.2.2.2.2.2.1 d.2.2.2.2.2.2.2.2.1 d.2.2.2.2.2.2.2.2.2.1 d.2.2.2.2.2.2.2.2.2.2.1) (annsOk_nil _ _) (fun d => rfl)
    (fun k d => (by kernel_rfl : evCode Try.prog (calT Try.prog (law12_EacRises_tab F) _) (qcalT (law12_EacRises_tab F) _) (annOf []) (loopAt (bodyOf Try.f10) 0) (bldS 118 law12_EacRises_l0_ins d) (kX 118 law12_EacRises_l0_ins law12_EacRises_l0_outX law12_EacRises_l0_outs 0 .ret fun d => law12_EacRises_l0 F k d.1 d.2.1 d.2.2.1 d.2.2.2.1 d.2.2.2.2.1 d.2.2.2.2.2.1 d.2.2.2.2.2.2.1 d.2.2.2.2.2.2.2.1 d.2.2.2.2.2.2.2.2.1 d.2.2.2.2.2.2.2.2.2.1 d.2.2.2.2.2.2.2.2.2.2.1) = law12_EacRises_l0S F (law12_EacRises_l0 F k) d.1 d.2.1 d.2.2.1 d.2.2.2.1 d.2.2.2.2.1 d.2.2.2.2.2.1 d.2.2.2.2.2.2.1 d.2.2.2.2.2.2.2.1 d.2.2.2.2.2.2.2.2.1 d.2.2.2.2.2.2.2.2.2.1 d.2.2.2.2.2.2.2.2.2.2.1)) (by first | exact .inl rfl | exact .inr ⟨_, rfl, by decide⟩) F B w

def law12_EacRises_told (F : Nat) : ToldF := ⟨10, 3, [.row .u8 1 (.slot 0) false, .slot 1 (.int .i64), .slot 2 (.bool)], [.ty (.bool)], fun d => law12_EacRises F d.1 d.2.1 d.2.2.1⟩
theorem law12_EacRises_ok (F : Nat) : (law12_EacRises_told F).ok Try.prog :=
  toldF_ok callable (law12_EacRises_all F) (fn := Try.f10) (t := law12_EacRises_told F) (anns := [(0, law12_EacRises_l0_ann F)]) (by kernel_rfl) (annsOk_cons (by kernel_rfl) (fun B w => law12_EacRises_l0_ok F B w) (annsOk_nil _ _))
    (fun d => (by kernel_rfl : evBody Try.prog (calT Try.prog (law12_EacRises_tab F) _) (qcalT (law12_EacRises_tab F) _) (annOf [(0, law12_EacRises_l0_ann F)]) 10 (bldS 3 (law12_EacRises_told F).ins d).tmps (bldS 3 (law12_EacRises_told F).ins d).heap (fun l H' => exO H' (law12_EacRises_told F).os l []) = law12_EacRises F d.1 d.2.1 d.2.2.1)) rfl

end Go.Proofs.Ytjmdnghdbfmijaa

/- Printed by a program of mine (gen.py): the Go functions of this part come to what is told. -/
import Derived.Test.YtaogfbhifeobmaaRows
import Derived.KernelRfl
import Derived.Test.YtaogfbhifeobmaaE13defs
set_option linter.unusedSimpArgs false
set_option maxRecDepth 100000
set_option linter.unusedVariables false
namespace Go.Proofs.Ytaogfbhifeobmaa
open Go Go.AE Go.AE.Gn
theorem callable : Callable Try.prog := callable_of (by kernel_rfl)
def format_Of_tab (F : Nat) : List ToldF := []
theorem format_Of_all (F : Nat) : AllOk Try.prog (format_Of_tab F) := trivial

def format_Of_told (F : Nat) : ToldF := ⟨7, 1, [.slot 0 (.int .i64)], [.ty (.agg [.int .i64, .int .i64, .bool]), .ty (.int .i64)], u1 (format_Of F)⟩
theorem format_Of_ok (F : Nat) : (format_Of_told F).ok Try.prog :=
  okF callable (format_Of_all F) (fn := Try.f7) [] (by kernel_rfl) aN fun d => by kernel_rfl

def bits_room_tab (F : Nat) : List ToldF := []
theorem bits_room_all (F : Nat) : AllOk Try.prog (bits_room_tab F) := trivial

def bits_room_told (F : Nat) : ToldF := ⟨58, 3, [.row .u8 1 (.slot 0) false, .slot 1 (.int .i64), .slot 2 (.int .i64)], [.ty (.bool)], u3 (bits_room F)⟩
theorem bits_room_ok (F : Nat) : (bits_room_told F).ok Try.prog :=
  okF callable (bits_room_all F) (fn := Try.f58) [] (by kernel_rfl) aN fun d => by kernel_rfl

def bits_check_tab (F : Nat) : List ToldF := [bits_room_told F]
theorem bits_check_all (F : Nat) : AllOk Try.prog (bits_check_tab F) := ⟨bits_room_ok F, trivial⟩

def bits_check_told (F : Nat) : ToldF := ⟨85, 3, [.row .u8 1 (.slot 0) false, .slot 1 (.int .i64), .slot 2 (.int .i64)], [.ty (.int .i64)], u3 (bits_check F)⟩
theorem bits_check_ok (F : Nat) : (bits_check_told F).ok Try.prog :=
  okF callable (bits_check_all F) (fn := Try.f85) [] (by kernel_rfl) aN fun d => by kernel_rfl

def bits_spread_tab (F : Nat) : List ToldF := []
theorem bits_spread_all (F : Nat) : AllOk Try.prog (bits_spread_tab F) := trivial

def bits_spread_l0t (F : Nat) : TL := ⟨17, [.slot 0 (.int .u8), .segs [.hole (.is .u64 8)] (.slot 2) true, .ptr 2 1 8, .segs [.hole (.is .u64 8)] (.slot 3) true, .ptr 3 2 8, .slot 5 (.int .i64)], [.segs [.hole (.is .u64 8)] (.slot 2) true, .ptr 2 1 8, .segs [.hole (.is .u64 8)] (.slot 3) true, .ptr 3 2 8], 0, fun k => u4 (bits_spread_l0 F k), fun k => u4 (bits_spread_l0S F (bits_spread_l0 F k))⟩
theorem bits_spread_l0k (F : Nat) : (bits_spread_l0t F).ok Try.prog Try.f97 F :=
  okL callable (bits_spread_all F) [] aN (fun _ => rfl) (fun _ _ => rfl) fun k d => by kernel_rfl

def bits_spread_told (F : Nat) : ToldF := ⟨97, 1, [.slot 0 (.int .u8)], [.ty (.is .u64 8)], u1 (bits_spread F)⟩
theorem bits_spread_ok (F : Nat) : (bits_spread_told F).ok Try.prog :=
  okF callable (bits_spread_all F) (fn := Try.f97) [(0, (bits_spread_l0t F).ann F)] (by kernel_rfl) (aL (by kernel_rfl) (bits_spread_l0k F) aN) fun d => by kernel_rfl

def bits_low_tab (F : Nat) : List ToldF := [bits_spread_told F]
theorem bits_low_all (F : Nat) : AllOk Try.prog (bits_low_tab F) := ⟨bits_spread_ok F, trivial⟩

def bits_low_told (F : Nat) : ToldF := ⟨87, 2, [.row .u8 1 (.slot 0) false, .slot 1 (.int .i64)], [.ty (.int .u64)], u2 (bits_low F)⟩
theorem bits_low_ok (F : Nat) : (bits_low_told F).ok Try.prog :=
  okF callable (bits_low_all F) (fn := Try.f87) [] (by kernel_rfl) aN fun d => by kernel_rfl

def bits_Low_tab (F : Nat) : List ToldF := [bits_check_told F, bits_low_told F]
theorem bits_Low_all (F : Nat) : AllOk Try.prog (bits_Low_tab F) := ⟨bits_check_ok F, bits_low_ok F, trivial⟩

def bits_Low_l0t (F : Nat) : TX := ⟨34, [.row .u8 1 (.slot 0) false, .slot 1 (.int .i64), .slot 8 (.int .i64), .slot 9 (.int .u64), .slot 15 (.int .i64), .slot 16 (.int .i64)], [.const 6 (.int .u64 (some 0) 0), .slot 7 (.int .i64)], [.slot 8 (.int .i64), .slot 9 (.int .u64)], .ret, 0, fun k => u6 (bits_Low_l0 F k), fun k => u6 (bits_Low_l0S F (bits_Low_l0 F k))⟩
theorem bits_Low_l0k (F : Nat) : (bits_Low_l0t F).ok Try.prog Try.f59 F :=
  okX callable (bits_Low_all F) [] aN (fun _ => rfl) (fun _ _ => rfl) (eR rfl) fun k d => by kernel_rfl

def bits_Low_told (F : Nat) : ToldF := ⟨59, 3, [.row .u8 1 (.slot 0) false, .slot 1 (.int .i64), .slot 2 (.int .i64)], [.ty (.int .u64), .ty (.int .i64)], u3 (bits_Low F)⟩
theorem bits_Low_ok (F : Nat) : (bits_Low_told F).ok Try.prog :=
  okF callable (bits_Low_all F) (fn := Try.f59) [(0, (bits_Low_l0t F).ann F)] (by kernel_rfl) (aX (by kernel_rfl) (bits_Low_l0k F) aN) fun d => by kernel_rfl

def bits_Lows_tab (F : Nat) : List ToldF := [bits_room_told F, bits_Low_told F]
theorem bits_Lows_all (F : Nat) : AllOk Try.prog (bits_Lows_tab F) := ⟨bits_room_ok F, bits_Low_ok F, trivial⟩

def bits_Lows_l1t (F : Nat) : TL := ⟨63, [.row .u8 1 (.slot 0) false, .slot 1 (.int .i64), .slot 2 (.int .i64), .row .i64 1 (.slot 10) true, .slot 41 (.int .i64), .slot 42 (.int .i64)], [.row .i64 1 (.slot 10) true], 1, fun k => u6 (bits_Lows_l1 F k), fun k => u6 (bits_Lows_l1S F (bits_Lows_l1 F k))⟩
theorem bits_Lows_l1k (F : Nat) : (bits_Lows_l1t F).ok Try.prog Try.f38 F :=
  okL callable (bits_Lows_all F) [] aN (fun _ => rfl) (fun _ _ => rfl) fun k d => by kernel_rfl

def bits_Lows_told (F : Nat) : ToldF := ⟨38, 4, [.row .u8 1 (.slot 0) false, .slot 1 (.int .i64), .slot 2 (.int .i64), .slot 3 (.int .i64)], [.row .i64 1, .ty (.int .i64)], u4 (bits_Lows F)⟩
theorem bits_Lows_ok (F : Nat) : (bits_Lows_told F).ok Try.prog :=
  okF callable (bits_Lows_all F) (fn := Try.f38) [(1, (bits_Lows_l1t F).ann F)] (by kernel_rfl) (aL (by kernel_rfl) (bits_Lows_l1k F) aN) fun d => by kernel_rfl

def level_odd_tab (F : Nat) : List ToldF := []
theorem level_odd_all (F : Nat) : AllOk Try.prog (level_odd_tab F) := trivial

def level_odd_told (F : Nat) : ToldF := ⟨60, 1, [.slot 0 (.int .i64)], [.ty (.bool)], u1 (level_odd F)⟩
theorem level_odd_ok (F : Nat) : (level_odd_told F).ok Try.prog :=
  okF callable (level_odd_all F) (fn := Try.f60) [] (by kernel_rfl) aN fun d => by kernel_rfl

def level_Wide_tab (F : Nat) : List ToldF := [level_odd_told F]
theorem level_Wide_all (F : Nat) : AllOk Try.prog (level_Wide_tab F) := ⟨level_odd_ok F, trivial⟩

def level_Wide_l0t (F : Nat) : TL := ⟨28, [.slot 0 (.int .i64), .slot 1 (.int .i64), .slot 5 (.int .i64), .slot 6 (.int .i64)], [.slot 5 (.int .i64), .slot 6 (.int .i64)], 0, fun k => u4 (level_Wide_l0 F k), fun k => u4 (level_Wide_l0S F (level_Wide_l0 F k))⟩
theorem level_Wide_l0k (F : Nat) : (level_Wide_l0t F).ok Try.prog Try.f39 F :=
  okL callable (level_Wide_all F) [] aN (fun _ => rfl) (fun _ _ => rfl) fun k d => by kernel_rfl

def level_Wide_told (F : Nat) : ToldF := ⟨39, 2, [.slot 0 (.int .i64), .slot 1 (.int .i64)], [.ty (.int .i64)], u2 (level_Wide F)⟩
theorem level_Wide_ok (F : Nat) : (level_Wide_told F).ok Try.prog :=
  okF callable (level_Wide_all F) (fn := Try.f39) [(0, (level_Wide_l0t F).ann F)] (by kernel_rfl) (aL (by kernel_rfl) (level_Wide_l0k F) aN) fun d => by kernel_rfl

def bcfour_Fours_tab (F : Nat) : List ToldF := [bits_Lows_told F, level_Wide_told F]
theorem bcfour_Fours_all (F : Nat) : AllOk Try.prog (bcfour_Fours_tab F) := ⟨bits_Lows_ok F, level_Wide_ok F, trivial⟩

def bcfour_Fours_l0t (F : Nat) : TL := ⟨29, [.segs [.hole (.is .i64 16)] (.slot 2) true, .ptr 2 1 16, .segs [.hole (.is .i64 16)] (.slot 4) true, .ptr 4 2 16, .row .i64 1 (.slot 5) true, .slot 17 (.int .i64)], [.segs [.hole (.is .i64 16)] (.slot 2) true, .ptr 2 1 16, .segs [.hole (.is .i64 16)] (.slot 4) true, .ptr 4 2 16], 0, fun k => u4 (bcfour_Fours_l0 F k), fun k => u4 (bcfour_Fours_l0S F (bcfour_Fours_l0 F k))⟩
theorem bcfour_Fours_l0k (F : Nat) : (bcfour_Fours_l0t F).ok Try.prog Try.f25 F :=
  okL callable (bcfour_Fours_all F) [] aN (fun _ => rfl) (fun _ _ => rfl) fun k d => by kernel_rfl

def bcfour_Fours_told (F : Nat) : ToldF := ⟨25, 1, [.row .u8 1 (.slot 0) false], [.ty (.is .i64 16), .ty (.int .i64)], u1 (bcfour_Fours F)⟩
theorem bcfour_Fours_ok (F : Nat) : (bcfour_Fours_told F).ok Try.prog :=
  okF callable (bcfour_Fours_all F) (fn := Try.f25) [(0, (bcfour_Fours_l0t F).ann F)] (by kernel_rfl) (aL (by kernel_rfl) (bcfour_Fours_l0k F) aN) fun d => by kernel_rfl

def bcone_Parts_tab (F : Nat) : List ToldF := [bits_Lows_told F]
theorem bcone_Parts_all (F : Nat) : AllOk Try.prog (bcone_Parts_tab F) := ⟨bits_Lows_ok F, trivial⟩

def bcone_Parts_told (F : Nat) : ToldF := ⟨40, 1, [.row .u8 1 (.slot 0) false], [.ty (.int .i64), .ty (.int .i64), .ty (.is .i64 16), .ty (.int .i64)], u1 (bcone_Parts F)⟩
theorem bcone_Parts_ok (F : Nat) : (bcone_Parts_told F).ok Try.prog :=
  okF callable (bcone_Parts_all F) (fn := Try.f40) [] (by kernel_rfl) aN fun d => by kernel_rfl

def bcone_Colour_tab (F : Nat) : List ToldF := [level_Wide_told F]
theorem bcone_Colour_all (F : Nat) : AllOk Try.prog (bcone_Colour_tab F) := ⟨level_Wide_ok F, trivial⟩

def bcone_Colour_told (F : Nat) : ToldF := ⟨61, 1, [.slot 0 (.int .i64)], [.ty (.is .i64 4)], u1 (bcone_Colour F)⟩
theorem bcone_Colour_ok (F : Nat) : (bcone_Colour_told F).ok Try.prog :=
  okF callable (bcone_Colour_all F) (fn := Try.f61) [] (by kernel_rfl) aN fun d => by kernel_rfl

def level_Mix_tab (F : Nat) : List ToldF := []
theorem level_Mix_all (F : Nat) : AllOk Try.prog (level_Mix_tab F) := trivial

def level_Mix_told (F : Nat) : ToldF := ⟨57, 5, [.slot 0 (.int .i64), .slot 1 (.int .i64), .slot 2 (.int .i64), .slot 3 (.int .i64), .slot 4 (.int .i64)], [.ty (.int .i64)], u5 (level_Mix F)⟩
theorem level_Mix_ok (F : Nat) : (level_Mix_told F).ok Try.prog :=
  okF callable (level_Mix_all F) (fn := Try.f57) [] (by kernel_rfl) aN fun d => by kernel_rfl

def bcone_between_tab (F : Nat) : List ToldF := [level_Mix_told F]
theorem bcone_between_all (F : Nat) : AllOk Try.prog (bcone_between_tab F) := ⟨level_Mix_ok F, trivial⟩

def bcone_between_l0t (F : Nat) : TL := ⟨28, [.slot 2 (.int .i64), .slot 3 (.int .i64), .segs [.hole (.is .i64 4)] (.slot 4) true, .ptr 4 1 4, .segs [.hole (.is .i64 4)] (.slot 5) true, .ptr 5 2 4, .segs [.hole (.is .i64 4)] (.slot 8) true, .ptr 8 3 4, .segs [.hole (.is .i64 4)] (.slot 9) true, .ptr 9 4 4, .slot 12 (.int .i64)], [.segs [.hole (.is .i64 4)] (.slot 8) true, .ptr 8 1 4, .segs [.hole (.is .i64 4)] (.slot 9) true, .ptr 9 2 4], 0, fun k => u7 (bcone_between_l0 F k), fun k => u7 (bcone_between_l0S F (bcone_between_l0 F k))⟩
theorem bcone_between_l0k (F : Nat) : (bcone_between_l0t F).ok Try.prog Try.f62 F :=
  okL callable (bcone_between_all F) [] aN (fun _ => rfl) (fun _ _ => rfl) fun k d => by kernel_rfl

def bcone_between_told (F : Nat) : ToldF := ⟨62, 4, [.slot 0 (.is .i64 4), .slot 1 (.is .i64 4), .slot 2 (.int .i64), .slot 3 (.int .i64)], [.ty (.is .i64 4)], u4 (bcone_between F)⟩
theorem bcone_between_ok (F : Nat) : (bcone_between_told F).ok Try.prog :=
  okF callable (bcone_between_all F) (fn := Try.f62) [(0, (bcone_between_l0t F).ann F)] (by kernel_rfl) (aL (by kernel_rfl) (bcone_between_l0k F) aN) fun d => by kernel_rfl

def bcone_Palette_tab (F : Nat) : List ToldF := [bcone_Colour_told F, bcone_between_told F]
theorem bcone_Palette_all (F : Nat) : AllOk Try.prog (bcone_Palette_tab F) := ⟨bcone_Colour_ok F, bcone_between_ok F, trivial⟩

def bcone_Palette_told (F : Nat) : ToldF := ⟨41, 3, [.slot 0 (.int .i64), .slot 1 (.int .i64), .slot 2 (.bool)], [.ty (.is .i64 16)], u3 (bcone_Palette F)⟩
theorem bcone_Palette_ok (F : Nat) : (bcone_Palette_told F).ok Try.prog :=
  okF callable (bcone_Palette_all F) (fn := Try.f41) [] (by kernel_rfl) aN fun d => by kernel_rfl

def bcone_Decode_tab (F : Nat) : List ToldF := [bcone_Parts_told F, bcone_Palette_told F]
theorem bcone_Decode_all (F : Nat) : AllOk Try.prog (bcone_Decode_tab F) := ⟨bcone_Parts_ok F, bcone_Palette_ok F, trivial⟩

def bcone_Decode_l0t (F : Nat) : TL := ⟨41, [.segs [.hole (.is .i64 64)] (.slot 4) true, .ptr 4 1 64, .segs [.hole (.is .i64 64)] (.slot 6) true, .ptr 6 2 64, .segs [.hole (.is .i64 16)] (.slot 11) true, .ptr 11 3 16, .slot 29 (.is .i64 16), .slot 30 (.int .i64)], [.segs [.hole (.is .i64 64)] (.slot 4) true, .ptr 4 1 64, .segs [.hole (.is .i64 64)] (.slot 6) true, .ptr 6 2 64], 0, fun k => u5 (bcone_Decode_l0 F k), fun k => u5 (bcone_Decode_l0S F (bcone_Decode_l0 F k))⟩
theorem bcone_Decode_l0k (F : Nat) : (bcone_Decode_l0t F).ok Try.prog Try.f27 F :=
  okL callable (bcone_Decode_all F) [] aN (fun _ => rfl) (fun _ _ => rfl) fun k d => by kernel_rfl

def bcone_Decode_told (F : Nat) : ToldF := ⟨27, 2, [.row .u8 1 (.slot 0) false, .slot 1 (.bool)], [.ty (.is .i64 64), .ty (.int .i64)], u2 (bcone_Decode F)⟩
theorem bcone_Decode_ok (F : Nat) : (bcone_Decode_told F).ok Try.prog :=
  okF callable (bcone_Decode_all F) (fn := Try.f27) [(0, (bcone_Decode_l0t F).ann F)] (by kernel_rfl) (aL (by kernel_rfl) (bcone_Decode_l0k F) aN) fun d => by kernel_rfl

def format_plain_tab (F : Nat) : List ToldF := []
theorem format_plain_all (F : Nat) : AllOk Try.prog (format_plain_tab F) := trivial

def format_plain_told (F : Nat) : ToldF := ⟨26, 2, [.slot 0 (.is .i64 64), .slot 1 (.int .i64)], [.ty (.is .i64 64)], u2 (format_plain F)⟩
theorem format_plain_ok (F : Nat) : (format_plain_told F).ok Try.prog :=
  okF callable (format_plain_all F) (fn := Try.f26) [] (by kernel_rfl) aN fun d => by kernel_rfl

def format_with_tab (F : Nat) : List ToldF := []
theorem format_with_all (F : Nat) : AllOk Try.prog (format_with_tab F) := trivial

def format_with_l0t (F : Nat) : TL := ⟨23, [.slot 1 (.int .i64), .segs [.hole (.is .i64 64)] (.slot 4) true, .ptr 4 1 64, .segs [.hole (.is .i64 64)] (.slot 8) true, .ptr 8 2 64, .slot 11 (.is .i64 16), .slot 12 (.int .i64)], [.segs [.hole (.is .i64 64)] (.slot 4) true, .ptr 4 1 64, .segs [.hole (.is .i64 64)] (.slot 8) true, .ptr 8 2 64], 0, fun k => u5 (format_with_l0 F k), fun k => u5 (format_with_l0S F (format_with_l0 F k))⟩
theorem format_with_l0k (F : Nat) : (format_with_l0t F).ok Try.prog Try.f24 F :=
  okL callable (format_with_all F) [] aN (fun _ => rfl) (fun _ _ => rfl) fun k d => by kernel_rfl

def format_with_told (F : Nat) : ToldF := ⟨24, 4, [.slot 0 (.is .i64 64), .slot 1 (.int .i64), .slot 2 (.is .i64 16), .slot 3 (.int .i64)], [.ty (.is .i64 64)], u4 (format_with F)⟩
theorem format_with_ok (F : Nat) : (format_with_told F).ok Try.prog :=
  okF callable (format_with_all F) (fn := Try.f24) [(0, (format_with_l0t F).ann F)] (by kernel_rfl) (aL (by kernel_rfl) (format_with_l0k F) aN) fun d => by kernel_rfl

def eac_at_tab (F : Nat) : List ToldF := []
theorem eac_at_all (F : Nat) : AllOk Try.prog (eac_at_tab F) := trivial

def eac_at_told (F : Nat) : ToldF := ⟨55, 1, [.slot 0 (.int .i64)], [.ty (.int .i64)], u1 (eac_at F)⟩
theorem eac_at_ok (F : Nat) : (eac_at_told F).ok Try.prog :=
  okF callable (eac_at_all F) (fn := Try.f55) [] (by kernel_rfl) aN fun d => by kernel_rfl

def bits_high_tab (F : Nat) : List ToldF := [bits_spread_told F]
theorem bits_high_all (F : Nat) : AllOk Try.prog (bits_high_tab F) := ⟨bits_spread_ok F, trivial⟩

def bits_high_told (F : Nat) : ToldF := ⟨86, 2, [.row .u8 1 (.slot 0) false, .slot 1 (.int .i64)], [.ty (.int .u64)], u2 (bits_high F)⟩
theorem bits_high_ok (F : Nat) : (bits_high_told F).ok Try.prog :=
  okF callable (bits_high_all F) (fn := Try.f86) [] (by kernel_rfl) aN fun d => by kernel_rfl

def bits_High_tab (F : Nat) : List ToldF := [bits_check_told F, bits_high_told F]
theorem bits_High_all (F : Nat) : AllOk Try.prog (bits_High_tab F) := ⟨bits_check_ok F, bits_high_ok F, trivial⟩

def bits_High_l0t (F : Nat) : TX := ⟨33, [.row .u8 1 (.slot 0) false, .slot 1 (.int .i64), .slot 8 (.int .i64), .slot 9 (.int .u64), .slot 15 (.int .i64), .slot 16 (.int .i64)], [.const 6 (.int .u64 (some 0) 0), .slot 7 (.int .i64)], [.slot 8 (.int .i64), .slot 9 (.int .u64)], .ret, 0, fun k => u6 (bits_High_l0 F k), fun k => u6 (bits_High_l0S F (bits_High_l0 F k))⟩
theorem bits_High_l0k (F : Nat) : (bits_High_l0t F).ok Try.prog Try.f54 F :=
  okX callable (bits_High_all F) [] aN (fun _ => rfl) (fun _ _ => rfl) (eR rfl) fun k d => by kernel_rfl

def bits_High_told (F : Nat) : ToldF := ⟨54, 3, [.row .u8 1 (.slot 0) false, .slot 1 (.int .i64), .slot 2 (.int .i64)], [.ty (.int .u64), .ty (.int .i64)], u3 (bits_High F)⟩
theorem bits_High_ok (F : Nat) : (bits_High_told F).ok Try.prog :=
  okF callable (bits_High_all F) (fn := Try.f54) [(0, (bits_High_l0t F).ann F)] (by kernel_rfl) (aX (by kernel_rfl) (bits_High_l0k F) aN) fun d => by kernel_rfl

def eac_Parts_c1_tab (F : Nat) : List ToldF := [bits_High_told F]
theorem eac_Parts_c1_all (F : Nat) : AllOk Try.prog (eac_Parts_c1_tab F) := ⟨bits_High_ok F, trivial⟩

def eac_Parts_c1_told (F : Nat) : ToldF := ⟨53, 3, [.slot 0 (.int .i64), .slot 1 (.int .i64), .row .u8 1 (.cell (.slot 2) 0) false, .segs [.sl 1 1 .whole] (.slot 2) false, .ptr 2 2 1], [.ty (.int .i64)], u3 (eac_Parts_c1 F)⟩
theorem eac_Parts_c1_ok (F : Nat) : (eac_Parts_c1_told F).ok Try.prog :=
  okF callable (eac_Parts_c1_all F) (fn := Try.f53) [] (by kernel_rfl) aN fun d => by kernel_rfl

def eac_Parts_tab (F : Nat) : List ToldF := [eac_at_told F, eac_Parts_c1_told F]
theorem eac_Parts_all (F : Nat) : AllOk Try.prog (eac_Parts_tab F) := ⟨eac_at_ok F, eac_Parts_c1_ok F, trivial⟩

def eac_Parts_l0t (F : Nat) : TL := ⟨32, [.segs [.hole (.is .i64 16)] (.slot 5) true, .ptr 5 1 16, .segs [.hole (.is .i64 16)] (.slot 7) true, .ptr 7 2 16, .row .u8 1 (.cell (.cap (.slot 8) 0) 0) false, .segs [.sl 3 1 .whole] (.cap (.slot 8) 0) true, .fn 8 53 [.ptr 4 1], .slot 15 (.int .i64)], [.segs [.hole (.is .i64 16)] (.slot 5) true, .ptr 5 1 16, .segs [.hole (.is .i64 16)] (.slot 7) true, .ptr 7 2 16, .row .u8 1 (.cell (.cap (.slot 8) 0) 0) false, .segs [.sl 3 1 .whole] (.cap (.slot 8) 0) true, .fn 8 53 [.ptr 4 1]], 0, fun k => u4 (eac_Parts_l0 F k), fun k => u4 (eac_Parts_l0S F (eac_Parts_l0 F k))⟩
theorem eac_Parts_l0k (F : Nat) : (eac_Parts_l0t F).ok Try.prog Try.f33 F :=
  okL callable (eac_Parts_all F) [] aN (fun _ => rfl) (fun _ _ => rfl) fun k d => by kernel_rfl

def eac_Parts_told (F : Nat) : ToldF := ⟨33, 1, [.row .u8 1 (.slot 0) false], [.ty (.int .i64), .ty (.int .i64), .ty (.int .i64), .ty (.is .i64 16), .ty (.int .i64)], u1 (eac_Parts F)⟩
theorem eac_Parts_ok (F : Nat) : (eac_Parts_told F).ok Try.prog :=
  okF callable (eac_Parts_all F) (fn := Try.f33) [(0, (eac_Parts_l0t F).ann F)] (by kernel_rfl) (aL (by kernel_rfl) (eac_Parts_l0k F) aN) fun d => by kernel_rfl

def eac_Table_tab (F : Nat) : List ToldF := []
theorem eac_Table_all (F : Nat) : AllOk Try.prog (eac_Table_tab F) := trivial

def eac_Table_told (F : Nat) : ToldF := ⟨34, 1, [.slot 0 (.int .i64)], [.ty (.is .i64 8)], u1 (eac_Table F)⟩
theorem eac_Table_ok (F : Nat) : (eac_Table_told F).ok Try.prog :=
  okF callable (eac_Table_all F) (fn := Try.f34) [] (by kernel_rfl) aN fun d => by kernel_rfl

def level_Clamp_tab (F : Nat) : List ToldF := []
theorem level_Clamp_all (F : Nat) : AllOk Try.prog (level_Clamp_tab F) := trivial

def level_Clamp_told (F : Nat) : ToldF := ⟨56, 2, [.slot 0 (.int .i64), .slot 1 (.int .i64)], [.ty (.int .i64)], u2 (level_Clamp F)⟩
theorem level_Clamp_ok (F : Nat) : (level_Clamp_told F).ok Try.prog :=
  okF callable (level_Clamp_all F) (fn := Try.f56) [] (by kernel_rfl) aN fun d => by kernel_rfl

def eac_Value_tab (F : Nat) : List ToldF := [level_Clamp_told F]
theorem eac_Value_all (F : Nat) : AllOk Try.prog (eac_Value_tab F) := ⟨level_Clamp_ok F, trivial⟩

def eac_Value_told (F : Nat) : ToldF := ⟨35, 4, [.slot 0 (.int .i64), .slot 1 (.int .i64), .slot 2 (.int .i64), .slot 3 (.bool)], [.ty (.int .i64)], u4 (eac_Value F)⟩
theorem eac_Value_ok (F : Nat) : (eac_Value_told F).ok Try.prog :=
  okF callable (eac_Value_all F) (fn := Try.f35) [] (by kernel_rfl) aN fun d => by kernel_rfl

def eac_Decode_tab (F : Nat) : List ToldF := [eac_Parts_told F, eac_Table_told F, eac_Value_told F]
theorem eac_Decode_all (F : Nat) : AllOk Try.prog (eac_Decode_tab F) := ⟨eac_Parts_ok F, eac_Table_ok F, eac_Value_ok F, trivial⟩

def eac_Decode_l0t (F : Nat) : TL := ⟨44, [.slot 1 (.bool), .segs [.hole (.is .i64 16)] (.slot 4) true, .ptr 4 1 16, .slot 6 (.int .i64), .slot 7 (.int .i64), .segs [.hole (.is .i64 16)] (.slot 9) true, .ptr 9 2 16, .segs [.hole (.is .i64 8)] (.slot 11) true, .ptr 11 3 8, .slot 28 (.is .i64 16), .slot 29 (.int .i64)], [.segs [.hole (.is .i64 16)] (.slot 4) true, .ptr 4 1 16, .segs [.hole (.is .i64 16)] (.slot 9) true, .ptr 9 2 16], 0, fun k => u8 (eac_Decode_l0 F k), fun k => u8 (eac_Decode_l0S F (eac_Decode_l0 F k))⟩
theorem eac_Decode_l0k (F : Nat) : (eac_Decode_l0t F).ok Try.prog Try.f21 F :=
  okL callable (eac_Decode_all F) [] aN (fun _ => rfl) (fun _ _ => rfl) fun k d => by kernel_rfl

def eac_Decode_told (F : Nat) : ToldF := ⟨21, 2, [.row .u8 1 (.slot 0) false, .slot 1 (.bool)], [.ty (.is .i64 16), .ty (.int .i64)], u2 (eac_Decode F)⟩
theorem eac_Decode_ok (F : Nat) : (eac_Decode_told F).ok Try.prog :=
  okF callable (eac_Decode_all F) (fn := Try.f21) [(0, (eac_Decode_l0t F).ann F)] (by kernel_rfl) (aL (by kernel_rfl) (eac_Decode_l0k F) aN) fun d => by kernel_rfl

def bcfour_Parts_tab (F : Nat) : List ToldF := [bits_Lows_told F]
theorem bcfour_Parts_all (F : Nat) : AllOk Try.prog (bcfour_Parts_tab F) := ⟨bits_Lows_ok F, trivial⟩

def bcfour_Parts_told (F : Nat) : ToldF := ⟨36, 1, [.row .u8 1 (.slot 0) false], [.ty (.int .i64), .ty (.int .i64), .ty (.is .i64 16), .ty (.int .i64)], u1 (bcfour_Parts F)⟩
theorem bcfour_Parts_ok (F : Nat) : (bcfour_Parts_told F).ok Try.prog :=
  okF callable (bcfour_Parts_all F) (fn := Try.f36) [] (by kernel_rfl) aN fun d => by kernel_rfl

def bcfour_Ramp_tab (F : Nat) : List ToldF := [level_Mix_told F]
theorem bcfour_Ramp_all (F : Nat) : AllOk Try.prog (bcfour_Ramp_tab F) := ⟨level_Mix_ok F, trivial⟩

def bcfour_Ramp_l0t (F : Nat) : TL := ⟨31, [.slot 0 (.int .i64), .slot 1 (.int .i64), .segs [.hole (.is .i64 8)] (.slot 4) true, .ptr 4 1 8, .segs [.hole (.is .i64 8)] (.slot 5) true, .ptr 5 2 8, .slot 6 (.int .i64), .slot 16 (.int .i64), .slot 17 (.int .i64)], [.segs [.hole (.is .i64 8)] (.slot 4) true, .ptr 4 1 8, .segs [.hole (.is .i64 8)] (.slot 5) true, .ptr 5 2 8], 0, fun k => u7 (bcfour_Ramp_l0 F k), fun k => u7 (bcfour_Ramp_l0S F (bcfour_Ramp_l0 F k))⟩
theorem bcfour_Ramp_l0k (F : Nat) : (bcfour_Ramp_l0t F).ok Try.prog Try.f37 F :=
  okL callable (bcfour_Ramp_all F) [] aN (fun _ => rfl) (fun _ _ => rfl) fun k d => by kernel_rfl

def bcfour_Ramp_told (F : Nat) : ToldF := ⟨37, 2, [.slot 0 (.int .i64), .slot 1 (.int .i64)], [.ty (.is .i64 8)], u2 (bcfour_Ramp F)⟩
theorem bcfour_Ramp_ok (F : Nat) : (bcfour_Ramp_told F).ok Try.prog :=
  okF callable (bcfour_Ramp_all F) (fn := Try.f37) [(0, (bcfour_Ramp_l0t F).ann F)] (by kernel_rfl) (aL (by kernel_rfl) (bcfour_Ramp_l0k F) aN) fun d => by kernel_rfl

def bcfour_Decode_tab (F : Nat) : List ToldF := [bcfour_Parts_told F, bcfour_Ramp_told F]
theorem bcfour_Decode_all (F : Nat) : AllOk Try.prog (bcfour_Decode_tab F) := ⟨bcfour_Parts_ok F, bcfour_Ramp_ok F, trivial⟩

def bcfour_Decode_l0t (F : Nat) : TL := ⟨37, [.segs [.hole (.is .i64 16)] (.slot 2) true, .ptr 2 1 16, .segs [.hole (.is .i64 16)] (.slot 6) true, .ptr 6 2 16, .segs [.hole (.is .i64 8)] (.slot 8) true, .ptr 8 3 8, .slot 25 (.is .i64 16), .slot 26 (.int .i64)], [.segs [.hole (.is .i64 16)] (.slot 2) true, .ptr 2 1 16, .segs [.hole (.is .i64 16)] (.slot 6) true, .ptr 6 2 16], 0, fun k => u5 (bcfour_Decode_l0 F k), fun k => u5 (bcfour_Decode_l0S F (bcfour_Decode_l0 F k))⟩
theorem bcfour_Decode_l0k (F : Nat) : (bcfour_Decode_l0t F).ok Try.prog Try.f22 F :=
  okL callable (bcfour_Decode_all F) [] aN (fun _ => rfl) (fun _ _ => rfl) fun k d => by kernel_rfl

def bcfour_Decode_told (F : Nat) : ToldF := ⟨22, 1, [.row .u8 1 (.slot 0) false], [.ty (.is .i64 16), .ty (.int .i64)], u1 (bcfour_Decode F)⟩
theorem bcfour_Decode_ok (F : Nat) : (bcfour_Decode_told F).ok Try.prog :=
  okF callable (bcfour_Decode_all F) (fn := Try.f22) [(0, (bcfour_Decode_l0t F).ann F)] (by kernel_rfl) (aL (by kernel_rfl) (bcfour_Decode_l0k F) aN) fun d => by kernel_rfl

def format_decode_c1_tab (F : Nat) : List ToldF := [eac_Decode_told F, bcfour_Decode_told F]
theorem format_decode_c1_all (F : Nat) : AllOk Try.prog (format_decode_c1_tab F) := ⟨eac_Decode_ok F, bcfour_Decode_ok F, trivial⟩

def format_decode_c1_told (F : Nat) : ToldF := ⟨20, 2, [.row .u8 1 (.slot 0) false, .segs [.hole (.int .i64), .hole (.int .i64), .hole (.bool)] (.slot 1) false, .ptr 1 2 3], [.ty (.is .i64 16), .ty (.int .i64)], u4 (format_decode_c1 F)⟩
theorem format_decode_c1_ok (F : Nat) : (format_decode_c1_told F).ok Try.prog :=
  okF callable (format_decode_c1_all F) (fn := Try.f20) [] (by kernel_rfl) aN fun d => by kernel_rfl

def format_decode_c2_tab (F : Nat) : List ToldF := [format_with_told F, format_decode_c1_told F]
theorem format_decode_c2_all (F : Nat) : AllOk Try.prog (format_decode_c2_tab F) := ⟨format_with_ok F, format_decode_c1_ok F, trivial⟩

def format_decode_c2_told (F : Nat) : ToldF := ⟨23, 4, [.slot 0 (.is .i64 64), .slot 1 (.int .i64), .row .u8 1 (.slot 2) false, .segs [.hole (.int .i64), .hole (.int .i64), .hole (.bool)] (.cap (.cell (.slot 3) 0) 0) false, .segs [.fnp 20 [(2, 3)]] (.slot 3) false, .ptr 3 3 1], [.ty (.is .i64 64)], u6 (format_decode_c2 F)⟩
theorem format_decode_c2_ok (F : Nat) : (format_decode_c2_told F).ok Try.prog :=
  okF callable (format_decode_c2_all F) (fn := Try.f23) [] (by kernel_rfl) aN fun d => by kernel_rfl

def format_blank_tab (F : Nat) : List ToldF := []
theorem format_blank_all (F : Nat) : AllOk Try.prog (format_blank_tab F) := trivial

def format_blank_l0t (F : Nat) : TL := ⟨17, [.slot 0 (.bool), .segs [.hole (.is .i64 64)] (.slot 2) true, .ptr 2 1 64, .segs [.hole (.is .i64 64)] (.slot 3) true, .ptr 3 2 64, .slot 5 (.int .i64)], [.segs [.hole (.is .i64 64)] (.slot 2) true, .ptr 2 1 64, .segs [.hole (.is .i64 64)] (.slot 3) true, .ptr 3 2 64], 0, fun k => u4 (format_blank_l0 F k), fun k => u4 (format_blank_l0S F (format_blank_l0 F k))⟩
theorem format_blank_l0k (F : Nat) : (format_blank_l0t F).ok Try.prog Try.f28 F :=
  okL callable (format_blank_all F) [] aN (fun _ => rfl) (fun _ _ => rfl) fun k d => by kernel_rfl

def format_blank_told (F : Nat) : ToldF := ⟨28, 1, [.slot 0 (.bool)], [.ty (.is .i64 64)], u1 (format_blank F)⟩
theorem format_blank_ok (F : Nat) : (format_blank_told F).ok Try.prog :=
  okF callable (format_blank_all F) (fn := Try.f28) [(0, (format_blank_l0t F).ann F)] (by kernel_rfl) (aL (by kernel_rfl) (format_blank_l0k F) aN) fun d => by kernel_rfl

def math_bits_TrailingZeros8_tab (F : Nat) : List ToldF := []
theorem math_bits_TrailingZeros8_all (F : Nat) : AllOk Try.prog (math_bits_TrailingZeros8_tab F) := trivial

def math_bits_TrailingZeros8_told (F : Nat) : ToldF := ⟨63, 1, [.slot 0 (.int .u8)], [.ty (.int .i64)], u1 (math_bits_TrailingZeros8 F)⟩
theorem math_bits_TrailingZeros8_ok (F : Nat) : (math_bits_TrailingZeros8_told F).ok Try.prog :=
  okF callable (math_bits_TrailingZeros8_all F) (fn := Try.f63) [] (by kernel_rfl) aN fun d => by kernel_rfl

def bcseven_Mode_tab (F : Nat) : List ToldF := [math_bits_TrailingZeros8_told F]
theorem bcseven_Mode_all (F : Nat) : AllOk Try.prog (bcseven_Mode_tab F) := ⟨math_bits_TrailingZeros8_ok F, trivial⟩

def bcseven_Mode_told (F : Nat) : ToldF := ⟨42, 1, [.row .u8 1 (.slot 0) false], [.ty (.int .i64)], u1 (bcseven_Mode F)⟩
theorem bcseven_Mode_ok (F : Nat) : (bcseven_Mode_told F).ok Try.prog :=
  okF callable (bcseven_Mode_all F) (fn := Try.f42) [] (by kernel_rfl) aN fun d => by kernel_rfl

def bctable_Modes_tab (F : Nat) : List ToldF := []
theorem bctable_Modes_all (F : Nat) : AllOk Try.prog (bctable_Modes_tab F) := trivial

def bctable_Modes_told (F : Nat) : ToldF := ⟨64, 0, [], [.row .i64 10], u0 (bctable_Modes F)⟩
theorem bctable_Modes_ok (F : Nat) : (bctable_Modes_told F).ok Try.prog :=
  okF callable (bctable_Modes_all F) (fn := Try.f64) [] (by kernel_rfl) aN fun d => by kernel_rfl

def bcseven_read_c1_tab (F : Nat) : List ToldF := [bits_Low_told F]
theorem bcseven_read_c1_all (F : Nat) : AllOk Try.prog (bcseven_read_c1_tab F) := ⟨bits_Low_ok F, trivial⟩

def bcseven_read_c1_told (F : Nat) : ToldF := ⟨65, 3, [.slot 0 (.int .i64), .row .u8 1 (.cell (.slot 1) 0) false, .segs [.sl 1 1 .whole] (.slot 1) false, .ptr 1 2 1, .segs [.hole (.int .i64)] (.slot 2) true (some 2), .ptr 2 3 1], [.ty (.int .i64), .psegs 2 [.hole (.int .i64)]], u3 (bcseven_read_c1 F)⟩
theorem bcseven_read_c1_ok (F : Nat) : (bcseven_read_c1_told F).ok Try.prog :=
  okF callable (bcseven_read_c1_all F) (fn := Try.f65) [] (by kernel_rfl) aN fun d => by kernel_rfl

def bcseven_dealt_tab (F : Nat) : List ToldF := []
theorem bcseven_dealt_all (F : Nat) : AllOk Try.prog (bcseven_dealt_tab F) := trivial

def bcseven_dealt_told (F : Nat) : ToldF := ⟨66, 2, [.slot 0 (.agg [.int .i64, .int .i64, .int .i64, .int .i64, .int .i64, .int .i64, .int .i64, .int .i64, .int .i64, .int .i64]), .slot 1 (.int .i64)], [.ty (.int .i64)], u2 (bcseven_dealt F)⟩
theorem bcseven_dealt_ok (F : Nat) : (bcseven_dealt_told F).ok Try.prog :=
  okF callable (bcseven_dealt_all F) (fn := Try.f66) [] (by kernel_rfl) aN fun d => by kernel_rfl

def bcseven_fields_widen_read_c1_tab (F : Nat) : List ToldF := [level_Wide_told F, bcseven_read_c1_told F, bcseven_dealt_told F]
theorem bcseven_fields_widen_read_c1_all (F : Nat) : AllOk Try.prog (bcseven_fields_widen_read_c1_tab F) := ⟨level_Wide_ok F, bcseven_read_c1_ok F, bcseven_dealt_ok F, trivial⟩

def bcseven_fields_widen_read_c1_l2t (F : Nat) : TL := ⟨97, [.row .i64 4 (.cell (.slot 0) 13) true (some 0), .segs [.hole (.int .i64), .hole (.int .i64), .hole (.int .i64), .hole (.int .i64), .hole (.int .i64), .hole (.int .i64), .hole (.int .i64), .hole (.int .i64), .hole (.int .i64), .hole (.int .i64), .hole (.int .i64), .hole (.int .i64), .hole (.int .i64), .sl 1 4 .own, .hole (.is .i64 16), .hole (.is .i64 16)] (.slot 0) false, .ptr 0 2 46, .row .u8 1 (.cell (.cap (.slot 1) 0) 0) false, .segs [.sl 3 1 .whole] (.cap (.slot 1) 0) false, .segs [.hole (.int .i64)] (.cap (.slot 1) 1) true (some 4), .fn 1 65 [.ptr 4 1, .ptr 5 1], .slot 4 (.int .i64), .slot 5 (.int .i64), .slot 6 (.int .i64), .slot 24 (.int .i64), .slot 25 (.int .i64), .slot 55 (.is .i64 4), .slot 56 (.int .i64)], [.row .i64 4 (.cell (.slot 0) 13) true (some 0), .segs [.hole (.int .i64), .hole (.int .i64), .hole (.int .i64), .hole (.int .i64), .hole (.int .i64), .hole (.int .i64), .hole (.int .i64), .hole (.int .i64), .hole (.int .i64), .hole (.int .i64), .hole (.int .i64), .hole (.int .i64), .hole (.int .i64), .sl 1 4 .own, .hole (.is .i64 16), .hole (.is .i64 16)] (.slot 0) false, .ptr 0 2 46, .row .u8 1 (.cell (.cap (.slot 1) 0) 0) false, .segs [.sl 3 1 .whole] (.cap (.slot 1) 0) false, .segs [.hole (.int .i64)] (.cap (.slot 1) 1) true (some 4), .fn 1 65 [.ptr 4 1, .ptr 5 1], .slot 4 (.int .i64), .slot 5 (.int .i64), .slot 6 (.int .i64), .slot 24 (.int .i64), .slot 25 (.int .i64)], 2, fun k => u25 (bcseven_fields_widen_read_c1_l2 F k), fun k => u25 (bcseven_fields_widen_read_c1_l2S F (bcseven_fields_widen_read_c1_l2 F k))⟩
theorem bcseven_fields_widen_read_c1_l2k (F : Nat) : (bcseven_fields_widen_read_c1_l2t F).ok Try.prog Try.f67 F :=
  okL callable (bcseven_fields_widen_read_c1_all F) [] aN (fun _ => rfl) (fun _ _ => rfl) fun k d => by kernel_rfl

def bcseven_fields_widen_read_c1_l0t (F : Nat) : TL := ⟨97, [.row .i64 4 (.cell (.slot 0) 13) true (some 0), .segs [.hole (.int .i64), .hole (.int .i64), .hole (.int .i64), .hole (.int .i64), .hole (.int .i64), .hole (.int .i64), .hole (.int .i64), .hole (.int .i64), .hole (.int .i64), .hole (.int .i64), .hole (.int .i64), .hole (.int .i64), .hole (.int .i64), .sl 1 4 .own, .hole (.is .i64 16), .hole (.is .i64 16)] (.slot 0) false, .ptr 0 2 46, .row .u8 1 (.cell (.cap (.slot 1) 0) 0) false, .segs [.sl 3 1 .whole] (.cap (.slot 1) 0) false, .segs [.hole (.int .i64)] (.cap (.slot 1) 1) true (some 4), .fn 1 65 [.ptr 4 1, .ptr 5 1], .slot 4 (.int .i64), .slot 5 (.int .i64), .slot 24 (.int .i64), .slot 25 (.int .i64)], [.row .i64 4 (.cell (.slot 0) 13) true (some 0), .segs [.hole (.int .i64), .hole (.int .i64), .hole (.int .i64), .hole (.int .i64), .hole (.int .i64), .hole (.int .i64), .hole (.int .i64), .hole (.int .i64), .hole (.int .i64), .hole (.int .i64), .hole (.int .i64), .hole (.int .i64), .hole (.int .i64), .sl 1 4 .own, .hole (.is .i64 16), .hole (.is .i64 16)] (.slot 0) false, .ptr 0 2 46, .row .u8 1 (.cell (.cap (.slot 1) 0) 0) false, .segs [.sl 3 1 .whole] (.cap (.slot 1) 0) false, .segs [.hole (.int .i64)] (.cap (.slot 1) 1) true (some 4), .fn 1 65 [.ptr 4 1, .ptr 5 1]], 0, fun k => u22 (bcseven_fields_widen_read_c1_l0 F k), fun k => u22 (bcseven_fields_widen_read_c1_l0S F (bcseven_fields_widen_read_c1_l0 F k))⟩
theorem bcseven_fields_widen_read_c1_l0k (F : Nat) : (bcseven_fields_widen_read_c1_l0t F).ok Try.prog Try.f67 F :=
  okL callable (bcseven_fields_widen_read_c1_all F) [(2, (bcseven_fields_widen_read_c1_l2t F).ann F)] (aL (by kernel_rfl) (bcseven_fields_widen_read_c1_l2k F) aN) (fun _ => rfl) (fun _ _ => rfl) fun k d => by kernel_rfl

def bcseven_fields_widen_read_c1_told (F : Nat) : ToldF := ⟨67, 2, [.row .i64 4 (.cell (.slot 0) 13) true (some 0), .segs [.hole (.int .i64), .hole (.int .i64), .hole (.int .i64), .hole (.int .i64), .hole (.int .i64), .hole (.int .i64), .hole (.int .i64), .hole (.int .i64), .hole (.int .i64), .hole (.int .i64), .hole (.int .i64), .hole (.int .i64), .hole (.int .i64), .sl 1 4 .own, .hole (.is .i64 16), .hole (.is .i64 16)] (.slot 0) false, .ptr 0 2 46, .row .u8 1 (.cell (.cap (.slot 1) 0) 0) false, .segs [.sl 3 1 .whole] (.cap (.slot 1) 0) false, .segs [.hole (.int .i64)] (.cap (.slot 1) 1) true (some 4), .fn 1 65 [.ptr 4 1, .ptr 5 1]], [.prow 0 .i64, .psegs 4 [.hole (.int .i64)]], u18 (bcseven_fields_widen_read_c1 F)⟩
theorem bcseven_fields_widen_read_c1_ok (F : Nat) : (bcseven_fields_widen_read_c1_told F).ok Try.prog :=
  okF callable (bcseven_fields_widen_read_c1_all F) (fn := Try.f67) [(2, (bcseven_fields_widen_read_c1_l2t F).ann F), (0, (bcseven_fields_widen_read_c1_l0t F).ann F)] (by kernel_rfl) (aL (by kernel_rfl) (bcseven_fields_widen_read_c1_l2k F) (aL (by kernel_rfl) (bcseven_fields_widen_read_c1_l0k F) aN)) fun d => by kernel_rfl

def bctable_anchors_tab (F : Nat) : List ToldF := []
theorem bctable_anchors_all (F : Nat) : AllOk Try.prog (bctable_anchors_tab F) := trivial

def bctable_anchors_told (F : Nat) : ToldF := ⟨98, 1, [.slot 0 (.agg [.int .i64, .int .i64])], [.row .u8 1], u1 (bctable_anchors F)⟩
theorem bctable_anchors_ok (F : Nat) : (bctable_anchors_told F).ok Try.prog :=
  okF callable (bctable_anchors_all F) (fn := Try.f98) [] (by kernel_rfl) aN fun d => by kernel_rfl

def bctable_in_tab (F : Nat) : List ToldF := []
theorem bctable_in_all (F : Nat) : AllOk Try.prog (bctable_in_tab F) := trivial

def bctable_in_told (F : Nat) : ToldF := ⟨89, 2, [.slot 0 (.int .i64), .slot 1 (.int .i64)], [.ty (.bool)], u2 (bctable_in F)⟩
theorem bctable_in_ok (F : Nat) : (bctable_in_told F).ok Try.prog :=
  okF callable (bctable_in_all F) (fn := Try.f89) [] (by kernel_rfl) aN fun d => by kernel_rfl

def bctable_Anchor_tab (F : Nat) : List ToldF := [bctable_anchors_told F, bctable_in_told F]
theorem bctable_Anchor_all (F : Nat) : AllOk Try.prog (bctable_Anchor_tab F) := ⟨bctable_anchors_ok F, bctable_in_ok F, trivial⟩

def bctable_Anchor_told (F : Nat) : ToldF := ⟨88, 3, [.slot 0 (.int .i64), .slot 1 (.int .i64), .slot 2 (.int .i64)], [.ty (.int .i64)], u3 (bctable_Anchor F)⟩
theorem bctable_Anchor_ok (F : Nat) : (bctable_Anchor_told F).ok Try.prog :=
  okF callable (bctable_Anchor_all F) (fn := Try.f88) [] (by kernel_rfl) aN fun d => by kernel_rfl

def bcseven_fields_lacks_tab (F : Nat) : List ToldF := [bctable_Anchor_told F]
theorem bcseven_fields_lacks_all (F : Nat) : AllOk Try.prog (bcseven_fields_lacks_tab F) := ⟨bctable_Anchor_ok F, trivial⟩

def bcseven_fields_lacks_l0t (F : Nat) : TL := ⟨35, [.row .i64 4 (.cell (.slot 0) 13) false, .segs [.hole (.int .i64), .hole (.int .i64), .hole (.int .i64), .hole (.int .i64), .hole (.int .i64), .hole (.int .i64), .hole (.int .i64), .hole (.int .i64), .hole (.int .i64), .hole (.int .i64), .hole (.int .i64), .hole (.int .i64), .hole (.int .i64), .sl 1 4 .whole, .hole (.is .i64 16), .hole (.is .i64 16)] (.slot 0) false, .ptr 0 2 46, .slot 1 (.int .i64), .slot 5 (.bool), .slot 6 (.int .i64)], [.slot 5 (.bool)], 0, fun k => u19 (bcseven_fields_lacks_l0 F k), fun k => u19 (bcseven_fields_lacks_l0S F (bcseven_fields_lacks_l0 F k))⟩
theorem bcseven_fields_lacks_l0k (F : Nat) : (bcseven_fields_lacks_l0t F).ok Try.prog Try.f68 F :=
  okL callable (bcseven_fields_lacks_all F) [] aN (fun _ => rfl) (fun _ _ => rfl) fun k d => by kernel_rfl

def bcseven_fields_lacks_told (F : Nat) : ToldF := ⟨68, 2, [.row .i64 4 (.cell (.slot 0) 13) false, .segs [.hole (.int .i64), .hole (.int .i64), .hole (.int .i64), .hole (.int .i64), .hole (.int .i64), .hole (.int .i64), .hole (.int .i64), .hole (.int .i64), .hole (.int .i64), .hole (.int .i64), .hole (.int .i64), .hole (.int .i64), .hole (.int .i64), .sl 1 4 .whole, .hole (.is .i64 16), .hole (.is .i64 16)] (.slot 0) false, .ptr 0 2 46, .slot 1 (.int .i64)], [.ty (.int .i64)], u17 (bcseven_fields_lacks F)⟩
theorem bcseven_fields_lacks_ok (F : Nat) : (bcseven_fields_lacks_told F).ok Try.prog :=
  okF callable (bcseven_fields_lacks_all F) (fn := Try.f68) [(0, (bcseven_fields_lacks_l0t F).ann F)] (by kernel_rfl) (aL (by kernel_rfl) (bcseven_fields_lacks_l0k F) aN) fun d => by kernel_rfl

def bcseven_read_tab (F : Nat) : List ToldF := [bctable_Modes_told F, bcseven_read_c1_told F, bcseven_dealt_told F, bcseven_fields_widen_read_c1_told F, bcseven_fields_lacks_told F]
theorem bcseven_read_all (F : Nat) : AllOk Try.prog (bcseven_read_tab F) := ⟨bctable_Modes_ok F, bcseven_read_c1_ok F, bcseven_dealt_ok F, bcseven_fields_widen_read_c1_ok F, bcseven_fields_lacks_ok F, trivial⟩

def bcseven_read_l2t (F : Nat) : TL := ⟨105, [.segs [.const (.int .i64 (some 0) 0), .const (.int .i64 (some 0) 0), .const (.int .i64 (some 0) 0), .const (.int .i64 (some 0) 0), .const (.int .i64 (some 0) 0), .const (.int .i64 (some 0) 0), .const (.int .i64 (some 0) 0), .const (.int .i64 (some 0) 0), .const (.int .i64 (some 0) 0), .const (.int .i64 (some 0) 0), .const (.int .i64 (some 0) 0), .const (.int .i64 (some 0) 0), .const (.int .i64 (some 0) 0), .const .nils, .hole (.is .i64 16), .hole (.is .i64 16)] (.slot 4) true, .ptr 4 1 46, .row .i64 4 (.cell (.slot 5) 13) true, .segs [.hole (.int .i64), .hole (.int .i64), .hole (.int .i64), .hole (.int .i64), .hole (.int .i64), .hole (.int .i64), .hole (.int .i64), .hole (.int .i64), .hole (.int .i64), .hole (.int .i64), .hole (.int .i64), .hole (.int .i64), .hole (.int .i64), .sl 2 4 .own, .hole (.is .i64 16), .hole (.is .i64 16)] (.slot 5) true, .ptr 5 3 46, .row .u8 1 (.cell (.cap (.slot 7) 0) 0) false, .segs [.sl 4 1 .whole] (.cap (.slot 7) 0) true, .segs [.hole (.int .i64)] (.cap (.slot 7) 1) true, .fn 7 65 [.ptr 5 1, .ptr 6 1], .slot 8 (.int .i64), .slot 44 (.int .i64), .slot 49 (.int .i64), .slot 50 (.int .i64)], [.segs [.const (.int .i64 (some 0) 0), .const (.int .i64 (some 0) 0), .const (.int .i64 (some 0) 0), .const (.int .i64 (some 0) 0), .const (.int .i64 (some 0) 0), .const (.int .i64 (some 0) 0), .const (.int .i64 (some 0) 0), .const (.int .i64 (some 0) 0), .const (.int .i64 (some 0) 0), .const (.int .i64 (some 0) 0), .const (.int .i64 (some 0) 0), .const (.int .i64 (some 0) 0), .const (.int .i64 (some 0) 0), .const .nils, .hole (.is .i64 16), .hole (.is .i64 16)] (.slot 4) true, .ptr 4 1 46, .row .i64 4 (.cell (.slot 5) 13) true, .segs [.hole (.int .i64), .hole (.int .i64), .hole (.int .i64), .hole (.int .i64), .hole (.int .i64), .hole (.int .i64), .hole (.int .i64), .hole (.int .i64), .hole (.int .i64), .hole (.int .i64), .hole (.int .i64), .hole (.int .i64), .hole (.int .i64), .sl 2 4 .own, .hole (.is .i64 16), .hole (.is .i64 16)] (.slot 5) true, .ptr 5 3 46, .row .u8 1 (.cell (.cap (.slot 7) 0) 0) false, .segs [.sl 4 1 .whole] (.cap (.slot 7) 0) true, .segs [.hole (.int .i64)] (.cap (.slot 7) 1) true, .fn 7 65 [.ptr 5 1, .ptr 6 1], .slot 44 (.int .i64)], 2, fun k => u24 (bcseven_read_l2 F k), fun k => u24 (bcseven_read_l2S F (bcseven_read_l2 F k))⟩
theorem bcseven_read_l2k (F : Nat) : (bcseven_read_l2t F).ok Try.prog Try.f43 F :=
  okL callable (bcseven_read_all F) [] aN (fun _ => rfl) (fun _ _ => rfl) fun k d => by kernel_rfl

def bcseven_read_l0t (F : Nat) : TL := ⟨105, [.segs [.const (.int .i64 (some 0) 0), .const (.int .i64 (some 0) 0), .const (.int .i64 (some 0) 0), .const (.int .i64 (some 0) 0), .const (.int .i64 (some 0) 0), .const (.int .i64 (some 0) 0), .const (.int .i64 (some 0) 0), .const (.int .i64 (some 0) 0), .const (.int .i64 (some 0) 0), .const (.int .i64 (some 0) 0), .const (.int .i64 (some 0) 0), .const (.int .i64 (some 0) 0), .const (.int .i64 (some 0) 0), .const .nils, .hole (.is .i64 16), .hole (.is .i64 16)] (.slot 4) true, .ptr 4 1 46, .row .i64 4 (.cell (.slot 5) 13) true, .segs [.hole (.int .i64), .hole (.int .i64), .hole (.int .i64), .hole (.int .i64), .hole (.int .i64), .hole (.int .i64), .hole (.int .i64), .hole (.int .i64), .hole (.int .i64), .hole (.int .i64), .hole (.int .i64), .hole (.int .i64), .hole (.int .i64), .sl 2 4 .own, .hole (.is .i64 16), .hole (.is .i64 16)] (.slot 5) true, .ptr 5 3 46, .row .u8 1 (.cell (.cap (.slot 7) 0) 0) false, .segs [.sl 4 1 .whole] (.cap (.slot 7) 0) true, .segs [.hole (.int .i64)] (.cap (.slot 7) 1) true, .fn 7 65 [.ptr 5 1, .ptr 6 1], .slot 44 (.int .i64)], [.segs [.const (.int .i64 (some 0) 0), .const (.int .i64 (some 0) 0), .const (.int .i64 (some 0) 0), .const (.int .i64 (some 0) 0), .const (.int .i64 (some 0) 0), .const (.int .i64 (some 0) 0), .const (.int .i64 (some 0) 0), .const (.int .i64 (some 0) 0), .const (.int .i64 (some 0) 0), .const (.int .i64 (some 0) 0), .const (.int .i64 (some 0) 0), .const (.int .i64 (some 0) 0), .const (.int .i64 (some 0) 0), .const .nils, .hole (.is .i64 16), .hole (.is .i64 16)] (.slot 4) true, .ptr 4 1 46, .row .i64 4 (.cell (.slot 5) 13) true, .segs [.hole (.int .i64), .hole (.int .i64), .hole (.int .i64), .hole (.int .i64), .hole (.int .i64), .hole (.int .i64), .hole (.int .i64), .hole (.int .i64), .hole (.int .i64), .hole (.int .i64), .hole (.int .i64), .hole (.int .i64), .hole (.int .i64), .sl 2 4 .own, .hole (.is .i64 16), .hole (.is .i64 16)] (.slot 5) true, .ptr 5 3 46, .row .u8 1 (.cell (.cap (.slot 7) 0) 0) false, .segs [.sl 4 1 .whole] (.cap (.slot 7) 0) true, .segs [.hole (.int .i64)] (.cap (.slot 7) 1) true, .fn 7 65 [.ptr 5 1, .ptr 6 1]], 0, fun k => u21 (bcseven_read_l0 F k), fun k => u21 (bcseven_read_l0S F (bcseven_read_l0 F k))⟩
theorem bcseven_read_l0k (F : Nat) : (bcseven_read_l0t F).ok Try.prog Try.f43 F :=
  okL callable (bcseven_read_all F) [(2, (bcseven_read_l2t F).ann F)] (aL (by kernel_rfl) (bcseven_read_l2k F) aN) (fun _ => rfl) (fun _ _ => rfl) fun k d => by kernel_rfl

def bcseven_read_l4t (F : Nat) : TL := ⟨105, [.segs [.const (.int .i64 (some 0) 0), .const (.int .i64 (some 0) 0), .const (.int .i64 (some 0) 0), .const (.int .i64 (some 0) 0), .const (.int .i64 (some 0) 0), .const (.int .i64 (some 0) 0), .const (.int .i64 (some 0) 0), .const (.int .i64 (some 0) 0), .const (.int .i64 (some 0) 0), .const (.int .i64 (some 0) 0), .const (.int .i64 (some 0) 0), .const (.int .i64 (some 0) 0), .const (.int .i64 (some 0) 0), .const .nils, .hole (.is .i64 16), .hole (.is .i64 16)] (.slot 4) true, .ptr 4 1 46, .row .i64 4 (.cell (.slot 5) 13) true, .segs [.hole (.int .i64), .hole (.int .i64), .hole (.int .i64), .hole (.int .i64), .hole (.int .i64), .hole (.int .i64), .hole (.int .i64), .hole (.int .i64), .hole (.int .i64), .hole (.int .i64), .hole (.int .i64), .hole (.int .i64), .hole (.int .i64), .sl 2 4 .own, .hole (.is .i64 16), .hole (.is .i64 16)] (.slot 5) true, .ptr 5 3 46, .row .u8 1 (.cell (.cap (.slot 7) 0) 0) false, .segs [.sl 4 1 .whole] (.cap (.slot 7) 0) true, .segs [.hole (.int .i64)] (.cap (.slot 7) 1) true, .fn 7 65 [.ptr 5 1, .ptr 6 1], .slot 69 (.int .i64)], [.segs [.const (.int .i64 (some 0) 0), .const (.int .i64 (some 0) 0), .const (.int .i64 (some 0) 0), .const (.int .i64 (some 0) 0), .const (.int .i64 (some 0) 0), .const (.int .i64 (some 0) 0), .const (.int .i64 (some 0) 0), .const (.int .i64 (some 0) 0), .const (.int .i64 (some 0) 0), .const (.int .i64 (some 0) 0), .const (.int .i64 (some 0) 0), .const (.int .i64 (some 0) 0), .const (.int .i64 (some 0) 0), .const .nils, .hole (.is .i64 16), .hole (.is .i64 16)] (.slot 4) true, .ptr 4 1 46, .row .i64 4 (.cell (.slot 5) 13) true, .segs [.hole (.int .i64), .hole (.int .i64), .hole (.int .i64), .hole (.int .i64), .hole (.int .i64), .hole (.int .i64), .hole (.int .i64), .hole (.int .i64), .hole (.int .i64), .hole (.int .i64), .hole (.int .i64), .hole (.int .i64), .hole (.int .i64), .sl 2 4 .own, .hole (.is .i64 16), .hole (.is .i64 16)] (.slot 5) true, .ptr 5 3 46, .row .u8 1 (.cell (.cap (.slot 7) 0) 0) false, .segs [.sl 4 1 .whole] (.cap (.slot 7) 0) true, .segs [.hole (.int .i64)] (.cap (.slot 7) 1) true, .fn 7 65 [.ptr 5 1, .ptr 6 1]], 4, fun k => u21 (bcseven_read_l4 F k), fun k => u21 (bcseven_read_l4S F (bcseven_read_l4 F k))⟩
theorem bcseven_read_l4k (F : Nat) : (bcseven_read_l4t F).ok Try.prog Try.f43 F :=
  okL callable (bcseven_read_all F) [] aN (fun _ => rfl) (fun _ _ => rfl) fun k d => by kernel_rfl

def bcseven_read_l6t (F : Nat) : TL := ⟨105, [.segs [.const (.int .i64 (some 0) 0), .const (.int .i64 (some 0) 0), .const (.int .i64 (some 0) 0), .const (.int .i64 (some 0) 0), .const (.int .i64 (some 0) 0), .const (.int .i64 (some 0) 0), .const (.int .i64 (some 0) 0), .const (.int .i64 (some 0) 0), .const (.int .i64 (some 0) 0), .const (.int .i64 (some 0) 0), .const (.int .i64 (some 0) 0), .const (.int .i64 (some 0) 0), .const (.int .i64 (some 0) 0), .const .nils, .hole (.is .i64 16), .hole (.is .i64 16)] (.slot 4) true, .ptr 4 1 46, .row .i64 4 (.cell (.slot 5) 13) true, .segs [.hole (.int .i64), .hole (.int .i64), .hole (.int .i64), .hole (.int .i64), .hole (.int .i64), .hole (.int .i64), .hole (.int .i64), .hole (.int .i64), .hole (.int .i64), .hole (.int .i64), .hole (.int .i64), .hole (.int .i64), .hole (.int .i64), .sl 2 4 .own, .hole (.is .i64 16), .hole (.is .i64 16)] (.slot 5) true, .ptr 5 3 46, .row .u8 1 (.cell (.cap (.slot 7) 0) 0) false, .segs [.sl 4 1 .whole] (.cap (.slot 7) 0) true, .segs [.hole (.int .i64)] (.cap (.slot 7) 1) true, .fn 7 65 [.ptr 5 1, .ptr 6 1], .slot 88 (.int .i64)], [.segs [.const (.int .i64 (some 0) 0), .const (.int .i64 (some 0) 0), .const (.int .i64 (some 0) 0), .const (.int .i64 (some 0) 0), .const (.int .i64 (some 0) 0), .const (.int .i64 (some 0) 0), .const (.int .i64 (some 0) 0), .const (.int .i64 (some 0) 0), .const (.int .i64 (some 0) 0), .const (.int .i64 (some 0) 0), .const (.int .i64 (some 0) 0), .const (.int .i64 (some 0) 0), .const (.int .i64 (some 0) 0), .const .nils, .hole (.is .i64 16), .hole (.is .i64 16)] (.slot 4) true, .ptr 4 1 46, .row .i64 4 (.cell (.slot 5) 13) true, .segs [.hole (.int .i64), .hole (.int .i64), .hole (.int .i64), .hole (.int .i64), .hole (.int .i64), .hole (.int .i64), .hole (.int .i64), .hole (.int .i64), .hole (.int .i64), .hole (.int .i64), .hole (.int .i64), .hole (.int .i64), .hole (.int .i64), .sl 2 4 .own, .hole (.is .i64 16), .hole (.is .i64 16)] (.slot 5) true, .ptr 5 3 46], 6, fun k => u21 (bcseven_read_l6 F k), fun k => u21 (bcseven_read_l6S F (bcseven_read_l6 F k))⟩
theorem bcseven_read_l6k (F : Nat) : (bcseven_read_l6t F).ok Try.prog Try.f43 F :=
  okL callable (bcseven_read_all F) [] aN (fun _ => rfl) (fun _ _ => rfl) fun k d => by kernel_rfl

def bcseven_read_told (F : Nat) : ToldF := ⟨43, 2, [.row .u8 1 (.slot 0) false, .slot 1 (.int .i64)], [.agg [.hole (.int .i64), .hole (.int .i64), .hole (.int .i64), .hole (.int .i64), .hole (.int .i64), .hole (.int .i64), .hole (.int .i64), .hole (.int .i64), .hole (.int .i64), .hole (.int .i64), .hole (.int .i64), .hole (.int .i64), .hole (.int .i64), .row .i64 4 true, .hole (.is .i64 16), .hole (.is .i64 16)]], u2 (bcseven_read F)⟩
theorem bcseven_read_ok (F : Nat) : (bcseven_read_told F).ok Try.prog :=
  okF callable (bcseven_read_all F) (fn := Try.f43) [(2, (bcseven_read_l2t F).ann F), (0, (bcseven_read_l0t F).ann F), (4, (bcseven_read_l4t F).ann F), (6, (bcseven_read_l6t F).ann F)] (by kernel_rfl) (aL (by kernel_rfl) (bcseven_read_l2k F) (aL (by kernel_rfl) (bcseven_read_l0k F) (aL (by kernel_rfl) (bcseven_read_l4k F) (aL (by kernel_rfl) (bcseven_read_l6k F) aN)))) fun d => by kernel_rfl

def bctable_three_tab (F : Nat) : List ToldF := []
theorem bctable_three_all (F : Nat) : AllOk Try.prog (bctable_three_tab F) := trivial

def bctable_three_told (F : Nat) : ToldF := ⟨90, 0, [], [.ty (.is .u32 64)], u0 (bctable_three F)⟩
theorem bctable_three_ok (F : Nat) : (bctable_three_told F).ok Try.prog :=
  okF callable (bctable_three_all F) (fn := Try.f90) [] (by kernel_rfl) aN fun d => by kernel_rfl

def bctable_two_tab (F : Nat) : List ToldF := []
theorem bctable_two_all (F : Nat) : AllOk Try.prog (bctable_two_tab F) := trivial

def bctable_two_told (F : Nat) : ToldF := ⟨91, 0, [], [.ty (.is .u16 64)], u0 (bctable_two F)⟩
theorem bctable_two_ok (F : Nat) : (bctable_two_told F).ok Try.prog :=
  okF callable (bctable_two_all F) (fn := Try.f91) [] (by kernel_rfl) aN fun d => by kernel_rfl

def bctable_Part_tab (F : Nat) : List ToldF := [bctable_in_told F, bctable_three_told F, bctable_two_told F]
theorem bctable_Part_all (F : Nat) : AllOk Try.prog (bctable_Part_tab F) := ⟨bctable_in_ok F, bctable_three_ok F, bctable_two_ok F, trivial⟩

def bctable_Part_told (F : Nat) : ToldF := ⟨69, 3, [.slot 0 (.int .i64), .slot 1 (.int .i64), .slot 2 (.int .i64)], [.ty (.int .i64)], u3 (bctable_Part F)⟩
theorem bctable_Part_ok (F : Nat) : (bctable_Part_told F).ok Try.prog :=
  okF callable (bctable_Part_all F) (fn := Try.f69) [] (by kernel_rfl) aN fun d => by kernel_rfl

def bctable_Weights_tab (F : Nat) : List ToldF := []
theorem bctable_Weights_all (F : Nat) : AllOk Try.prog (bctable_Weights_tab F) := trivial

def bctable_Weights_told (F : Nat) : ToldF := ⟨92, 1, [.slot 0 (.int .i64)], [.row .i64 1], u1 (bctable_Weights F)⟩
theorem bctable_Weights_ok (F : Nat) : (bctable_Weights_told F).ok Try.prog :=
  okF callable (bctable_Weights_all F) (fn := Try.f92) [] (by kernel_rfl) aN fun d => by kernel_rfl

def bcseven_mix_tab (F : Nat) : List ToldF := [level_Mix_told F, bctable_Weights_told F]
theorem bcseven_mix_all (F : Nat) : AllOk Try.prog (bcseven_mix_tab F) := ⟨level_Mix_ok F, bctable_Weights_ok F, trivial⟩

def bcseven_mix_told (F : Nat) : ToldF := ⟨70, 4, [.slot 0 (.int .i64), .slot 1 (.int .i64), .slot 2 (.int .i64), .slot 3 (.int .i64)], [.ty (.int .i64)], u4 (bcseven_mix F)⟩
theorem bcseven_mix_ok (F : Nat) : (bcseven_mix_told F).ok Try.prog :=
  okF callable (bcseven_mix_all F) (fn := Try.f70) [] (by kernel_rfl) aN fun d => by kernel_rfl

def bcseven_fields_texel_tab (F : Nat) : List ToldF := [bctable_Part_told F, bcseven_mix_told F]
theorem bcseven_fields_texel_all (F : Nat) : AllOk Try.prog (bcseven_fields_texel_tab F) := ⟨bctable_Part_ok F, bcseven_mix_ok F, trivial⟩

def bcseven_fields_texel_l0t (F : Nat) : TL := ⟨126, [.row .i64 4 (.cell (.slot 0) 13) false, .segs [.hole (.int .i64), .hole (.int .i64), .hole (.int .i64), .hole (.int .i64), .hole (.int .i64), .hole (.int .i64), .hole (.int .i64), .hole (.int .i64), .hole (.int .i64), .hole (.int .i64), .hole (.int .i64), .hole (.int .i64), .hole (.int .i64), .sl 1 4 .whole, .hole (.is .i64 16), .hole (.is .i64 16)] (.slot 0) false, .ptr 0 2 46, .segs [.hole (.is .i64 4)] (.slot 4) true, .ptr 4 3 4, .segs [.hole (.is .i64 4)] (.slot 6) true, .ptr 6 4 4, .segs [.hole (.is .i64 4)] (.slot 7) true, .ptr 7 5 4, .slot 8 (.int .i64), .slot 9 (.int .i64), .slot 10 (.int .i64), .slot 11 (.int .i64), .segs [.hole (.is .i64 4)] (.slot 12) true, .ptr 12 6 4, .slot 81 (.int .i64)], [.row .i64 4 (.cell (.slot 0) 13) false, .segs [.hole (.int .i64), .hole (.int .i64), .hole (.int .i64), .hole (.int .i64), .hole (.int .i64), .hole (.int .i64), .hole (.int .i64), .hole (.int .i64), .hole (.int .i64), .hole (.int .i64), .hole (.int .i64), .hole (.int .i64), .hole (.int .i64), .sl 1 4 .whole, .hole (.is .i64 16), .hole (.is .i64 16)] (.slot 0) false, .ptr 0 2 46, .segs [.hole (.is .i64 4)] (.slot 4) true, .ptr 4 3 4, .segs [.hole (.is .i64 4)] (.slot 6) true, .ptr 6 4 4, .segs [.hole (.is .i64 4)] (.slot 7) true, .ptr 7 5 4, .slot 10 (.int .i64), .slot 11 (.int .i64), .segs [.hole (.is .i64 4)] (.slot 12) true, .ptr 12 6 4], 0, fun k => u25 (bcseven_fields_texel_l0 F k), fun k => u25 (bcseven_fields_texel_l0S F (bcseven_fields_texel_l0 F k))⟩
theorem bcseven_fields_texel_l0k (F : Nat) : (bcseven_fields_texel_l0t F).ok Try.prog Try.f44 F :=
  okL callable (bcseven_fields_texel_all F) [] aN (fun _ => rfl) (fun _ _ => rfl) fun k d => by kernel_rfl

def bcseven_fields_texel_told (F : Nat) : ToldF := ⟨44, 2, [.row .i64 4 (.cell (.slot 0) 13) false, .segs [.hole (.int .i64), .hole (.int .i64), .hole (.int .i64), .hole (.int .i64), .hole (.int .i64), .hole (.int .i64), .hole (.int .i64), .hole (.int .i64), .hole (.int .i64), .hole (.int .i64), .hole (.int .i64), .hole (.int .i64), .hole (.int .i64), .sl 1 4 .whole, .hole (.is .i64 16), .hole (.is .i64 16)] (.slot 0) false, .ptr 0 2 46, .slot 1 (.int .i64)], [.ty (.is .i64 4)], u17 (bcseven_fields_texel F)⟩
theorem bcseven_fields_texel_ok (F : Nat) : (bcseven_fields_texel_told F).ok Try.prog :=
  okF callable (bcseven_fields_texel_all F) (fn := Try.f44) [(0, (bcseven_fields_texel_l0t F).ann F)] (by kernel_rfl) (aL (by kernel_rfl) (bcseven_fields_texel_l0k F) aN) fun d => by kernel_rfl

def bcseven_Decode_tab (F : Nat) : List ToldF := [bcseven_Mode_told F, bcseven_read_told F, bcseven_fields_texel_told F]
theorem bcseven_Decode_all (F : Nat) : AllOk Try.prog (bcseven_Decode_tab F) := ⟨bcseven_Mode_ok F, bcseven_read_ok F, bcseven_fields_texel_ok F, trivial⟩

def bcseven_Decode_l0t (F : Nat) : TL := ⟨29, [.segs [.hole (.is .i64 64)] (.slot 2) true, .ptr 2 1 64, .segs [.hole (.is .i64 64)] (.slot 4) true, .ptr 4 2 64, .row .i64 4 (.cell (.slot 6) 13) true, .segs [.hole (.int .i64), .hole (.int .i64), .hole (.int .i64), .hole (.int .i64), .hole (.int .i64), .hole (.int .i64), .hole (.int .i64), .hole (.int .i64), .hole (.int .i64), .hole (.int .i64), .hole (.int .i64), .hole (.int .i64), .hole (.int .i64), .sl 3 4 .own, .hole (.is .i64 16), .hole (.is .i64 16)] (.slot 6) true, .ptr 6 4 46, .slot 20 (.int .i64)], [.segs [.hole (.is .i64 64)] (.slot 2) true, .ptr 2 1 64, .segs [.hole (.is .i64 64)] (.slot 4) true, .ptr 4 2 64], 0, fun k => u19 (bcseven_Decode_l0 F k), fun k => u19 (bcseven_Decode_l0S F (bcseven_Decode_l0 F k))⟩
theorem bcseven_Decode_l0k (F : Nat) : (bcseven_Decode_l0t F).ok Try.prog Try.f29 F :=
  okL callable (bcseven_Decode_all F) [] aN (fun _ => rfl) (fun _ _ => rfl) fun k d => by kernel_rfl

def bcseven_Decode_told (F : Nat) : ToldF := ⟨29, 1, [.row .u8 1 (.slot 0) false], [.ty (.is .i64 64), .ty (.int .i64)], u1 (bcseven_Decode F)⟩
theorem bcseven_Decode_ok (F : Nat) : (bcseven_Decode_told F).ok Try.prog :=
  okF callable (bcseven_Decode_all F) (fn := Try.f29) [(0, (bcseven_Decode_l0t F).ann F)] (by kernel_rfl) (aL (by kernel_rfl) (bcseven_Decode_l0k F) aN) fun d => by kernel_rfl

def etcone_Parts_c1_tab (F : Nat) : List ToldF := [bits_High_told F]
theorem etcone_Parts_c1_all (F : Nat) : AllOk Try.prog (etcone_Parts_c1_tab F) := ⟨bits_High_ok F, trivial⟩

def etcone_Parts_c1_told (F : Nat) : ToldF := ⟨71, 3, [.slot 0 (.int .i64), .slot 1 (.int .i64), .row .u8 1 (.cell (.slot 2) 0) false, .segs [.sl 1 1 .whole] (.slot 2) false, .ptr 2 2 1], [.ty (.int .i64)], u3 (etcone_Parts_c1 F)⟩
theorem etcone_Parts_c1_ok (F : Nat) : (etcone_Parts_c1_told F).ok Try.prog :=
  okF callable (etcone_Parts_c1_all F) (fn := Try.f71) [] (by kernel_rfl) aN fun d => by kernel_rfl

def etcone_column_tab (F : Nat) : List ToldF := []
theorem etcone_column_all (F : Nat) : AllOk Try.prog (etcone_column_tab F) := trivial

def etcone_column_told (F : Nat) : ToldF := ⟨72, 1, [.slot 0 (.int .i64)], [.ty (.int .i64)], u1 (etcone_column F)⟩
theorem etcone_column_ok (F : Nat) : (etcone_column_told F).ok Try.prog :=
  okF callable (etcone_column_all F) (fn := Try.f72) [] (by kernel_rfl) aN fun d => by kernel_rfl

def etcone_Parts_tab (F : Nat) : List ToldF := [etcone_Parts_c1_told F, etcone_column_told F]
theorem etcone_Parts_all (F : Nat) : AllOk Try.prog (etcone_Parts_tab F) := ⟨etcone_Parts_c1_ok F, etcone_column_ok F, trivial⟩

def etcone_Parts_l0t (F : Nat) : TL := ⟨95, [.segs [.const (.bool (some false) false), .const (.bool (some false) false), .hole (.is .i64 3), .hole (.is .i64 3), .hole (.is .i64 2), .hole (.is .i64 16)] (.slot 2) true, .ptr 2 1 26, .segs [.hole (.bool), .hole (.bool), .hole (.is .i64 3), .hole (.is .i64 3), .hole (.is .i64 2), .hole (.is .i64 16)] (.slot 4) true, .ptr 4 2 26, .row .u8 1 (.cell (.cap (.slot 5) 0) 0) false, .segs [.sl 3 1 .whole] (.cap (.slot 5) 0) true, .fn 5 71 [.ptr 4 1], .slot 22 (.int .i64)], [.segs [.const (.bool (some false) false), .const (.bool (some false) false), .hole (.is .i64 3), .hole (.is .i64 3), .hole (.is .i64 2), .hole (.is .i64 16)] (.slot 2) true, .ptr 2 1 26, .segs [.hole (.bool), .hole (.bool), .hole (.is .i64 3), .hole (.is .i64 3), .hole (.is .i64 2), .hole (.is .i64 16)] (.slot 4) true, .ptr 4 2 26, .row .u8 1 (.cell (.cap (.slot 5) 0) 0) false, .segs [.sl 3 1 .whole] (.cap (.slot 5) 0) true, .fn 5 71 [.ptr 4 1]], 0, fun k => u12 (etcone_Parts_l0 F k), fun k => u12 (etcone_Parts_l0S F (etcone_Parts_l0 F k))⟩
theorem etcone_Parts_l0k (F : Nat) : (etcone_Parts_l0t F).ok Try.prog Try.f45 F :=
  okL callable (etcone_Parts_all F) [] aN (fun _ => rfl) (fun _ _ => rfl) fun k d => by kernel_rfl

def etcone_Parts_l2t (F : Nat) : TL := ⟨95, [.segs [.const (.bool (some false) false), .const (.bool (some false) false), .hole (.is .i64 3), .hole (.is .i64 3), .hole (.is .i64 2), .hole (.is .i64 16)] (.slot 2) true, .ptr 2 1 26, .segs [.hole (.bool), .hole (.bool), .hole (.is .i64 3), .hole (.is .i64 3), .hole (.is .i64 2), .hole (.is .i64 16)] (.slot 4) true, .ptr 4 2 26, .row .u8 1 (.cell (.cap (.slot 5) 0) 0) false, .segs [.sl 3 1 .whole] (.cap (.slot 5) 0) true, .fn 5 71 [.ptr 4 1], .slot 75 (.int .i64)], [.segs [.const (.bool (some false) false), .const (.bool (some false) false), .hole (.is .i64 3), .hole (.is .i64 3), .hole (.is .i64 2), .hole (.is .i64 16)] (.slot 2) true, .ptr 2 1 26, .segs [.hole (.bool), .hole (.bool), .hole (.is .i64 3), .hole (.is .i64 3), .hole (.is .i64 2), .hole (.is .i64 16)] (.slot 4) true, .ptr 4 2 26], 2, fun k => u12 (etcone_Parts_l2 F k), fun k => u12 (etcone_Parts_l2S F (etcone_Parts_l2 F k))⟩
theorem etcone_Parts_l2k (F : Nat) : (etcone_Parts_l2t F).ok Try.prog Try.f45 F :=
  okL callable (etcone_Parts_all F) [] aN (fun _ => rfl) (fun _ _ => rfl) fun k d => by kernel_rfl

def etcone_Parts_told (F : Nat) : ToldF := ⟨45, 1, [.row .u8 1 (.slot 0) false], [.ty (.agg [.bool, .bool, .is .i64 3, .is .i64 3, .is .i64 2, .is .i64 16]), .ty (.int .i64)], u1 (etcone_Parts F)⟩
theorem etcone_Parts_ok (F : Nat) : (etcone_Parts_told F).ok Try.prog :=
  okF callable (etcone_Parts_all F) (fn := Try.f45) [(0, (etcone_Parts_l0t F).ann F), (2, (etcone_Parts_l2t F).ann F)] (by kernel_rfl) (aL (by kernel_rfl) (etcone_Parts_l0k F) (aL (by kernel_rfl) (etcone_Parts_l2k F) aN)) fun d => by kernel_rfl

def etcone_Bases_tab (F : Nat) : List ToldF := [level_Wide_told F]
theorem etcone_Bases_all (F : Nat) : AllOk Try.prog (etcone_Bases_tab F) := ⟨level_Wide_ok F, trivial⟩

def etcone_Bases_l0t (F : Nat) : TL := ⟨61, [.segs [.hole (.bool), .hole (.bool), .hole (.is .i64 3), .hole (.is .i64 3), .hole (.is .i64 2), .hole (.is .i64 16)] (.slot 1) true, .ptr 1 1 26, .segs [.hole (.is .i64 8)] (.slot 2) true, .ptr 2 2 8, .segs [.hole (.is .i64 8)] (.slot 4) true, .ptr 4 3 8, .slot 5 (.int .i64), .slot 13 (.int .i64)], [.segs [.hole (.is .i64 8)] (.slot 2) true, .ptr 2 1 8, .segs [.hole (.is .i64 8)] (.slot 4) true, .ptr 4 2 8, .slot 5 (.int .i64)], 0, fun k => u10 (etcone_Bases_l0 F k), fun k => u10 (etcone_Bases_l0S F (etcone_Bases_l0 F k))⟩
theorem etcone_Bases_l0k (F : Nat) : (etcone_Bases_l0t F).ok Try.prog Try.f73 F :=
  okL callable (etcone_Bases_all F) [] aN (fun _ => rfl) (fun _ _ => rfl) fun k d => by kernel_rfl

def etcone_Bases_told (F : Nat) : ToldF := ⟨73, 1, [.slot 0 (.agg [.bool, .bool, .is .i64 3, .is .i64 3, .is .i64 2, .is .i64 16])], [.ty (.is .i64 8), .ty (.int .i64)], u1 (etcone_Bases F)⟩
theorem etcone_Bases_ok (F : Nat) : (etcone_Bases_told F).ok Try.prog :=
  okF callable (etcone_Bases_all F) (fn := Try.f73) [(0, (etcone_Bases_l0t F).ann F)] (by kernel_rfl) (aL (by kernel_rfl) (etcone_Bases_l0k F) aN) fun d => by kernel_rfl

def etcone_Half_tab (F : Nat) : List ToldF := []
theorem etcone_Half_all (F : Nat) : AllOk Try.prog (etcone_Half_tab F) := trivial

def etcone_Half_told (F : Nat) : ToldF := ⟨74, 2, [.slot 0 (.bool), .slot 1 (.int .i64)], [.ty (.int .i64)], u2 (etcone_Half F)⟩
theorem etcone_Half_ok (F : Nat) : (etcone_Half_told F).ok Try.prog :=
  okF callable (etcone_Half_all F) (fn := Try.f74) [] (by kernel_rfl) aN fun d => by kernel_rfl

def etcone_Table_tab (F : Nat) : List ToldF := []
theorem etcone_Table_all (F : Nat) : AllOk Try.prog (etcone_Table_tab F) := trivial

def etcone_Table_told (F : Nat) : ToldF := ⟨75, 1, [.slot 0 (.int .i64)], [.ty (.is .i64 4)], u1 (etcone_Table F)⟩
theorem etcone_Table_ok (F : Nat) : (etcone_Table_told F).ok Try.prog :=
  okF callable (etcone_Table_all F) (fn := Try.f75) [] (by kernel_rfl) aN fun d => by kernel_rfl

def etcone_Paint_tab (F : Nat) : List ToldF := [level_Clamp_told F, etcone_Bases_told F, etcone_Half_told F, etcone_Table_told F]
theorem etcone_Paint_all (F : Nat) : AllOk Try.prog (etcone_Paint_tab F) := ⟨level_Clamp_ok F, etcone_Bases_ok F, etcone_Half_ok F, etcone_Table_ok F, trivial⟩

def etcone_Paint_l2t (F : Nat) : TL := ⟨55, [.segs [.hole (.bool), .hole (.bool), .hole (.is .i64 3), .hole (.is .i64 3), .hole (.is .i64 2), .hole (.is .i64 16)] (.slot 1) true, .ptr 1 1 26, .segs [.hole (.is .i64 64)] (.slot 2) true, .ptr 2 2 64, .segs [.hole (.is .i64 8)] (.slot 3) true, .ptr 3 3 8, .segs [.hole (.is .i64 64)] (.slot 5) true, .ptr 5 4 64, .slot 6 (.int .i64), .slot 7 (.int .i64), .slot 8 (.int .i64), .slot 16 (.is .i64 16), .slot 17 (.int .i64), .slot 30 (.int .i64)], [.segs [.hole (.bool), .hole (.bool), .hole (.is .i64 3), .hole (.is .i64 3), .hole (.is .i64 2), .hole (.is .i64 16)] (.slot 1) true, .ptr 1 1 26, .segs [.hole (.is .i64 64)] (.slot 2) true, .ptr 2 2 64, .segs [.hole (.is .i64 8)] (.slot 3) true, .ptr 3 3 8, .segs [.hole (.is .i64 64)] (.slot 5) true, .ptr 5 4 64, .slot 16 (.is .i64 16), .slot 17 (.int .i64)], 2, fun k => u15 (etcone_Paint_l2 F k), fun k => u15 (etcone_Paint_l2S F (etcone_Paint_l2 F k))⟩
theorem etcone_Paint_l2k (F : Nat) : (etcone_Paint_l2t F).ok Try.prog Try.f46 F :=
  okL callable (etcone_Paint_all F) [] aN (fun _ => rfl) (fun _ _ => rfl) fun k d => by kernel_rfl

def etcone_Paint_l0t (F : Nat) : TL := ⟨55, [.segs [.hole (.bool), .hole (.bool), .hole (.is .i64 3), .hole (.is .i64 3), .hole (.is .i64 2), .hole (.is .i64 16)] (.slot 1) true, .ptr 1 1 26, .segs [.hole (.is .i64 64)] (.slot 2) true, .ptr 2 2 64, .segs [.hole (.is .i64 8)] (.slot 3) true, .ptr 3 3 8, .segs [.hole (.is .i64 64)] (.slot 5) true, .ptr 5 4 64, .slot 16 (.is .i64 16), .slot 17 (.int .i64)], [.segs [.hole (.is .i64 64)] (.slot 2) true, .ptr 2 1 64, .segs [.hole (.is .i64 64)] (.slot 5) true, .ptr 5 2 64], 0, fun k => u11 (etcone_Paint_l0 F k), fun k => u11 (etcone_Paint_l0S F (etcone_Paint_l0 F k))⟩
theorem etcone_Paint_l0k (F : Nat) : (etcone_Paint_l0t F).ok Try.prog Try.f46 F :=
  okL callable (etcone_Paint_all F) [(2, (etcone_Paint_l2t F).ann F)] (aL (by kernel_rfl) (etcone_Paint_l2k F) aN) (fun _ => rfl) (fun _ _ => rfl) fun k d => by kernel_rfl

def etcone_Paint_told (F : Nat) : ToldF := ⟨46, 1, [.slot 0 (.agg [.bool, .bool, .is .i64 3, .is .i64 3, .is .i64 2, .is .i64 16])], [.ty (.is .i64 64)], u1 (etcone_Paint F)⟩
theorem etcone_Paint_ok (F : Nat) : (etcone_Paint_told F).ok Try.prog :=
  okF callable (etcone_Paint_all F) (fn := Try.f46) [(2, (etcone_Paint_l2t F).ann F), (0, (etcone_Paint_l0t F).ann F)] (by kernel_rfl) (aL (by kernel_rfl) (etcone_Paint_l2k F) (aL (by kernel_rfl) (etcone_Paint_l0k F) aN)) fun d => by kernel_rfl

def etcone_Decode_tab (F : Nat) : List ToldF := [etcone_Parts_told F, etcone_Paint_told F]
theorem etcone_Decode_all (F : Nat) : AllOk Try.prog (etcone_Decode_tab F) := ⟨etcone_Parts_ok F, etcone_Paint_ok F, trivial⟩

def etcone_Decode_told (F : Nat) : ToldF := ⟨30, 1, [.row .u8 1 (.slot 0) false], [.ty (.is .i64 64), .ty (.int .i64)], u1 (etcone_Decode F)⟩
theorem etcone_Decode_ok (F : Nat) : (etcone_Decode_told F).ok Try.prog :=
  okF callable (etcone_Decode_all F) (fn := Try.f30) [] (by kernel_rfl) aN fun d => by kernel_rfl

def bits_fits_tab (F : Nat) : List ToldF := [bits_check_told F]
theorem bits_fits_all (F : Nat) : AllOk Try.prog (bits_fits_tab F) := ⟨bits_check_ok F, trivial⟩

def bits_fits_told (F : Nat) : ToldF := ⟨93, 4, [.row .u8 1 (.slot 0) false, .slot 1 (.int .i64), .slot 2 (.int .i64), .slot 3 (.int .u64)], [.ty (.int .i64)], u4 (bits_fits F)⟩
theorem bits_fits_ok (F : Nat) : (bits_fits_told F).ok Try.prog :=
  okF callable (bits_fits_all F) (fn := Try.f93) [] (by kernel_rfl) aN fun d => by kernel_rfl

def slices_Clone_byte_byte_told (F : Nat) : ToldF := ⟨94, 1, [.row .u8 1 (.slot 0) false], [.row .u8 1], fun d => slices_Clone_byte_byte F d.1⟩
theorem slices_Clone_byte_byte_ok (F : Nat) : (slices_Clone_byte_byte_told F).ok Try.prog :=
  clone_spec callable (fn := Try.f94) (f := 94) (k := .u8) (sz := 1) (R0 := cloneR0 (bodyOf Try.f94)) (X := cloneX (bodyOf Try.f94)) (REST := cloneRest (bodyOf Try.f94)) (o3 := cloneO3 (bodyOf Try.f94)) (o4 := cloneO4 (bodyOf Try.f94)) (t := 22) (t' := 22) (e := 5) (i1 := 1) (by kernel_rfl) (by kernel_rfl) (by kernel_rfl) (by kernel_rfl) (by kernel_rfl) (by kernel_rfl) (by kernel_rfl)
    (cloneS1 1 .u8) (cloneS2 1 .u8)
    (fun l => by kernel_rfl) (fun l => by kernel_rfl) (fun l => ⟨rfl, rfl⟩) (fun l => by simp [cloneS2]) (fun l => by kernel_rfl) (fun l => by kernel_rfl)

def bits_set_tab (F : Nat) : List ToldF := []
theorem bits_set_all (F : Nat) : AllOk Try.prog (bits_set_tab F) := trivial

def bits_set_told (F : Nat) : ToldF := ⟨95, 3, [.slot 0 (.int .u8), .slot 1 (.int .i64), .slot 2 (.int .u64)], [.ty (.int .u8)], u3 (bits_set F)⟩
theorem bits_set_ok (F : Nat) : (bits_set_told F).ok Try.prog :=
  okF callable (bits_set_all F) (fn := Try.f95) [] (by kernel_rfl) aN fun d => by kernel_rfl

def bits_SetHigh_tab (F : Nat) : List ToldF := [bits_fits_told F, slices_Clone_byte_byte_told F, bits_set_told F]
theorem bits_SetHigh_all (F : Nat) : AllOk Try.prog (bits_SetHigh_tab F) := ⟨bits_fits_ok F, slices_Clone_byte_byte_ok F, bits_set_ok F, trivial⟩

def bits_SetHigh_l0t (F : Nat) : TL := ⟨52, [.slot 1 (.int .i64), .slot 2 (.int .i64), .slot 3 (.int .u64), .row .u8 1 (.slot 11) true, .slot 24 (.int .i64), .slot 25 (.int .i64)], [.row .u8 1 (.slot 11) true], 0, fun k => u6 (bits_SetHigh_l0 F k), fun k => u6 (bits_SetHigh_l0S F (bits_SetHigh_l0 F k))⟩
theorem bits_SetHigh_l0k (F : Nat) : (bits_SetHigh_l0t F).ok Try.prog Try.f77 F :=
  okL callable (bits_SetHigh_all F) [] aN (fun _ => rfl) (fun _ _ => rfl) fun k d => by kernel_rfl

def bits_SetHigh_told (F : Nat) : ToldF := ⟨77, 4, [.row .u8 1 (.slot 0) false, .slot 1 (.int .i64), .slot 2 (.int .i64), .slot 3 (.int .u64)], [.row .u8 1, .ty (.int .i64)], u4 (bits_SetHigh F)⟩
theorem bits_SetHigh_ok (F : Nat) : (bits_SetHigh_told F).ok Try.prog :=
  okF callable (bits_SetHigh_all F) (fn := Try.f77) [(0, (bits_SetHigh_l0t F).ann F)] (by kernel_rfl) (aL (by kernel_rfl) (bits_SetHigh_l0k F) aN) fun d => by kernel_rfl

def etctwo_block_get_tab (F : Nat) : List ToldF := [bits_High_told F]
theorem etctwo_block_get_all (F : Nat) : AllOk Try.prog (etctwo_block_get_tab F) := ⟨bits_High_ok F, trivial⟩

def etctwo_block_get_l0t (F : Nat) : TL := ⟨30, [.row .u8 1 (.cell (.slot 2) 0) false, .segs [.sl 1 1 .whole, .hole (.bool), .hole (.bool), .hole (.is .i64 3), .hole (.is .i64 3), .hole (.is .i64 2), .hole (.is .i64 16), .hole (.bool)] (.slot 2) true, .ptr 2 2 28, .slot 5 (.int .i64), .row .i64 1 (.slot 10) false, .slot 11 (.int .i64), .slot 12 (.int .i64)], [.slot 5 (.int .i64)], 0, fun k => u12 (etctwo_block_get_l0 F k), fun k => u12 (etctwo_block_get_l0S F (etctwo_block_get_l0 F k))⟩
theorem etctwo_block_get_l0k (F : Nat) : (etctwo_block_get_l0t F).ok Try.prog Try.f76 F :=
  okL callable (etctwo_block_get_all F) [] aN (fun _ => rfl) (fun _ _ => rfl) fun k d => by kernel_rfl

def etctwo_block_get_told (F : Nat) : ToldF := ⟨76, 2, [.row .u8 1 (.part (.slot 0) 0) false, .cells 0 [.sl 1 1 .whole, .hole (.bool), .hole (.bool), .hole (.is .i64 3), .hole (.is .i64 3), .hole (.is .i64 2), .hole (.is .i64 16), .hole (.bool)], .row .i64 1 (.slot 1) false], [.ty (.int .i64)], u9 (etctwo_block_get F)⟩
theorem etctwo_block_get_ok (F : Nat) : (etctwo_block_get_told F).ok Try.prog :=
  okF callable (etctwo_block_get_all F) (fn := Try.f76) [(0, (etctwo_block_get_l0t F).ann F)] (by kernel_rfl) (aL (by kernel_rfl) (etctwo_block_get_l0k F) aN) fun d => by kernel_rfl

def etctwo_read_tab (F : Nat) : List ToldF := [etcone_Parts_told F, bits_SetHigh_told F, etctwo_block_get_told F]
theorem etctwo_read_all (F : Nat) : AllOk Try.prog (etctwo_read_tab F) := ⟨etcone_Parts_ok F, bits_SetHigh_ok F, etctwo_block_get_ok F, trivial⟩

def etctwo_read_told (F : Nat) : ToldF := ⟨47, 2, [.row .u8 1 (.slot 0) false, .slot 1 (.bool)], [.agg [.row .u8 1 false, .hole (.bool), .hole (.bool), .hole (.is .i64 3), .hole (.is .i64 3), .hole (.is .i64 2), .hole (.is .i64 16), .hole (.bool)]], u2 (etctwo_read F)⟩
theorem etctwo_read_ok (F : Nat) : (etctwo_read_told F).ok Try.prog :=
  okF callable (etctwo_read_all F) (fn := Try.f47) [] (by kernel_rfl) aN fun d => by kernel_rfl

def etctwo_block_kind_tab (F : Nat) : List ToldF := [etcone_Bases_told F]
theorem etctwo_block_kind_all (F : Nat) : AllOk Try.prog (etctwo_block_kind_tab F) := ⟨etcone_Bases_ok F, trivial⟩

def etctwo_block_kind_told (F : Nat) : ToldF := ⟨48, 1, [.row .u8 1 (.part (.slot 0) 0) false, .cells 0 [.sl 1 1 .whole, .hole (.bool), .hole (.bool), .hole (.is .i64 3), .hole (.is .i64 3), .hole (.is .i64 2), .hole (.is .i64 16), .hole (.bool)]], [.ty (.int .i64)], u8 (etctwo_block_kind F)⟩
theorem etctwo_block_kind_ok (F : Nat) : (etctwo_block_kind_told F).ok Try.prog :=
  okF callable (etctwo_block_kind_all F) (fn := Try.f48) [] (by kernel_rfl) aN fun d => by kernel_rfl

def etctwo_block_halves_tab (F : Nat) : List ToldF := [etcone_Bases_told F, etcone_Half_told F, etcone_Paint_told F]
theorem etctwo_block_halves_all (F : Nat) : AllOk Try.prog (etctwo_block_halves_tab F) := ⟨etcone_Bases_ok F, etcone_Half_ok F, etcone_Paint_ok F, trivial⟩

def etctwo_block_halves_l0t (F : Nat) : TL := ⟨42, [.row .u8 1 (.cell (.slot 1) 0) false, .segs [.sl 1 1 .whole, .hole (.bool), .hole (.bool), .hole (.is .i64 3), .hole (.is .i64 3), .hole (.is .i64 2), .hole (.is .i64 16), .hole (.bool)] (.slot 1) true, .ptr 1 2 28, .segs [.hole (.is .i64 64)] (.slot 2) true, .ptr 2 3 64, .segs [.hole (.is .i64 64)] (.slot 3) true, .ptr 3 4 64, .segs [.hole (.is .i64 8)] (.slot 4) true, .ptr 4 5 8, .slot 19 (.is .i64 16), .slot 20 (.int .i64)], [.segs [.hole (.is .i64 64)] (.slot 2) true, .ptr 2 1 64, .segs [.hole (.is .i64 64)] (.slot 3) true, .ptr 3 2 64], 0, fun k => u13 (etctwo_block_halves_l0 F k), fun k => u13 (etctwo_block_halves_l0S F (etctwo_block_halves_l0 F k))⟩
theorem etctwo_block_halves_l0k (F : Nat) : (etctwo_block_halves_l0t F).ok Try.prog Try.f49 F :=
  okL callable (etctwo_block_halves_all F) [] aN (fun _ => rfl) (fun _ _ => rfl) fun k d => by kernel_rfl

def etctwo_block_halves_told (F : Nat) : ToldF := ⟨49, 1, [.row .u8 1 (.part (.slot 0) 0) false, .cells 0 [.sl 1 1 .whole, .hole (.bool), .hole (.bool), .hole (.is .i64 3), .hole (.is .i64 3), .hole (.is .i64 2), .hole (.is .i64 16), .hole (.bool)]], [.ty (.is .i64 64)], u8 (etctwo_block_halves F)⟩
theorem etctwo_block_halves_ok (F : Nat) : (etctwo_block_halves_told F).ok Try.prog :=
  okF callable (etctwo_block_halves_all F) (fn := Try.f49) [(0, (etctwo_block_halves_l0t F).ann F)] (by kernel_rfl) (aL (by kernel_rfl) (etctwo_block_halves_l0k F) aN) fun d => by kernel_rfl

def etctwo_block_run_tab (F : Nat) : List ToldF := [bits_High_told F]
theorem etctwo_block_run_all (F : Nat) : AllOk Try.prog (etctwo_block_run_tab F) := ⟨bits_High_ok F, trivial⟩

def etctwo_block_run_told (F : Nat) : ToldF := ⟨79, 3, [.row .u8 1 (.part (.slot 0) 0) false, .cells 0 [.sl 1 1 .whole, .hole (.bool), .hole (.bool), .hole (.is .i64 3), .hole (.is .i64 3), .hole (.is .i64 2), .hole (.is .i64 16), .hole (.bool)], .slot 1 (.int .i64), .slot 2 (.int .i64)], [.ty (.int .i64)], u10 (etctwo_block_run F)⟩
theorem etctwo_block_run_ok (F : Nat) : (etctwo_block_run_told F).ok Try.prog :=
  okF callable (etctwo_block_run_all F) (fn := Try.f79) [] (by kernel_rfl) aN fun d => by kernel_rfl

def etctwo_wide_tab (F : Nat) : List ToldF := [level_Wide_told F]
theorem etctwo_wide_all (F : Nat) : AllOk Try.prog (etctwo_wide_tab F) := ⟨level_Wide_ok F, trivial⟩

def etctwo_wide_l0t (F : Nat) : TL := ⟨23, [.segs [.hole (.is .i64 3)] (.slot 3) true, .ptr 3 1 3, .segs [.hole (.is .i64 4)] (.slot 4) true, .ptr 4 2 4, .segs [.hole (.is .i64 4)] (.slot 5) true, .ptr 5 3 4, .slot 9 (.is .i64 3), .slot 10 (.int .i64)], [.segs [.hole (.is .i64 4)] (.slot 4) true, .ptr 4 1 4, .segs [.hole (.is .i64 4)] (.slot 5) true, .ptr 5 2 4], 0, fun k => u5 (etctwo_wide_l0 F k), fun k => u5 (etctwo_wide_l0S F (etctwo_wide_l0 F k))⟩
theorem etctwo_wide_l0k (F : Nat) : (etctwo_wide_l0t F).ok Try.prog Try.f96 F :=
  okL callable (etctwo_wide_all F) [] aN (fun _ => rfl) (fun _ _ => rfl) fun k d => by kernel_rfl

def etctwo_wide_told (F : Nat) : ToldF := ⟨96, 2, [.slot 0 (.is .i64 3), .slot 1 (.is .i64 3)], [.ty (.is .i64 4)], u2 (etctwo_wide F)⟩
theorem etctwo_wide_ok (F : Nat) : (etctwo_wide_told F).ok Try.prog :=
  okF callable (etctwo_wide_all F) (fn := Try.f96) [(0, (etctwo_wide_l0t F).ann F)] (by kernel_rfl) (aL (by kernel_rfl) (etctwo_wide_l0k F) aN) fun d => by kernel_rfl

def etctwo_plain_tab (F : Nat) : List ToldF := [etctwo_wide_told F]
theorem etctwo_plain_all (F : Nat) : AllOk Try.prog (etctwo_plain_tab F) := ⟨etctwo_wide_ok F, trivial⟩

def etctwo_plain_told (F : Nat) : ToldF := ⟨78, 1, [.slot 0 (.is .i64 3)], [.ty (.is .i64 4)], u1 (etctwo_plain F)⟩
theorem etctwo_plain_ok (F : Nat) : (etctwo_plain_told F).ok Try.prog :=
  okF callable (etctwo_plain_all F) (fn := Try.f78) [] (by kernel_rfl) aN fun d => by kernel_rfl

def etctwo_Distance_tab (F : Nat) : List ToldF := []
theorem etctwo_Distance_all (F : Nat) : AllOk Try.prog (etctwo_Distance_tab F) := trivial

def etctwo_Distance_told (F : Nat) : ToldF := ⟨80, 1, [.slot 0 (.int .i64)], [.ty (.int .i64)], u1 (etctwo_Distance F)⟩
theorem etctwo_Distance_ok (F : Nat) : (etctwo_Distance_told F).ok Try.prog :=
  okF callable (etctwo_Distance_all F) (fn := Try.f80) [] (by kernel_rfl) aN fun d => by kernel_rfl

def etctwo_moved_tab (F : Nat) : List ToldF := [level_Clamp_told F]
theorem etctwo_moved_all (F : Nat) : AllOk Try.prog (etctwo_moved_tab F) := ⟨level_Clamp_ok F, trivial⟩

def etctwo_moved_l0t (F : Nat) : TL := ⟨19, [.slot 1 (.int .i64), .segs [.hole (.is .i64 4)] (.slot 2) true, .ptr 2 1 4, .segs [.hole (.is .i64 4)] (.slot 4) true, .ptr 4 2 4, .slot 6 (.int .i64)], [.segs [.hole (.is .i64 4)] (.slot 2) true, .ptr 2 1 4, .segs [.hole (.is .i64 4)] (.slot 4) true, .ptr 4 2 4], 0, fun k => u4 (etctwo_moved_l0 F k), fun k => u4 (etctwo_moved_l0S F (etctwo_moved_l0 F k))⟩
theorem etctwo_moved_l0k (F : Nat) : (etctwo_moved_l0t F).ok Try.prog Try.f82 F :=
  okL callable (etctwo_moved_all F) [] aN (fun _ => rfl) (fun _ _ => rfl) fun k d => by kernel_rfl

def etctwo_moved_told (F : Nat) : ToldF := ⟨82, 2, [.slot 0 (.is .i64 4), .slot 1 (.int .i64)], [.ty (.is .i64 4)], u2 (etctwo_moved F)⟩
theorem etctwo_moved_ok (F : Nat) : (etctwo_moved_told F).ok Try.prog :=
  okF callable (etctwo_moved_all F) (fn := Try.f82) [(0, (etctwo_moved_l0t F).ann F)] (by kernel_rfl) (aL (by kernel_rfl) (etctwo_moved_l0k F) aN) fun d => by kernel_rfl

def etctwo_block_four_tab (F : Nat) : List ToldF := []
theorem etctwo_block_four_all (F : Nat) : AllOk Try.prog (etctwo_block_four_tab F) := trivial

def etctwo_block_four_l0t (F : Nat) : TL := ⟨22, [.segs [.hole (.is .i64 16)] (.slot 3) true, .ptr 3 1 16, .segs [.hole (.is .i64 64)] (.slot 4) true, .ptr 4 2 64, .segs [.hole (.is .i64 64)] (.slot 5) true, .ptr 5 3 64, .slot 10 (.is .i64 16), .slot 11 (.int .i64)], [.segs [.hole (.is .i64 64)] (.slot 4) true, .ptr 4 1 64, .segs [.hole (.is .i64 64)] (.slot 5) true, .ptr 5 2 64], 0, fun k => u5 (etctwo_block_four_l0 F k), fun k => u5 (etctwo_block_four_l0S F (etctwo_block_four_l0 F k))⟩
theorem etctwo_block_four_l0k (F : Nat) : (etctwo_block_four_l0t F).ok Try.prog Try.f81 F :=
  okL callable (etctwo_block_four_all F) [] aN (fun _ => rfl) (fun _ _ => rfl) fun k d => by kernel_rfl

def etctwo_block_four_told (F : Nat) : ToldF := ⟨81, 2, [.row .u8 1 (.part (.slot 0) 0) false, .cells 0 [.sl 1 1 .whole, .hole (.bool), .hole (.bool), .hole (.is .i64 3), .hole (.is .i64 3), .hole (.is .i64 2), .hole (.is .i64 16), .hole (.bool)], .slot 1 (.is .i64 16)], [.ty (.is .i64 64)], u9 (etctwo_block_four F)⟩
theorem etctwo_block_four_ok (F : Nat) : (etctwo_block_four_told F).ok Try.prog :=
  okF callable (etctwo_block_four_all F) (fn := Try.f81) [(0, (etctwo_block_four_l0t F).ann F)] (by kernel_rfl) (aL (by kernel_rfl) (etctwo_block_four_l0k F) aN) fun d => by kernel_rfl

def etctwo_block_ofT_tab (F : Nat) : List ToldF := [etctwo_block_get_told F, etctwo_block_run_told F, etctwo_plain_told F, etctwo_Distance_told F, etctwo_moved_told F, etctwo_block_four_told F]
theorem etctwo_block_ofT_all (F : Nat) : AllOk Try.prog (etctwo_block_ofT_tab F) := ⟨etctwo_block_get_ok F, etctwo_block_run_ok F, etctwo_plain_ok F, etctwo_Distance_ok F, etctwo_moved_ok F, etctwo_block_four_ok F, trivial⟩

def etctwo_block_ofT_told (F : Nat) : ToldF := ⟨50, 1, [.row .u8 1 (.part (.slot 0) 0) false, .cells 0 [.sl 1 1 .whole, .hole (.bool), .hole (.bool), .hole (.is .i64 3), .hole (.is .i64 3), .hole (.is .i64 2), .hole (.is .i64 16), .hole (.bool)]], [.ty (.is .i64 64)], u8 (etctwo_block_ofT F)⟩
theorem etctwo_block_ofT_ok (F : Nat) : (etctwo_block_ofT_told F).ok Try.prog :=
  okF callable (etctwo_block_ofT_all F) (fn := Try.f50) [] (by kernel_rfl) aN fun d => by kernel_rfl

def etctwo_block_ofH_tab (F : Nat) : List ToldF := [etctwo_block_get_told F, etctwo_block_run_told F, etctwo_plain_told F, etctwo_Distance_told F, etctwo_moved_told F, etctwo_block_four_told F]
theorem etctwo_block_ofH_all (F : Nat) : AllOk Try.prog (etctwo_block_ofH_tab F) := ⟨etctwo_block_get_ok F, etctwo_block_run_ok F, etctwo_plain_ok F, etctwo_Distance_ok F, etctwo_moved_ok F, etctwo_block_four_ok F, trivial⟩

def etctwo_block_ofH_told (F : Nat) : ToldF := ⟨51, 1, [.row .u8 1 (.part (.slot 0) 0) false, .cells 0 [.sl 1 1 .whole, .hole (.bool), .hole (.bool), .hole (.is .i64 3), .hole (.is .i64 3), .hole (.is .i64 2), .hole (.is .i64 16), .hole (.bool)]], [.ty (.is .i64 64)], u8 (etctwo_block_ofH F)⟩
theorem etctwo_block_ofH_ok (F : Nat) : (etctwo_block_ofH_told F).ok Try.prog :=
  okF callable (etctwo_block_ofH_all F) (fn := Try.f51) [] (by kernel_rfl) aN fun d => by kernel_rfl

def etctwo_plane_tab (F : Nat) : List ToldF := [etctwo_wide_told F]
theorem etctwo_plane_all (F : Nat) : AllOk Try.prog (etctwo_plane_tab F) := ⟨etctwo_wide_ok F, trivial⟩

def etctwo_plane_told (F : Nat) : ToldF := ⟨84, 1, [.slot 0 (.is .i64 3)], [.ty (.is .i64 4)], u1 (etctwo_plane F)⟩
theorem etctwo_plane_ok (F : Nat) : (etctwo_plane_told F).ok Try.prog :=
  okF callable (etctwo_plane_all F) (fn := Try.f84) [] (by kernel_rfl) aN fun d => by kernel_rfl

def etctwo_Plane_tab (F : Nat) : List ToldF := [level_Clamp_told F]
theorem etctwo_Plane_all (F : Nat) : AllOk Try.prog (etctwo_Plane_tab F) := ⟨level_Clamp_ok F, trivial⟩

def etctwo_Plane_l2t (F : Nat) : TL := ⟨57, [.segs [.hole (.is .i64 4)] (.slot 3) true, .ptr 3 1 4, .segs [.hole (.is .i64 4)] (.slot 4) true, .ptr 4 2 4, .segs [.hole (.is .i64 4)] (.slot 5) true, .ptr 5 3 4, .segs [.hole (.is .i64 64)] (.slot 6) true, .ptr 6 4 64, .segs [.hole (.is .i64 64)] (.slot 7) true, .ptr 7 5 64, .slot 8 (.int .i64), .slot 11 (.int .i64), .slot 17 (.int .i64)], [.segs [.hole (.is .i64 4)] (.slot 3) true, .ptr 3 1 4, .segs [.hole (.is .i64 4)] (.slot 4) true, .ptr 4 2 4, .segs [.hole (.is .i64 4)] (.slot 5) true, .ptr 5 3 4, .segs [.hole (.is .i64 64)] (.slot 6) true, .ptr 6 4 64, .segs [.hole (.is .i64 64)] (.slot 7) true, .ptr 7 5 64, .slot 11 (.int .i64)], 2, fun k => u8 (etctwo_Plane_l2 F k), fun k => u8 (etctwo_Plane_l2S F (etctwo_Plane_l2 F k))⟩
theorem etctwo_Plane_l2k (F : Nat) : (etctwo_Plane_l2t F).ok Try.prog Try.f83 F :=
  okL callable (etctwo_Plane_all F) [] aN (fun _ => rfl) (fun _ _ => rfl) fun k d => by kernel_rfl

def etctwo_Plane_l0t (F : Nat) : TL := ⟨57, [.segs [.hole (.is .i64 4)] (.slot 3) true, .ptr 3 1 4, .segs [.hole (.is .i64 4)] (.slot 4) true, .ptr 4 2 4, .segs [.hole (.is .i64 4)] (.slot 5) true, .ptr 5 3 4, .segs [.hole (.is .i64 64)] (.slot 6) true, .ptr 6 4 64, .segs [.hole (.is .i64 64)] (.slot 7) true, .ptr 7 5 64, .slot 11 (.int .i64)], [.segs [.hole (.is .i64 64)] (.slot 6) true, .ptr 6 1 64, .segs [.hole (.is .i64 64)] (.slot 7) true, .ptr 7 2 64], 0, fun k => u6 (etctwo_Plane_l0 F k), fun k => u6 (etctwo_Plane_l0S F (etctwo_Plane_l0 F k))⟩
theorem etctwo_Plane_l0k (F : Nat) : (etctwo_Plane_l0t F).ok Try.prog Try.f83 F :=
  okL callable (etctwo_Plane_all F) [(2, (etctwo_Plane_l2t F).ann F)] (aL (by kernel_rfl) (etctwo_Plane_l2k F) aN) (fun _ => rfl) (fun _ _ => rfl) fun k d => by kernel_rfl

def etctwo_Plane_told (F : Nat) : ToldF := ⟨83, 3, [.slot 0 (.is .i64 4), .slot 1 (.is .i64 4), .slot 2 (.is .i64 4)], [.ty (.is .i64 64)], u3 (etctwo_Plane F)⟩
theorem etctwo_Plane_ok (F : Nat) : (etctwo_Plane_told F).ok Try.prog :=
  okF callable (etctwo_Plane_all F) (fn := Try.f83) [(2, (etctwo_Plane_l2t F).ann F), (0, (etctwo_Plane_l0t F).ann F)] (by kernel_rfl) (aL (by kernel_rfl) (etctwo_Plane_l2k F) (aL (by kernel_rfl) (etctwo_Plane_l0k F) aN)) fun d => by kernel_rfl

def etctwo_block_planar_tab (F : Nat) : List ToldF := [etctwo_block_get_told F, etctwo_block_run_told F, etctwo_plane_told F, etctwo_Plane_told F]
theorem etctwo_block_planar_all (F : Nat) : AllOk Try.prog (etctwo_block_planar_tab F) := ⟨etctwo_block_get_ok F, etctwo_block_run_ok F, etctwo_plane_ok F, etctwo_Plane_ok F, trivial⟩

def etctwo_block_planar_told (F : Nat) : ToldF := ⟨52, 1, [.row .u8 1 (.part (.slot 0) 0) false, .cells 0 [.sl 1 1 .whole, .hole (.bool), .hole (.bool), .hole (.is .i64 3), .hole (.is .i64 3), .hole (.is .i64 2), .hole (.is .i64 16), .hole (.bool)]], [.ty (.is .i64 64)], u8 (etctwo_block_planar F)⟩
theorem etctwo_block_planar_ok (F : Nat) : (etctwo_block_planar_told F).ok Try.prog :=
  okF callable (etctwo_block_planar_all F) (fn := Try.f52) [] (by kernel_rfl) aN fun d => by kernel_rfl

def etctwo_Decode_tab (F : Nat) : List ToldF := [etctwo_read_told F, etctwo_block_kind_told F, etctwo_block_halves_told F, etctwo_block_ofT_told F, etctwo_block_ofH_told F, etctwo_block_planar_told F]
theorem etctwo_Decode_all (F : Nat) : AllOk Try.prog (etctwo_Decode_tab F) := ⟨etctwo_read_ok F, etctwo_block_kind_ok F, etctwo_block_halves_ok F, etctwo_block_ofT_ok F, etctwo_block_ofH_ok F, etctwo_block_planar_ok F, trivial⟩

def etctwo_Decode_l0t (F : Nat) : TL := ⟨57, [.segs [.hole (.is .i64 64)] (.slot 4) true, .ptr 4 1 64, .row .u8 1 (.cell (.slot 6) 0) false, .segs [.sl 2 1 .whole, .hole (.bool), .hole (.bool), .hole (.is .i64 3), .hole (.is .i64 3), .hole (.is .i64 2), .hole (.is .i64 16), .hole (.bool)] (.slot 6) true, .ptr 6 3 28, .slot 7 (.int .i64), .segs [.hole (.is .i64 64)] (.slot 9) true, .ptr 9 4 64, .slot 36 (.is .i64 16), .slot 37 (.int .i64)], [.segs [.hole (.is .i64 64)] (.slot 4) true, .ptr 4 1 64, .segs [.hole (.is .i64 64)] (.slot 9) true, .ptr 9 2 64], 0, fun k => u13 (etctwo_Decode_l0 F k), fun k => u13 (etctwo_Decode_l0S F (etctwo_Decode_l0 F k))⟩
theorem etctwo_Decode_l0k (F : Nat) : (etctwo_Decode_l0t F).ok Try.prog Try.f31 F :=
  okL callable (etctwo_Decode_all F) [] aN (fun _ => rfl) (fun _ _ => rfl) fun k d => by kernel_rfl

def etctwo_Decode_told (F : Nat) : ToldF := ⟨31, 2, [.row .u8 1 (.slot 0) false, .slot 1 (.bool)], [.ty (.is .i64 64), .ty (.int .i64)], u2 (etctwo_Decode F)⟩
theorem etctwo_Decode_ok (F : Nat) : (etctwo_Decode_told F).ok Try.prog :=
  okF callable (etctwo_Decode_all F) (fn := Try.f31) [(0, (etctwo_Decode_l0t F).ann F)] (by kernel_rfl) (aL (by kernel_rfl) (etctwo_Decode_l0k F) aN) fun d => by kernel_rfl

def format_decode_tab (F : Nat) : List ToldF := [bcfour_Fours_told F, bcone_Decode_told F, format_plain_told F, format_with_told F, eac_Decode_told F, format_decode_c2_told F, format_blank_told F, bcseven_Decode_told F, etcone_Decode_told F, etctwo_Decode_told F]
theorem format_decode_all (F : Nat) : AllOk Try.prog (format_decode_tab F) := ⟨bcfour_Fours_ok F, bcone_Decode_ok F, format_plain_ok F, format_with_ok F, eac_Decode_ok F, format_decode_c2_ok F, format_blank_ok F, bcseven_Decode_ok F, etcone_Decode_ok F, etctwo_Decode_ok F, trivial⟩

def format_decode_told (F : Nat) : ToldF := ⟨15, 5, [.slot 0 (.int .i64), .slot 1 (.agg [.int .i64, .int .i64, .bool]), .row .u8 1 (.slot 2) false, .row .u8 1 (.slot 3) false, .row .u8 1 (.slot 4) false], [.ty (.is .i64 64), .ty (.int .i64)], u5 (format_decode F)⟩
theorem format_decode_ok (F : Nat) : (format_decode_told F).ok Try.prog :=
  okF callable (format_decode_all F) (fn := Try.f15) [] (by kernel_rfl) aN fun d => by kernel_rfl

def format_Decode_tab (F : Nat) : List ToldF := [format_Of_told F, format_decode_told F]
theorem format_Decode_all (F : Nat) : AllOk Try.prog (format_Decode_tab F) := ⟨format_Of_ok F, format_decode_ok F, trivial⟩

def format_Decode_told (F : Nat) : ToldF := ⟨8, 2, [.slot 0 (.int .i64), .row .u8 1 (.slot 1) false], [.ty (.is .i64 64), .ty (.int .i64)], u2 (format_Decode F)⟩
theorem format_Decode_ok (F : Nat) : (format_Decode_told F).ok Try.prog :=
  okF callable (format_Decode_all F) (fn := Try.f8) [] (by kernel_rfl) aN fun d => by kernel_rfl

def image_Tiles_tab (F : Nat) : List ToldF := []
theorem image_Tiles_all (F : Nat) : AllOk Try.prog (image_Tiles_tab F) := trivial

def image_Tiles_told (F : Nat) : ToldF := ⟨18, 2, [.slot 0 (.int .i64), .slot 1 (.int .i64)], [.ty (.int .i64), .ty (.int .i64)], u2 (image_Tiles F)⟩
theorem image_Tiles_ok (F : Nat) : (image_Tiles_told F).ok Try.prog :=
  okF callable (image_Tiles_all F) (fn := Try.f18) [] (by kernel_rfl) aN fun d => by kernel_rfl

def field_Times_tab (F : Nat) : List ToldF := []
theorem field_Times_all (F : Nat) : AllOk Try.prog (field_Times_tab F) := trivial

def field_Times_told (F : Nat) : ToldF := ⟨19, 2, [.slot 0 (.int .i64), .slot 1 (.int .i64)], [.ty (.int .i64), .ty (.int .i64)], u2 (field_Times F)⟩
theorem field_Times_ok (F : Nat) : (field_Times_told F).ok Try.prog :=
  okF callable (field_Times_all F) (fn := Try.f19) [] (by kernel_rfl) aN fun d => by kernel_rfl

def format_Bytes_tab (F : Nat) : List ToldF := [format_Of_told F, image_Tiles_told F, field_Times_told F]
theorem format_Bytes_all (F : Nat) : AllOk Try.prog (format_Bytes_tab F) := ⟨format_Of_ok F, image_Tiles_ok F, field_Times_ok F, trivial⟩

def format_Bytes_told (F : Nat) : ToldF := ⟨13, 3, [.slot 0 (.int .i64), .slot 1 (.int .i64), .slot 2 (.int .i64)], [.ty (.int .i64), .ty (.int .i64)], u3 (format_Bytes F)⟩
theorem format_Bytes_ok (F : Nat) : (format_Bytes_told F).ok Try.prog :=
  okF callable (format_Bytes_all F) (fn := Try.f13) [] (by kernel_rfl) aN fun d => by kernel_rfl

theorem codes_laid : laidOutB Try.prog = true := by kernel_rfl
theorem codes_pk : PairKeys Try.prog 50 := pairKeys (P := Try.prog) (k := 50) (f0 := fldAt Try.prog 50 0) (f1 := fldAt Try.prog 50 1) (m := Try.prog.types.size - 1) (by kernel_rfl) (by kernel_rfl) (by kernel_rfl) (by kernel_rfl) (by kernel_rfl) (by kernel_rfl) (by kernel_rfl) (by kernel_rfl) (by kernel_rfl) (by kernel_rfl) (by kernel_rfl) (by kernel_rfl) 
theorem codes_kd : Maps.Keyed Try.prog 50 := .of_law (deep_law_gate (P := Try.prog) codes_laid (of_decide_eq_true (by kernel_rfl)) (of_decide_eq_true (by kernel_rfl)) (by kernel_rfl) (by kernel_rfl) )
def codes_bl : List (Nat × Nat × Value) := codesT.zipIdx.map fun p => (2 * p.2 + 1, p.2 + 2, .agg #[.int .i64 p.1.1, .int .i64 p.1.2.1])
theorem codes_allB : AllB Try.prog (regArr (seqA (seqB (bodyOf Try.f17)))) codes_bl :=
  ⟨⟨opAt (seqA (seqB (bodyOf Try.f17))) 1, by kernel_rfl, by kernel_rfl, by kernel_rfl, fun _ _ => by kernel_rfl⟩, ⟨opAt (seqA (seqB (bodyOf Try.f17))) 3, by kernel_rfl, by kernel_rfl, by kernel_rfl, fun _ _ => by kernel_rfl⟩, ⟨opAt (seqA (seqB (bodyOf Try.f17))) 5, by kernel_rfl, by kernel_rfl, by kernel_rfl, fun _ _ => by kernel_rfl⟩, ⟨opAt (seqA (seqB (bodyOf Try.f17))) 7, by kernel_rfl, by kernel_rfl, by kernel_rfl, fun _ _ => by kernel_rfl⟩, ⟨opAt (seqA (seqB (bodyOf Try.f17))) 9, by kernel_rfl, by kernel_rfl, by kernel_rfl, fun _ _ => by kernel_rfl⟩, ⟨opAt (seqA (seqB (bodyOf Try.f17))) 11, by kernel_rfl, by kernel_rfl, by kernel_rfl, fun _ _ => by kernel_rfl⟩, ⟨opAt (seqA (seqB (bodyOf Try.f17))) 13, by kernel_rfl, by kernel_rfl, by kernel_rfl, fun _ _ => by kernel_rfl⟩, ⟨opAt (seqA (seqB (bodyOf Try.f17))) 15, by kernel_rfl, by kernel_rfl, by kernel_rfl, fun _ _ => by kernel_rfl⟩, ⟨opAt (seqA (seqB (bodyOf Try.f17))) 17, by kernel_rfl, by kernel_rfl, by kernel_rfl, fun _ _ => by kernel_rfl⟩, ⟨opAt (seqA (seqB (bodyOf Try.f17))) 19, by kernel_rfl, by kernel_rfl, by kernel_rfl, fun _ _ => by kernel_rfl⟩, ⟨opAt (seqA (seqB (bodyOf Try.f17))) 21, by kernel_rfl, by kernel_rfl, by kernel_rfl, fun _ _ => by kernel_rfl⟩, ⟨opAt (seqA (seqB (bodyOf Try.f17))) 23, by kernel_rfl, by kernel_rfl, by kernel_rfl, fun _ _ => by kernel_rfl⟩, ⟨opAt (seqA (seqB (bodyOf Try.f17))) 25, by kernel_rfl, by kernel_rfl, by kernel_rfl, fun _ _ => by kernel_rfl⟩, ⟨opAt (seqA (seqB (bodyOf Try.f17))) 27, by kernel_rfl, by kernel_rfl, by kernel_rfl, fun _ _ => by kernel_rfl⟩, ⟨opAt (seqA (seqB (bodyOf Try.f17))) 29, by kernel_rfl, by kernel_rfl, by kernel_rfl, fun _ _ => by kernel_rfl⟩, ⟨opAt (seqA (seqB (bodyOf Try.f17))) 31, by kernel_rfl, by kernel_rfl, by kernel_rfl, fun _ _ => by kernel_rfl⟩, ⟨opAt (seqA (seqB (bodyOf Try.f17))) 33, by kernel_rfl, by kernel_rfl, by kernel_rfl, fun _ _ => by kernel_rfl⟩, ⟨opAt (seqA (seqB (bodyOf Try.f17))) 35, by kernel_rfl, by kernel_rfl, by kernel_rfl, fun _ _ => by kernel_rfl⟩, trivial⟩
theorem codes_codesAt : CodesAt Try.prog 17 :=
  codes_at (P := Try.prog) (f := 17) (fn := Try.f17) (i0 := blkId (seqA (bodyOf Try.f17))) (ops0 := regArr (seqA (bodyOf Try.f17))) (i1 := blkId (seqA (seqB (bodyOf Try.f17)))) (ops := regArr (seqA (seqB (bodyOf Try.f17)))) (n := 21) (T := 47) (K := 50) (E := 3) (oz := opAt (seqA (bodyOf Try.f17)) 0) (om := opAt (seqA (seqB (bodyOf Try.f17))) 0) (o37 := opAt (seqA (seqB (bodyOf Try.f17))) 37) (o38 := opAt (seqA (seqB (bodyOf Try.f17))) 38) (dm := 1) (d37 := 20) (bl := codes_bl)
    (by kernel_rfl) (by kernel_rfl) (by kernel_rfl) (by kernel_rfl) (by kernel_rfl) (by kernel_rfl) (by kernel_rfl) (by kernel_rfl) (by kernel_rfl) (by kernel_rfl) (by kernel_rfl) (by kernel_rfl) codes_allB (by kernel_rfl) (by kernel_rfl) (by kernel_rfl) (by kernel_rfl) (by kernel_rfl) (by kernel_rfl) codes_kd (by kernel_rfl) codes_pk (by kernel_rfl) (fun b => by kernel_rfl) (by kernel_rfl) (by kernel_rfl) (by kernel_rfl) (by kernel_rfl) (by kernel_rfl) (by kernel_rfl) (by kernel_rfl) (by kernel_rfl) (by kernel_rfl) (by kernel_rfl) (by kernel_rfl) ⟨by kernel_rfl, of_decide_eq_true (by kernel_rfl), of_decide_eq_true (by kernel_rfl), of_decide_eq_true (by kernel_rfl)⟩ (by kernel_rfl)
def format_Code_told (F : Nat) : ToldF := ⟨11, 2, [.slot 0 (.int .i64), .slot 1 (.int .i64)], [.ty (.int .i64), .ty (.int .i64)], u2 (format_Code F)⟩
theorem format_Code_ok (F : Nat) : (format_Code_told F).ok Try.prog :=
  code_spec callable (f := 11) (fc := 17) (fn := Try.f11) (fnc := Try.f17) (c := (bodyOf Try.f11)) (c4 := seqB (rest 3 (bodyOf Try.f11))) (id := blkId (seqA (rest 3 (bodyOf Try.f11)))) (n := 35) (ops := regArr (seqA (rest 3 (bodyOf Try.f11)))) (T := 47) (K := 50) (E := 3) (o0 := opAt (seqA (rest 3 (bodyOf Try.f11))) 0) (ol := opAt (seqA (rest 3 (bodyOf Try.f11))) 4) (l1 := opsIn (seqA (rest 3 (bodyOf Try.f11))) 1 3) (l2 := opsIn (seqA (rest 3 (bodyOf Try.f11))) 5 9) (d0 := 25) (dk := 28) (dl := 29) (kx := fun x y => .agg [.int .i64 none x, .int .i64 none y])
    (by kernel_rfl) (by kernel_rfl) (by kernel_rfl) (of_decide_eq_true (by kernel_rfl)) (by kernel_rfl) codes_kd (by kernel_rfl) (fun w => by kernel_rfl) codes_pk (by kernel_rfl) (by kernel_rfl) codes_codesAt (by kernel_rfl) (by kernel_rfl) (by kernel_rfl) (by kernel_rfl) (by kernel_rfl) (by kernel_rfl) (by kernel_rfl) (fun x y => by kernel_rfl) (fun x y b => by kernel_rfl) (fun M x y v h => pair_val h) (fun v b => by kernel_rfl)

def format_Letters_told (F : Nat) : ToldF := ⟨14, 1, [.slot 0 (.str)], [.ty (.int .i64), .ty (.int .i64)], u1 (format_Letters F)⟩
theorem format_Letters_ok (F : Nat) : (format_Letters_told F).ok Try.prog :=
  letters_spec callable (f := 14) (fn := Try.f14) (c3 := seqB (seqB (bodyOf Try.f14))) (i0 := blkId (seqA (bodyOf Try.f14))) (i1 := blkId (seqA (seqB (bodyOf Try.f14)))) (n := 16) (ops0 := regArr (seqA (bodyOf Try.f14))) (ops1 := regArr (seqA (seqB (bodyOf Try.f14)))) (T := 53) (K := 9) (E := 3) (om := opAt (seqA (seqB (bodyOf Try.f14))) 0) (ol := opAt (seqA (seqB (bodyOf Try.f14))) 10) (li := opsIn (seqA (seqB (bodyOf Try.f14))) 1 7) (l1 := opsIn (seqA (seqB (bodyOf Try.f14))) 8 2) (l2 := opsIn (seqA (seqB (bodyOf Try.f14))) 11 9) (dm := 7) (dk := 8) (ds := 9) (dl := 10)
    (by kernel_rfl) (by kernel_rfl) (by kernel_rfl) (of_decide_eq_true (by kernel_rfl)) (Maps.string_keyed (by kernel_rfl)) (by kernel_rfl) (by kernel_rfl) (fun w => by kernel_rfl) (by kernel_rfl) (by kernel_rfl) (by kernel_rfl) (by kernel_rfl) (by kernel_rfl) (by kernel_rfl) (by kernel_rfl) (fun s => by kernel_rfl) (by kernel_rfl) (fun a b h => insOf_eq h (by kernel_rfl)) (fun s b => by kernel_rfl) (fun v b => by kernel_rfl)

def format_Scale_tab (F : Nat) : List ToldF := [format_Of_told F]
theorem format_Scale_all (F : Nat) : AllOk Try.prog (format_Scale_tab F) := ⟨format_Of_ok F, trivial⟩

def format_Scale_l2t (F : Nat) : TL := ⟨41, [.segs [.hole (.is .i64 64)] (.slot 3) true, .ptr 3 1 64, .segs [.hole (.is .i64 64)] (.slot 4) true, .ptr 4 2 64, .slot 7 (.int .i64), .slot 19 (.int .i64), .slot 24 (.is .i64 4), .slot 25 (.int .i64)], [.segs [.hole (.is .i64 64)] (.slot 3) true, .ptr 3 1 64, .segs [.hole (.is .i64 64)] (.slot 4) true, .ptr 4 2 64, .slot 19 (.int .i64)], 2, fun k => u6 (format_Scale_l2 F k), fun k => u6 (format_Scale_l2S F (format_Scale_l2 F k))⟩
theorem format_Scale_l2k (F : Nat) : (format_Scale_l2t F).ok Try.prog Try.f9 F :=
  okL callable (format_Scale_all F) [] aN (fun _ => rfl) (fun _ _ => rfl) fun k d => by kernel_rfl

def format_Scale_l0t (F : Nat) : TL := ⟨41, [.segs [.hole (.is .i64 64)] (.slot 3) true, .ptr 3 1 64, .segs [.hole (.is .i64 64)] (.slot 4) true, .ptr 4 2 64, .slot 19 (.int .i64)], [.segs [.hole (.is .i64 64)] (.slot 3) true, .ptr 3 1 64, .segs [.hole (.is .i64 64)] (.slot 4) true, .ptr 4 2 64], 0, fun k => u3 (format_Scale_l0 F k), fun k => u3 (format_Scale_l0S F (format_Scale_l0 F k))⟩
theorem format_Scale_l0k (F : Nat) : (format_Scale_l0t F).ok Try.prog Try.f9 F :=
  okL callable (format_Scale_all F) [(2, (format_Scale_l2t F).ann F)] (aL (by kernel_rfl) (format_Scale_l2k F) aN) (fun _ => rfl) (fun _ _ => rfl) fun k d => by kernel_rfl

def format_Scale_told (F : Nat) : ToldF := ⟨9, 2, [.slot 0 (.int .i64), .slot 1 (.is .i64 64)], [.ty (.is .i64 64)], u2 (format_Scale F)⟩
theorem format_Scale_ok (F : Nat) : (format_Scale_told F).ok Try.prog :=
  okF callable (format_Scale_all F) (fn := Try.f9) [(2, (format_Scale_l2t F).ann F), (0, (format_Scale_l0t F).ann F)] (by kernel_rfl) (aL (by kernel_rfl) (format_Scale_l2k F) (aL (by kernel_rfl) (format_Scale_l0k F) aN)) fun d => by kernel_rfl

def level_square_tab (F : Nat) : List ToldF := []
theorem level_square_all (F : Nat) : AllOk Try.prog (level_square_tab F) := trivial

def level_square_told (F : Nat) : ToldF := ⟨32, 1, [.slot 0 (.int .i64)], [.ty (.int .i64)], u1 (level_square F)⟩
theorem level_square_ok (F : Nat) : (level_square_told F).ok Try.prog :=
  okF callable (level_square_all F) (fn := Try.f32) [] (by kernel_rfl) aN fun d => by kernel_rfl

def level_Error_tab (F : Nat) : List ToldF := [level_square_told F]
theorem level_Error_all (F : Nat) : AllOk Try.prog (level_Error_tab F) := ⟨level_square_ok F, trivial⟩

def level_Error_l2t (F : Nat) : TL := ⟨38, [.slot 2 (.int .i64), .segs [.hole (.is .i64 64)] (.slot 3) true, .ptr 3 1 64, .segs [.hole (.is .i64 64)] (.slot 4) true, .ptr 4 2 64, .slot 7 (.int .i64), .slot 8 (.int .i64), .slot 10 (.int .i64), .slot 13 (.int .i64)], [.slot 2 (.int .i64), .segs [.hole (.is .i64 64)] (.slot 3) true, .ptr 3 1 64, .segs [.hole (.is .i64 64)] (.slot 4) true, .ptr 4 2 64, .slot 7 (.int .i64), .slot 10 (.int .i64)], 2, fun k => u7 (level_Error_l2 F k), fun k => u7 (level_Error_l2S F (level_Error_l2 F k))⟩
theorem level_Error_l2k (F : Nat) : (level_Error_l2t F).ok Try.prog Try.f16 F :=
  okL callable (level_Error_all F) [] aN (fun _ => rfl) (fun _ _ => rfl) fun k d => by kernel_rfl

def level_Error_l0t (F : Nat) : TL := ⟨38, [.slot 2 (.int .i64), .segs [.hole (.is .i64 64)] (.slot 3) true, .ptr 3 1 64, .segs [.hole (.is .i64 64)] (.slot 4) true, .ptr 4 2 64, .slot 7 (.int .i64), .slot 10 (.int .i64)], [.slot 7 (.int .i64)], 0, fun k => u5 (level_Error_l0 F k), fun k => u5 (level_Error_l0S F (level_Error_l0 F k))⟩
theorem level_Error_l0k (F : Nat) : (level_Error_l0t F).ok Try.prog Try.f16 F :=
  okL callable (level_Error_all F) [(2, (level_Error_l2t F).ann F)] (aL (by kernel_rfl) (level_Error_l2k F) aN) (fun _ => rfl) (fun _ _ => rfl) fun k d => by kernel_rfl

def level_Error_told (F : Nat) : ToldF := ⟨16, 3, [.slot 0 (.is .i64 64), .slot 1 (.is .i64 64), .slot 2 (.int .i64)], [.ty (.int .i64)], u3 (level_Error F)⟩
theorem level_Error_ok (F : Nat) : (level_Error_told F).ok Try.prog :=
  okF callable (level_Error_all F) (fn := Try.f16) [(2, (level_Error_l2t F).ann F), (0, (level_Error_l0t F).ann F)] (by kernel_rfl) (aL (by kernel_rfl) (level_Error_l2k F) (aL (by kernel_rfl) (level_Error_l0k F) aN)) fun d => by kernel_rfl

def format_Error_tab (F : Nat) : List ToldF := [format_Of_told F, format_Decode_told F, format_Scale_told F, level_Error_told F]
theorem format_Error_all (F : Nat) : AllOk Try.prog (format_Error_tab F) := ⟨format_Of_ok F, format_Decode_ok F, format_Scale_ok F, level_Error_ok F, trivial⟩

def format_Error_told (F : Nat) : ToldF := ⟨10, 3, [.slot 0 (.int .i64), .row .u8 1 (.slot 1) false, .slot 2 (.is .i64 64)], [.ty (.int .i64), .ty (.int .i64)], u3 (format_Error F)⟩
theorem format_Error_ok (F : Nat) : (format_Error_told F).ok Try.prog :=
  okF callable (format_Error_all F) (fn := Try.f10) [] (by kernel_rfl) aN fun d => by kernel_rfl

def law13_awake_tab (F : Nat) : List ToldF := [format_Of_told F, format_Decode_told F, format_Bytes_told F, format_Code_told F, format_Letters_told F, format_Scale_told F, format_Error_told F]
theorem law13_awake_all (F : Nat) : AllOk Try.prog (law13_awake_tab F) := ⟨format_Of_ok F, format_Decode_ok F, format_Bytes_ok F, format_Code_ok F, format_Letters_ok F, format_Scale_ok F, format_Error_ok F, trivial⟩

def law13_awake_told (F : Nat) : ToldF := ⟨5, 0, [], [.ty (.bool)], u0 (law13_awake F)⟩
theorem law13_awake_ok (F : Nat) : (law13_awake_told F).ok Try.prog :=
  okF callable (law13_awake_all F) (fn := Try.f5) [] (by kernel_rfl) aN fun d => by kernel_rfl

def ref13_Bytewise_tab (F : Nat) : List ToldF := []
theorem ref13_Bytewise_all (F : Nat) : AllOk Try.prog (ref13_Bytewise_tab F) := trivial

def ref13_Bytewise_l2t (F : Nat) : TX := ⟨27, [.segs [.hole (.is .i64 64)] (.slot 1) true, .ptr 1 1 64, .slot 3 (.int .i64), .slot 4 (.int .i64)], [.const 2 (.bool (some false) false)], [.segs [.hole (.is .i64 64)] (.slot 1) true, .ptr 1 1 64, .slot 3 (.int .i64)], .ret, 2, fun k => u3 (ref13_Bytewise_l2 F k), fun k => u3 (ref13_Bytewise_l2S F (ref13_Bytewise_l2 F k))⟩
theorem ref13_Bytewise_l2k (F : Nat) : (ref13_Bytewise_l2t F).ok Try.prog Try.f6 F :=
  okX callable (ref13_Bytewise_all F) [] aN (fun _ => rfl) (fun _ _ => rfl) (eR rfl) fun k d => by kernel_rfl

def ref13_Bytewise_l0t (F : Nat) : TX := ⟨27, [.segs [.hole (.is .i64 64)] (.slot 1) true, .ptr 1 1 64, .slot 3 (.int .i64)], [.const 2 (.bool (some false) false)], [], .ret, 0, fun k => u2 (ref13_Bytewise_l0 F k), fun k => u2 (ref13_Bytewise_l0S F (ref13_Bytewise_l0 F k))⟩
theorem ref13_Bytewise_l0k (F : Nat) : (ref13_Bytewise_l0t F).ok Try.prog Try.f6 F :=
  okX callable (ref13_Bytewise_all F) [(2, (ref13_Bytewise_l2t F).ann F)] (aX (by kernel_rfl) (ref13_Bytewise_l2k F) aN) (fun _ => rfl) (fun _ _ => rfl) (eR rfl) fun k d => by kernel_rfl

def ref13_Bytewise_told (F : Nat) : ToldF := ⟨6, 1, [.slot 0 (.is .i64 64)], [.ty (.bool)], u1 (ref13_Bytewise F)⟩
theorem ref13_Bytewise_ok (F : Nat) : (ref13_Bytewise_told F).ok Try.prog :=
  okF callable (ref13_Bytewise_all F) (fn := Try.f6) [(2, (ref13_Bytewise_l2t F).ann F), (0, (ref13_Bytewise_l0t F).ann F)] (by kernel_rfl) (aX (by kernel_rfl) (ref13_Bytewise_l2k F) (aX (by kernel_rfl) (ref13_Bytewise_l0k F) aN)) fun d => by kernel_rfl

def law13_FormatKeeps_tab (F : Nat) : List ToldF := [format_Of_told F, format_Decode_told F, format_Scale_told F, format_Error_told F, law13_awake_told F, ref13_Bytewise_told F]
theorem law13_FormatKeeps_all (F : Nat) : AllOk Try.prog (law13_FormatKeeps_tab F) := ⟨format_Of_ok F, format_Decode_ok F, format_Scale_ok F, format_Error_ok F, law13_awake_ok F, ref13_Bytewise_ok F, trivial⟩

def law13_FormatKeeps_l2t (F : Nat) : TX := ⟨142, [.slot 7 (.bool), .segs [.hole (.int .i64), .hole (.int .i64), .hole (.bool)] (.slot 9) true, .ptr 9 1 3, .segs [.hole (.is .i64 64)] (.slot 11) true, .ptr 11 2 64, .slot 12 (.int .i64), .segs [.hole (.is .i64 64)] (.slot 13) true, .ptr 13 3 64, .slot 14 (.int .i64), .slot 15 (.int .i64), .slot 16 (.int .i64), .slot 17 (.bool), .slot 18 (.int .i64), .slot 19 (.int .i64), .slot 20 (.int .i64)], [.const 6 (.bool (some false) false)], [.slot 7 (.bool), .segs [.hole (.int .i64), .hole (.int .i64), .hole (.bool)] (.slot 9) true, .ptr 9 1 3, .segs [.hole (.is .i64 64)] (.slot 11) true, .ptr 11 2 64, .slot 12 (.int .i64), .segs [.hole (.is .i64 64)] (.slot 13) true, .ptr 13 3 64, .slot 14 (.int .i64), .slot 15 (.int .i64), .slot 16 (.int .i64), .slot 17 (.bool), .slot 18 (.int .i64), .slot 19 (.int .i64)], .ret, 2, fun k => u14 (law13_FormatKeeps_l2 F k), fun k => u14 (law13_FormatKeeps_l2S F (law13_FormatKeeps_l2 F k))⟩
theorem law13_FormatKeeps_l2k (F : Nat) : (law13_FormatKeeps_l2t F).ok Try.prog Try.f3 F :=
  okX callable (law13_FormatKeeps_all F) [] aN (fun _ => rfl) (fun _ _ => rfl) (eR rfl) fun k d => by kernel_rfl

def law13_FormatKeeps_l0t (F : Nat) : TX := ⟨142, [.slot 7 (.bool), .segs [.hole (.int .i64), .hole (.int .i64), .hole (.bool)] (.slot 9) true, .ptr 9 1 3, .segs [.hole (.is .i64 64)] (.slot 11) true, .ptr 11 2 64, .slot 12 (.int .i64), .segs [.hole (.is .i64 64)] (.slot 13) true, .ptr 13 3 64, .slot 14 (.int .i64), .slot 15 (.int .i64), .slot 16 (.int .i64), .slot 17 (.bool), .slot 18 (.int .i64), .slot 19 (.int .i64)], [.const 6 (.bool (some false) false)], [.slot 7 (.bool), .slot 12 (.int .i64), .slot 14 (.int .i64), .slot 15 (.int .i64), .slot 17 (.bool)], .ret, 0, fun k => u13 (law13_FormatKeeps_l0 F k), fun k => u13 (law13_FormatKeeps_l0S F (law13_FormatKeeps_l0 F k))⟩
theorem law13_FormatKeeps_l0k (F : Nat) : (law13_FormatKeeps_l0t F).ok Try.prog Try.f3 F :=
  okX callable (law13_FormatKeeps_all F) [(2, (law13_FormatKeeps_l2t F).ann F)] (aX (by kernel_rfl) (law13_FormatKeeps_l2k F) aN) (fun _ => rfl) (fun _ _ => rfl) (eR rfl) fun k d => by kernel_rfl

def law13_FormatKeeps_told (F : Nat) : ToldF := ⟨3, 3, [.slot 0 (.int .i64), .row .u8 1 (.slot 1) false, .slot 2 (.is .i64 64)], [.ty (.bool)], u3 (law13_FormatKeeps F)⟩
theorem law13_FormatKeeps_ok (F : Nat) : (law13_FormatKeeps_told F).ok Try.prog :=
  okF callable (law13_FormatKeeps_all F) (fn := Try.f3) [(2, (law13_FormatKeeps_l2t F).ann F), (0, (law13_FormatKeeps_l0t F).ann F)] (by kernel_rfl) (aX (by kernel_rfl) (law13_FormatKeeps_l2k F) (aX (by kernel_rfl) (law13_FormatKeeps_l0k F) aN)) fun d => by kernel_rfl

def format_Format_told (F : Nat) : ToldF := ⟨12, 2, [.slot 0 (.int .i64), .slot 1 (.int .i64)], [.ty (.int .i64), .ty (.int .i64)], u2 (format_Format F)⟩
theorem format_Format_ok (F : Nat) : (format_Format_told F).ok Try.prog :=
  format_spec callable (f := 12) (fc := 17) (fn := Try.f12) (fnc := Try.f17) (c := (bodyOf Try.f12)) (c6 := seqB (inB' (seqB (seqB (inB' (inB' (seqB (seqA (rest 2 (bodyOf Try.f12)))))))))) (c7 := seqB (rest 2 (bodyOf Try.f12))) (i1 := blkId (seqA (seqA (rest 2 (bodyOf Try.f12))))) (i2 := blkId (seqB (seqA (rest 2 (bodyOf Try.f12))))) (i3 := blkId (seqA (inB' (inB' (seqB (seqA (rest 2 (bodyOf Try.f12)))))))) (i4 := blkId (seqB (seqB (inB' (inB' (seqB (seqA (rest 2 (bodyOf Try.f12))))))))) (i5 := blkId (seqA (inB' (seqB (seqB (inB' (inB' (seqB (seqA (rest 2 (bodyOf Try.f12))))))))))) (n := 40) (ops1 := regArr (seqA (seqA (rest 2 (bodyOf Try.f12))))) (ops3 := regArr (seqA (inB' (inB' (seqB (seqA (rest 2 (bodyOf Try.f12)))))))) (ops5 := regArr (seqA (inB' (seqB (seqB (inB' (inB' (seqB (seqA (rest 2 (bodyOf Try.f12))))))))))) (T := 47) (K := 50) (E := 3) (o0 := opAt (seqA (seqA (rest 2 (bodyOf Try.f12)))) 0) (o1 := opAt (seqA (seqA (rest 2 (bodyOf Try.f12)))) 1) (o2 := opAt (seqA (inB' (inB' (seqB (seqA (rest 2 (bodyOf Try.f12))))))) 0) (o3 := opAt (seqA (inB' (inB' (seqB (seqA (rest 2 (bodyOf Try.f12))))))) 1) (o5 := opAt (seqA (inB' (seqB (seqB (inB' (inB' (seqB (seqA (rest 2 (bodyOf Try.f12)))))))))) 0) (l5 := opsIn (seqA (inB' (seqB (seqB (inB' (inB' (seqB (seqA (rest 2 (bodyOf Try.f12)))))))))) 1 9) (d0 := 22) (dr := 23) (dn := 24) (dc := 25) (de := 26)
    (by kernel_rfl) (by kernel_rfl) (by kernel_rfl) (of_decide_eq_true (by kernel_rfl)) (by kernel_rfl) codes_kd (by kernel_rfl) (by kernel_rfl) (by kernel_rfl) codes_codesAt (by kernel_rfl) (by kernel_rfl) (by kernel_rfl) (by kernel_rfl) (by kernel_rfl) (by kernel_rfl) (by kernel_rfl) (by kernel_rfl) (by kernel_rfl) (by kernel_rfl) (by kernel_rfl) (by kernel_rfl) (by kernel_rfl) (by kernel_rfl) (by kernel_rfl) (by kernel_rfl) (by kernel_rfl) (by kernel_rfl) (fun x y => by kernel_rfl) (fun x y k i v r => by kernel_rfl) (by kernel_rfl)

def law13_FormatBack_tab (F : Nat) : List ToldF := [format_Code_told F, law13_awake_told F, format_Format_told F]
theorem law13_FormatBack_all (F : Nat) : AllOk Try.prog (law13_FormatBack_tab F) := ⟨format_Code_ok F, law13_awake_ok F, format_Format_ok F, trivial⟩

def law13_FormatBack_told (F : Nat) : ToldF := ⟨4, 2, [.slot 0 (.int .i64), .slot 1 (.int .i64)], [.ty (.bool)], u2 (law13_FormatBack F)⟩
theorem law13_FormatBack_ok (F : Nat) : (law13_FormatBack_told F).ok Try.prog :=
  okF callable (law13_FormatBack_all F) (fn := Try.f4) [] (by kernel_rfl) aN fun d => by kernel_rfl

end Go.Proofs.Ytaogfbhifeobmaa

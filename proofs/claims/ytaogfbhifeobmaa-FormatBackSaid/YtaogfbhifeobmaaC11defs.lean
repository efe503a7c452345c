/- Printed by a program of mine (gen.py): what the Go functions of this part come to. -/
import Derived.Test.YtaogfbhifeobmaaA02defs
import Derived.Test.YtaogfbhifeobmaaA07defs
import Derived.Test.YtaogfbhifeobmaaB10defs
set_option linter.unusedSimpArgs false
set_option linter.unusedVariables false
namespace Go.AE.Gn
open Go Go.AE

def etctwo_LayT37 : List Int := [0, 0, 0, 0, 0, 0, 0, 0]
/-- swatch/etctwo.Lay$2 -/
def etctwo_Lay_c2 (F : Nat) (a0 : Int) (a1 : Int) (a2 : Int) (a3 : List Int) : Option (List Int × Unit) :=
  (bits_SetHigh F a3 a1 (IntKind.wrap .i64 ((IntKind.wrap .i64 (a2 - a1)) + (1 : Int))) (IntKind.wrap .u64 a0)).bind fun r187 =>
  some (r187.1, ())

def etctwo_LayT192 : List Int := [7, 9, 10, 11, 12, 13, 14]
def etctwo_Lay_c1_l0S (F : Nat) (rec : Int → List Int → List Int → Int → Int → Option (List Int × Unit)) (x0 : Int) (x1 : List Int) (x2 : List Int) (x3 : Int) (x4 : Int) : Option (List Int × Unit) :=
  cond (decide (x4 < x3))
    (cond ((decide ((0 : Int) ≤ x4)) && (decide (x4 < (((List.length x1) : Nat) : Int))))
      (let v302 : Int := (IntKind.wrap .i64 ((IntKind.wrap .i64 ((((List.length x1) : Nat) : Int) - (1 : Int))) - x4))
      cond (decide ((0 : Int) ≤ v302))
        ((bits_SetHigh F x2 (List.getD x1 (Int.toNat x4) (0 : Int)) (1 : Int) (IntKind.wrap .u64 (iand .i64 (ishr .i64 x0 v302) (1 : Int)))).bind fun r307 =>
        rec x0 x1 r307.1 x3 (IntKind.wrap .i64 (x4 + (1 : Int))))
        (none))
      (none))
    (some (x2, ()))

def etctwo_Lay_c1_l0 (F : Nat) : Nat → Int → List Int → List Int → Int → Int → Option (List Int × Unit)
  | 0, _, _, _, _, _ => none
  | k + 1, x0, x1, x2, x3, x4 => etctwo_Lay_c1_l0S F (etctwo_Lay_c1_l0 F k) x0 x1 x2 x3 x4

/-- swatch/etctwo.Lay$1 -/
def etctwo_Lay_c1 (F : Nat) (a0 : Int) (a1 : List Int) (a2 : List Int) : Option (List Int × Unit) :=
  (etctwo_Lay_c1_l0 F F a0 a1 a2 (((List.length a1) : Nat) : Int) (0 : Int)).bind fun r310 =>
  some (r310.1, ())

def etctwo_LayT315 : List Int := [15, 19, 20, 22, 23, 24]
def etctwo_LayT319 : List Int := [25, 26, 27, 28, 29, 31]
def etctwo_LayT520 : List Int := [0, 0, 0, 0, 0, 0, 0, 0, 0, 0, 0, 0, 0, 0, 0, 0]
/-- (swatch/etctwo.block).run -/
def etctwo_block_run (F : Nat) (a0 : List Int) (a1 : Bool) (a2 : Bool) (a3 : List Int) (a4 : List Int) (a5 : List Int) (a6 : List Int) (a7 : Bool) (a8 : Int) (a9 : Int) : Option (Int × Unit) :=
  (bits_High F a0 a8 (IntKind.wrap .i64 ((IntKind.wrap .i64 (a9 - a8)) + (1 : Int)))).bind fun r577 =>
  some ((IntKind.wrap .i64 r577.1), ())

def etctwo_Lay_l0S (F : Nat) (rec : List Int → List Int → List Int → List Int → Int → Option (Unit ⊕ (List Int × (List Int × (List Int × Unit))))) (x0 : List Int) (x1 : List Int) (x2 : List Int) (x3 : List Int) (x4 : Int) : Option (Unit ⊕ (List Int × (List Int × (List Int × Unit)))) :=
  cond (decide (x4 < (3 : Int)))
    (cond ((decide ((0 : Int) ≤ x4)) && (decide (x4 < (3 : Int))))
      (let l611 : List Int := (List.take 3 (List.drop ((Int.toNat x4) * 3) x3))
      cond ((iandn .i64 (ior .i64 (List.getD l611 0 (0 : Int)) (List.getD l611 2 (0 : Int))) (63 : Int)) != (0 : Int))
        (some (.inl ()))
        (cond ((iandn .i64 (List.getD l611 1 (0 : Int)) (127 : Int)) != (0 : Int))
          (some (.inl ()))
          (rec x0 x1 x2 x3 (IntKind.wrap .i64 (x4 + (1 : Int))))))
      (none))
    (some (.inr (x0, (x1, (x2, ())))))

def etctwo_Lay_l0 (F : Nat) : Nat → List Int → List Int → List Int → List Int → Int → Option (Unit ⊕ (List Int × (List Int × (List Int × Unit))))
  | 0, _, _, _, _, _ => none
  | k + 1, x0, x1, x2, x3, x4 => etctwo_Lay_l0S F (etctwo_Lay_l0 F k) x0 x1 x2 x3 x4

def etctwo_Lay_l2S (F : Nat) (rec : List Int → Bool → Bool → List Int → List Int → List Int → List Int → Int → Option (List Int × Unit)) (x0 : List Int) (x1 : Bool) (x2 : Bool) (x3 : List Int) (x4 : List Int) (x5 : List Int) (x6 : List Int) (x7 : Int) : Option (List Int × Unit) :=
  cond (decide (x7 < (2 : Int)))
    (let b682 : Bool := ((decide ((0 : Int) ≤ x7)) && (decide (x7 < (3 : Int))))
    cond b682
      (cond b682
        (let v686 : Int := (IntKind.wrap .i64 ((List.getD x3 (Int.toNat x7) (0 : Int)) + (List.getD x4 (Int.toNat x7) (0 : Int))))
        cond (decide (v686 < (0 : Int)))
          ((etctwo_Lay_c1 F (1 : Int) [(IntKind.wrap .i64 ((8 : Int) * x7))] x0).bind fun r689 =>
          rec r689.1 x1 x2 x3 x4 x5 x6 (IntKind.wrap .i64 (x7 + (1 : Int))))
          (cond (decide ((31 : Int) < v686))
            ((etctwo_Lay_c1 F (1 : Int) [(IntKind.wrap .i64 ((8 : Int) * x7))] x0).bind fun r694 =>
            rec r694.1 x1 x2 x3 x4 x5 x6 (IntKind.wrap .i64 (x7 + (1 : Int))))
            (rec x0 x1 x2 x3 x4 x5 x6 (IntKind.wrap .i64 (x7 + (1 : Int))))))
        (none))
      (none))
    (some (x0, ()))

def etctwo_Lay_l2 (F : Nat) : Nat → List Int → Bool → Bool → List Int → List Int → List Int → List Int → Int → Option (List Int × Unit)
  | 0, _, _, _, _, _, _, _, _ => none
  | k + 1, x0, x1, x2, x3, x4, x5, x6, x7 => etctwo_Lay_l2S F (etctwo_Lay_l2 F k) x0 x1 x2 x3 x4 x5 x6 x7

/-- swatch/etctwo.Lay -/
def etctwo_Lay (F : Nat) (a0 : List Int) (a1 : List Int) (a2 : List Int) : Option (List Int × (Int × Unit)) :=
  (etctwo_Lay_l0 F F a0 a1 a2 (a0 ++ (a1 ++ a2)) (0 : Int)).bind fun r621 => match r621 with
    | .inl r621 => (some ([], ((1 : Int), ())))
    | .inr r621 => ((etctwo_Lay_c2 F (List.getD r621.1 0 (0 : Int)) (1 : Int) (6 : Int) etctwo_LayT37).bind fun r623 =>
      (etctwo_Lay_c1 F (List.getD r621.1 1 (0 : Int)) etctwo_LayT192 r623.1).bind fun r626 =>
      (etctwo_Lay_c1 F (List.getD r621.1 2 (0 : Int)) etctwo_LayT315 r626.1).bind fun r629 =>
      (etctwo_Lay_c1 F (List.getD r621.2.1 0 (0 : Int)) etctwo_LayT319 r629.1).bind fun r632 =>
      (etctwo_Lay_c2 F (List.getD r621.2.1 1 (0 : Int)) (32 : Int) (38 : Int) r632.1).bind fun r635 =>
      (etctwo_Lay_c2 F (List.getD r621.2.1 2 (0 : Int)) (39 : Int) (44 : Int) r635.1).bind fun r638 =>
      (etctwo_Lay_c2 F (List.getD r621.2.2.1 0 (0 : Int)) (45 : Int) (50 : Int) r638.1).bind fun r641 =>
      (etctwo_Lay_c2 F (List.getD r621.2.2.1 1 (0 : Int)) (51 : Int) (57 : Int) r641.1).bind fun r644 =>
      (etctwo_Lay_c2 F (List.getD r621.2.2.1 2 (0 : Int)) (58 : Int) (63 : Int) r644.1).bind fun r647 =>
      (etctwo_Lay_c1 F (1 : Int) [(30 : Int)] r647.1).bind fun r649 =>
      (etcone_Parts F r649.1).bind fun r651 =>
      (etctwo_Lay_l2 F F r649.1 r651.1.1 r651.1.2.1 r651.1.2.2.1 r651.1.2.2.2.1 r651.1.2.2.2.2.1 r651.1.2.2.2.2.2.1 (0 : Int)).bind fun r698 =>
      (etctwo_block_run F r698.1 false false [(0 : Int), (0 : Int), (0 : Int)] [(0 : Int), (0 : Int), (0 : Int)] [(0 : Int), (0 : Int)] etctwo_LayT520 false (19 : Int) (20 : Int)).bind fun r700 =>
      (etctwo_block_run F r698.1 false false [(0 : Int), (0 : Int), (0 : Int)] [(0 : Int), (0 : Int), (0 : Int)] [(0 : Int), (0 : Int)] etctwo_LayT520 false (22 : Int) (23 : Int)).bind fun r701 =>
      let v702 : Int := (IntKind.wrap .i64 (r700.1 + r701.1))
      cond (decide ((4 : Int) ≤ v702))
        ((etctwo_Lay_c2 F (7 : Int) (16 : Int) (18 : Int) r698.1).bind fun r704 =>
        some (r704.1, ((0 : Int), ())))
        ((etctwo_Lay_c1 F (1 : Int) [(21 : Int)] r698.1).bind fun r706 =>
        some (r706.1, ((0 : Int), ()))))

def etctwo_DecodeT711 : List Int := [0, 0, 0, 0, 0, 0, 0, 0, 0, 0, 0, 0, 0, 0, 0, 0, 0, 0, 0, 0, 0, 0, 0, 0, 0, 0, 0, 0, 0, 0, 0, 0, 0, 0, 0, 0, 0, 0, 0, 0, 0, 0, 0, 0, 0, 0, 0, 0, 0, 0, 0, 0, 0, 0, 0, 0, 0, 0, 0, 0, 0, 0, 0, 0]
def etctwo_block_get_l0S (F : Nat) (rec : List Int → Bool → Bool → List Int → List Int → List Int → List Int → Bool → Int → List Int → Int → Int → Option (Int × Unit)) (x0 : List Int) (x1 : Bool) (x2 : Bool) (x3 : List Int) (x4 : List Int) (x5 : List Int) (x6 : List Int) (x7 : Bool) (x8 : Int) (x9 : List Int) (x10 : Int) (x11 : Int) : Option (Int × Unit) :=
  cond (decide (x11 < x10))
    (cond ((decide ((0 : Int) ≤ x11)) && (decide (x11 < (((List.length x9) : Nat) : Int))))
      ((bits_High F x0 (List.getD x9 (Int.toNat x11) (0 : Int)) (1 : Int)).bind fun r782 =>
      rec x0 x1 x2 x3 x4 x5 x6 x7 (ior .i64 (ishl .i64 x8 (1 : Int)) (IntKind.wrap .i64 r782.1)) x9 x10 (IntKind.wrap .i64 (x11 + (1 : Int))))
      (none))
    (some (x8, ()))

def etctwo_block_get_l0 (F : Nat) : Nat → List Int → Bool → Bool → List Int → List Int → List Int → List Int → Bool → Int → List Int → Int → Int → Option (Int × Unit)
  | 0, _, _, _, _, _, _, _, _, _, _, _, _ => none
  | k + 1, x0, x1, x2, x3, x4, x5, x6, x7, x8, x9, x10, x11 => etctwo_block_get_l0S F (etctwo_block_get_l0 F k) x0 x1 x2 x3 x4 x5 x6 x7 x8 x9 x10 x11

/-- (swatch/etctwo.block).get -/
def etctwo_block_get (F : Nat) (a0 : List Int) (a1 : Bool) (a2 : Bool) (a3 : List Int) (a4 : List Int) (a5 : List Int) (a6 : List Int) (a7 : Bool) (a8 : List Int) : Option (Int × Unit) :=
  (etctwo_block_get_l0 F F a0 a1 a2 a3 a4 a5 a6 a7 (0 : Int) a8 (((List.length a8) : Nat) : Int) (0 : Int)).bind fun r787 =>
  some (r787.1, ())

/-- swatch/etctwo.read -/
def etctwo_read (F : Nat) (a0 : List Int) (a1 : Bool) : Option (List Int × (Bool × (Bool × (List Int × (List Int × (List Int × (List Int × (Bool × Unit)))))))) :=
  cond (!a1)
    (cond a1
      ((bits_SetHigh F a0 (30 : Int) (1 : Int) (1 : Int)).bind fun r796 =>
      (etcone_Parts F r796.1).bind fun r798 =>
      some (a0, (r798.1.1, (r798.1.2.1, (r798.1.2.2.1, (r798.1.2.2.2.1, (r798.1.2.2.2.2.1, (r798.1.2.2.2.2.2.1, (true, ())))))))))
      ((etcone_Parts F a0).bind fun r799 =>
      some (a0, (r799.1.1, (r799.1.2.1, (r799.1.2.2.1, (r799.1.2.2.2.1, (r799.1.2.2.2.2.1, (r799.1.2.2.2.2.2.1, (true, ()))))))))))
    ((etctwo_block_get F a0 false false [(0 : Int), (0 : Int), (0 : Int)] [(0 : Int), (0 : Int), (0 : Int)] [(0 : Int), (0 : Int)] etctwo_LayT520 false [(30 : Int)]).bind fun r800 =>
    let b801 : Bool := (r800.1 == (1 : Int))
    cond a1
      ((bits_SetHigh F a0 (30 : Int) (1 : Int) (1 : Int)).bind fun r802 =>
      (etcone_Parts F r802.1).bind fun r804 =>
      some (a0, (r804.1.1, (r804.1.2.1, (r804.1.2.2.1, (r804.1.2.2.2.1, (r804.1.2.2.2.2.1, (r804.1.2.2.2.2.2.1, (b801, ())))))))))
      ((etcone_Parts F a0).bind fun r805 =>
      some (a0, (r805.1.1, (r805.1.2.1, (r805.1.2.2.1, (r805.1.2.2.2.1, (r805.1.2.2.2.2.1, (r805.1.2.2.2.2.2.1, (b801, ()))))))))))

/-- (swatch/etctwo.block).kind -/
def etctwo_block_kind (F : Nat) (a0 : List Int) (a1 : Bool) (a2 : Bool) (a3 : List Int) (a4 : List Int) (a5 : List Int) (a6 : List Int) (a7 : Bool) : Option (Int × Unit) :=
  (etcone_Bases F (a1, (a2, (a3, (a4, (a5, (a6, ()))))))).bind fun r946 =>
  cond (r946.2.1 == (3 : Int))
    (some ((0 : Int), ()))
    (some ((IntKind.wrap .i64 ((1 : Int) + r946.2.1)), ()))

def etctwo_block_halves_l0S (F : Nat) (rec : List Int → Bool → Bool → List Int → List Int → List Int → List Int → Bool → List Int → List Int → List Int → List Int → Int → Option (List Int × (List Int × Unit))) (x0 : List Int) (x1 : Bool) (x2 : Bool) (x3 : List Int) (x4 : List Int) (x5 : List Int) (x6 : List Int) (x7 : Bool) (x8 : List Int) (x9 : List Int) (x10 : List Int) (x11 : List Int) (x12 : Int) : Option (List Int × (List Int × Unit)) :=
  cond (decide (x12 < (16 : Int)))
    (let b1178 : Bool := ((decide ((0 : Int) ≤ x12)) && (decide (x12 < (16 : Int))))
    cond b1178
      (cond (!x7)
        (cond ((List.getD x11 (Int.toNat x12) (0 : Int)) == (0 : Int))
          ((etcone_Half F x2 x12).bind fun r1182 =>
          cond ((decide ((0 : Int) ≤ r1182.1)) && (decide (r1182.1 < (2 : Int))))
            (cond b1178
              (let n1186 : Nat := ((Int.toNat x12) * 4)
              rec x0 x1 x2 x3 x4 x5 x6 x7 x8 (((List.take n1186 x9) ++ (List.take 4 (List.drop ((Int.toNat r1182.1) * 4) x10))) ++ (List.drop (n1186 + 4) x9)) x10 x11 (IntKind.wrap .i64 (x12 + (1 : Int))))
              (none))
            (none))
          (rec x0 x1 x2 x3 x4 x5 x6 x7 x8 x9 x10 x11 (IntKind.wrap .i64 (x12 + (1 : Int)))))
        (rec x0 x1 x2 x3 x4 x5 x6 x7 x8 x9 x10 x11 (IntKind.wrap .i64 (x12 + (1 : Int)))))
      (none))
    (some (x8, (x9, ())))

def etctwo_block_halves_l0 (F : Nat) : Nat → List Int → Bool → Bool → List Int → List Int → List Int → List Int → Bool → List Int → List Int → List Int → List Int → Int → Option (List Int × (List Int × Unit))
  | 0, _, _, _, _, _, _, _, _, _, _, _, _, _ => none
  | k + 1, x0, x1, x2, x3, x4, x5, x6, x7, x8, x9, x10, x11, x12 => etctwo_block_halves_l0S F (etctwo_block_halves_l0 F k) x0 x1 x2 x3 x4 x5 x6 x7 x8 x9 x10 x11 x12

/-- (swatch/etctwo.block).halves -/
def etctwo_block_halves (F : Nat) (a0 : List Int) (a1 : Bool) (a2 : Bool) (a3 : List Int) (a4 : List Int) (a5 : List Int) (a6 : List Int) (a7 : Bool) : Option (List Int × Unit) :=
  (etcone_Paint F (a1, (a2, (a3, (a4, (a5, (a6, ()))))))).bind fun r1150 =>
  (etcone_Bases F (a1, (a2, (a3, (a4, (a5, (a6, ()))))))).bind fun r1151 =>
  (etctwo_block_halves_l0 F F a0 a1 a2 a3 a4 a5 a6 a7 etctwo_DecodeT711 r1150.1 r1151.1 a6 (0 : Int)).bind fun r1191 =>
  some (r1191.2.1, ())

def etctwo_wide_l0S (F : Nat) (rec : List Int → List Int → List Int → List Int → Int → Option (List Int × (List Int × Unit))) (x0 : List Int) (x1 : List Int) (x2 : List Int) (x3 : List Int) (x4 : Int) : Option (List Int × (List Int × Unit)) :=
  cond (decide (x4 < (3 : Int)))
    (let b1245 : Bool := ((decide ((0 : Int) ≤ x4)) && (decide (x4 < (3 : Int))))
    cond b1245
      (cond b1245
        ((level_Wide F (List.getD x3 (Int.toNat x4) (0 : Int)) (List.getD x0 (Int.toNat x4) (0 : Int))).bind fun r1249 =>
        cond ((decide ((0 : Int) ≤ x4)) && (decide (x4 < (4 : Int))))
          (rec x0 x1 (List.set x2 (Int.toNat x4) r1249.1) x3 (IntKind.wrap .i64 (x4 + (1 : Int))))
          (none))
        (none))
      (none))
    (some (x1, (x2, ())))

def etctwo_wide_l0 (F : Nat) : Nat → List Int → List Int → List Int → List Int → Int → Option (List Int × (List Int × Unit))
  | 0, _, _, _, _, _ => none
  | k + 1, x0, x1, x2, x3, x4 => etctwo_wide_l0S F (etctwo_wide_l0 F k) x0 x1 x2 x3 x4

/-- swatch/etctwo.wide -/
def etctwo_wide (F : Nat) (a0 : List Int) (a1 : List Int) : Option (List Int × Unit) :=
  (etctwo_wide_l0 F F a1 [(0 : Int), (0 : Int), (0 : Int), (0 : Int)] [(0 : Int), (0 : Int), (0 : Int), (255 : Int)] a0 (0 : Int)).bind fun r1253 =>
  some (r1253.2.1, ())

/-- swatch/etctwo.plain -/
def etctwo_plain (F : Nat) (a0 : List Int) : Option (List Int × Unit) :=
  (etctwo_wide F a0 [(4 : Int), (4 : Int), (4 : Int)]).bind fun r1254 =>
  some (r1254.1, ())

def etctwo_DistanceT1261 : List Int := [3, 6, 11, 16, 23, 32, 41, 64]
/-- swatch/etctwo.Distance -/
def etctwo_Distance (F : Nat) (a0 : Int) : Option (Int × Unit) :=
  let v1262 : Int := (iand .i64 a0 (7 : Int))
  cond ((decide ((0 : Int) ≤ v1262)) && (decide (v1262 < (8 : Int))))
    (some ((List.getD etctwo_DistanceT1261 (Int.toNat v1262) (0 : Int)), ()))
    (none)

def etctwo_moved_l0S (F : Nat) (rec : Int → List Int → List Int → Int → Option (List Int × (List Int × Unit))) (x0 : Int) (x1 : List Int) (x2 : List Int) (x3 : Int) : Option (List Int × (List Int × Unit)) :=
  cond (decide (x3 < (3 : Int)))
    (let b1279 : Bool := ((decide ((0 : Int) ≤ x3)) && (decide (x3 < (4 : Int))))
    cond b1279
      ((level_Clamp F (IntKind.wrap .i64 ((List.getD x1 (Int.toNat x3) (0 : Int)) + x0)) (255 : Int)).bind fun r1283 =>
      cond b1279
        (rec x0 (List.set x1 (Int.toNat x3) r1283.1) x2 (IntKind.wrap .i64 (x3 + (1 : Int))))
        (none))
      (none))
    (some (x1, (x2, ())))

def etctwo_moved_l0 (F : Nat) : Nat → Int → List Int → List Int → Int → Option (List Int × (List Int × Unit))
  | 0, _, _, _, _ => none
  | k + 1, x0, x1, x2, x3 => etctwo_moved_l0S F (etctwo_moved_l0 F k) x0 x1 x2 x3

/-- swatch/etctwo.moved -/
def etctwo_moved (F : Nat) (a0 : List Int) (a1 : Int) : Option (List Int × Unit) :=
  (etctwo_moved_l0 F F a1 a0 [(0 : Int), (0 : Int), (0 : Int), (0 : Int)] (0 : Int)).bind fun r1286 =>
  some (r1286.1, ())

def etctwo_block_four_l0S (F : Nat) (rec : List Int → List Int → List Int → List Int → Int → Option (List Int × (List Int × Unit))) (x0 : List Int) (x1 : List Int) (x2 : List Int) (x3 : List Int) (x4 : Int) : Option (List Int × (List Int × Unit)) :=
  cond (decide (x4 < (16 : Int)))
    (let b1332 : Bool := ((decide ((0 : Int) ≤ x4)) && (decide (x4 < (16 : Int))))
    cond b1332
      (let v1333 : Int := (List.getD x3 (Int.toNat x4) (0 : Int))
      cond ((decide ((0 : Int) ≤ v1333)) && (decide (v1333 < (4 : Int))))
        (cond b1332
          (let n1337 : Nat := ((Int.toNat x4) * 4)
          rec x0 x1 (((List.take n1337 x2) ++ (List.take 4 (List.drop ((Int.toNat v1333) * 4) x0))) ++ (List.drop (n1337 + 4) x2)) x3 (IntKind.wrap .i64 (x4 + (1 : Int))))
          (none))
        (none))
      (none))
    (some (x1, (x2, ())))

def etctwo_block_four_l0 (F : Nat) : Nat → List Int → List Int → List Int → List Int → Int → Option (List Int × (List Int × Unit))
  | 0, _, _, _, _, _ => none
  | k + 1, x0, x1, x2, x3, x4 => etctwo_block_four_l0S F (etctwo_block_four_l0 F k) x0 x1 x2 x3 x4

/-- (swatch/etctwo.block).four -/
def etctwo_block_four (F : Nat) (a0 : List Int) (a1 : Bool) (a2 : Bool) (a3 : List Int) (a4 : List Int) (a5 : List Int) (a6 : List Int) (a7 : Bool) (a8 : List Int) : Option (List Int × Unit) :=
  (etctwo_block_four_l0 F F a8 etctwo_DecodeT711 etctwo_DecodeT711 a6 (0 : Int)).bind fun r1340 =>
  some (r1340.2.1, ())

/-- (swatch/etctwo.block).ofT -/
def etctwo_block_ofT (F : Nat) (a0 : List Int) (a1 : Bool) (a2 : Bool) (a3 : List Int) (a4 : List Int) (a5 : List Int) (a6 : List Int) (a7 : Bool) : Option (List Int × Unit) :=
  (etctwo_block_get F a0 a1 a2 a3 a4 a5 a6 a7 [(3 : Int), (4 : Int), (6 : Int), (7 : Int)]).bind fun r1343 =>
  (etctwo_block_run F a0 a1 a2 a3 a4 a5 a6 a7 (8 : Int) (11 : Int)).bind fun r1344 =>
  (etctwo_block_run F a0 a1 a2 a3 a4 a5 a6 a7 (12 : Int) (15 : Int)).bind fun r1345 =>
  (etctwo_plain F [r1343.1, r1344.1, r1345.1]).bind fun r1346 =>
  (etctwo_block_run F a0 a1 a2 a3 a4 a5 a6 a7 (16 : Int) (19 : Int)).bind fun r1347 =>
  (etctwo_block_run F a0 a1 a2 a3 a4 a5 a6 a7 (20 : Int) (23 : Int)).bind fun r1348 =>
  (etctwo_block_run F a0 a1 a2 a3 a4 a5 a6 a7 (24 : Int) (27 : Int)).bind fun r1349 =>
  (etctwo_plain F [r1347.1, r1348.1, r1349.1]).bind fun r1350 =>
  (etctwo_block_get F a0 a1 a2 a3 a4 a5 a6 a7 [(28 : Int), (29 : Int), (31 : Int)]).bind fun r1351 =>
  (etctwo_Distance F r1351.1).bind fun r1352 =>
  (etctwo_moved F r1350.1 r1352.1).bind fun r1353 =>
  (etctwo_moved F r1350.1 (IntKind.wrap .i64 ((0 : Int) - r1352.1))).bind fun r1355 =>
  (etctwo_block_four F a0 a1 a2 a3 a4 a5 a6 a7 (r1346.1 ++ (r1353.1 ++ (r1350.1 ++ r1355.1)))).bind fun r1357 =>
  some (r1357.1, ())

def etctwo_block_ofHT1383 : List Int := [1, 2, 3, 4, 5, 6, 7, 11, 12, 14, 15, 16]
/-- (swatch/etctwo.block).ofH -/
def etctwo_block_ofH (F : Nat) (a0 : List Int) (a1 : Bool) (a2 : Bool) (a3 : List Int) (a4 : List Int) (a5 : List Int) (a6 : List Int) (a7 : Bool) : Option (List Int × Unit) :=
  (etctwo_block_run F a0 a1 a2 a3 a4 a5 a6 a7 (1 : Int) (4 : Int)).bind fun r1409 =>
  (etctwo_block_get F a0 a1 a2 a3 a4 a5 a6 a7 [(5 : Int), (6 : Int), (7 : Int), (11 : Int)]).bind fun r1410 =>
  (etctwo_block_get F a0 a1 a2 a3 a4 a5 a6 a7 [(12 : Int), (14 : Int), (15 : Int), (16 : Int)]).bind fun r1411 =>
  (etctwo_block_run F a0 a1 a2 a3 a4 a5 a6 a7 (17 : Int) (20 : Int)).bind fun r1412 =>
  (etctwo_block_run F a0 a1 a2 a3 a4 a5 a6 a7 (21 : Int) (24 : Int)).bind fun r1413 =>
  (etctwo_block_run F a0 a1 a2 a3 a4 a5 a6 a7 (25 : Int) (28 : Int)).bind fun r1414 =>
  (etctwo_block_get F a0 a1 a2 a3 a4 a5 a6 a7 [(29 : Int), (31 : Int)]).bind fun r1415 =>
  let v1416 : Int := (ishl .i64 r1415.1 (1 : Int))
  (etctwo_block_get F a0 a1 a2 a3 a4 a5 a6 a7 etctwo_block_ofHT1383).bind fun r1417 =>
  (etctwo_block_run F a0 a1 a2 a3 a4 a5 a6 a7 (17 : Int) (28 : Int)).bind fun r1418 =>
  cond (decide (r1418.1 ≤ r1417.1))
    ((etctwo_plain F [r1409.1, r1410.1, r1411.1]).bind fun r1421 =>
    (etctwo_plain F [r1412.1, r1413.1, r1414.1]).bind fun r1422 =>
    (etctwo_Distance F (IntKind.wrap .i64 (v1416 + (1 : Int)))).bind fun r1423 =>
    (etctwo_moved F r1421.1 r1423.1).bind fun r1424 =>
    let v1425 : Int := (IntKind.wrap .i64 ((0 : Int) - r1423.1))
    (etctwo_moved F r1421.1 v1425).bind fun r1426 =>
    (etctwo_moved F r1422.1 r1423.1).bind fun r1427 =>
    (etctwo_moved F r1422.1 v1425).bind fun r1428 =>
    (etctwo_block_four F a0 a1 a2 a3 a4 a5 a6 a7 (r1424.1 ++ (r1426.1 ++ (r1427.1 ++ r1428.1)))).bind fun r1430 =>
    some (r1430.1, ()))
    ((etctwo_plain F [r1409.1, r1410.1, r1411.1]).bind fun r1431 =>
    (etctwo_plain F [r1412.1, r1413.1, r1414.1]).bind fun r1432 =>
    (etctwo_Distance F v1416).bind fun r1433 =>
    (etctwo_moved F r1431.1 r1433.1).bind fun r1434 =>
    let v1435 : Int := (IntKind.wrap .i64 ((0 : Int) - r1433.1))
    (etctwo_moved F r1431.1 v1435).bind fun r1436 =>
    (etctwo_moved F r1432.1 r1433.1).bind fun r1437 =>
    (etctwo_moved F r1432.1 v1435).bind fun r1438 =>
    (etctwo_block_four F a0 a1 a2 a3 a4 a5 a6 a7 (r1434.1 ++ (r1436.1 ++ (r1437.1 ++ r1438.1)))).bind fun r1440 =>
    some (r1440.1, ()))

/-- swatch/etctwo.plane -/
def etctwo_plane (F : Nat) (a0 : List Int) : Option (List Int × Unit) :=
  (etctwo_wide F a0 [(6 : Int), (7 : Int), (6 : Int)]).bind fun r1467 =>
  some (r1467.1, ())

def etctwo_Plane_l2S (F : Nat) (rec : List Int → List Int → List Int → List Int → List Int → Int → Int → Int → Option (List Int × (List Int × (List Int × (List Int × (List Int × (Int × Unit))))))) (x0 : List Int) (x1 : List Int) (x2 : List Int) (x3 : List Int) (x4 : List Int) (x5 : Int) (x6 : Int) (x7 : Int) : Option (List Int × (List Int × (List Int × (List Int × (List Int × (Int × Unit)))))) :=
  cond (decide (x7 < (3 : Int)))
    (let b1606 : Bool := ((decide ((0 : Int) ≤ x7)) && (decide (x7 < (4 : Int))))
    cond b1606
      (cond b1606
        (let v1609 : Int := (List.getD x0 (Int.toNat x7) (0 : Int))
        cond b1606
          (cond b1606
            (cond b1606
              ((level_Clamp F (ishr .i64 (IntKind.wrap .i64 ((IntKind.wrap .i64 ((IntKind.wrap .i64 ((IntKind.wrap .i64 ((Int.tmod x5 (4 : Int)) * (IntKind.wrap .i64 ((List.getD x1 (Int.toNat x7) (0 : Int)) - v1609)))) + (IntKind.wrap .i64 ((IntKind.wrap .i64 (Int.tdiv x5 (4 : Int))) * (IntKind.wrap .i64 ((List.getD x2 (Int.toNat x7) (0 : Int)) - v1609)))))) + (IntKind.wrap .i64 ((4 : Int) * v1609)))) + (2 : Int))) (2 : Int)) (255 : Int)).bind fun r1621 =>
              cond ((decide ((0 : Int) ≤ x5)) && (decide (x5 < (16 : Int))))
                (cond b1606
                  (rec x0 x1 x2 x3 (List.set x4 (((Int.toNat x5) * 4) + (Int.toNat x7)) r1621.1) x5 x6 (IntKind.wrap .i64 (x7 + (1 : Int))))
                  (none))
                (none))
              (none))
            (none))
          (none))
        (none))
      (none))
    (some (x0, (x1, (x2, (x3, (x4, (x6, ())))))))

def etctwo_Plane_l2 (F : Nat) : Nat → List Int → List Int → List Int → List Int → List Int → Int → Int → Int → Option (List Int × (List Int × (List Int × (List Int × (List Int × (Int × Unit))))))
  | 0, _, _, _, _, _, _, _, _ => none
  | k + 1, x0, x1, x2, x3, x4, x5, x6, x7 => etctwo_Plane_l2S F (etctwo_Plane_l2 F k) x0 x1 x2 x3 x4 x5 x6 x7

def etctwo_Plane_l0S (F : Nat) (rec : List Int → List Int → List Int → List Int → List Int → Int → Option (List Int × (List Int × Unit))) (x0 : List Int) (x1 : List Int) (x2 : List Int) (x3 : List Int) (x4 : List Int) (x5 : Int) : Option (List Int × (List Int × Unit)) :=
  cond (decide (x5 < (16 : Int)))
    (cond ((decide ((0 : Int) ≤ x5)) && (decide (x5 < (16 : Int))))
      ((etctwo_Plane_l2 F F x0 x1 x2 x3 (List.set x4 (3 + ((Int.toNat x5) * 4)) (255 : Int)) x5 x5 (0 : Int)).bind fun r1627 =>
      rec r1627.1 r1627.2.1 r1627.2.2.1 r1627.2.2.2.1 r1627.2.2.2.2.1 (IntKind.wrap .i64 (r1627.2.2.2.2.2.1 + (1 : Int))))
      (none))
    (some (x3, (x4, ())))

def etctwo_Plane_l0 (F : Nat) : Nat → List Int → List Int → List Int → List Int → List Int → Int → Option (List Int × (List Int × Unit))
  | 0, _, _, _, _, _, _ => none
  | k + 1, x0, x1, x2, x3, x4, x5 => etctwo_Plane_l0S F (etctwo_Plane_l0 F k) x0 x1 x2 x3 x4 x5

/-- swatch/etctwo.Plane -/
def etctwo_Plane (F : Nat) (a0 : List Int) (a1 : List Int) (a2 : List Int) : Option (List Int × Unit) :=
  (etctwo_Plane_l0 F F a0 a1 a2 etctwo_DecodeT711 etctwo_DecodeT711 (0 : Int)).bind fun r1629 =>
  some (r1629.2.1, ())

/-- (swatch/etctwo.block).planar -/
def etctwo_block_planar (F : Nat) (a0 : List Int) (a1 : Bool) (a2 : Bool) (a3 : List Int) (a4 : List Int) (a5 : List Int) (a6 : List Int) (a7 : Bool) : Option (List Int × Unit) :=
  (etctwo_block_run F a0 a1 a2 a3 a4 a5 a6 a7 (1 : Int) (6 : Int)).bind fun r1632 =>
  (etctwo_block_get F a0 a1 a2 a3 a4 a5 a6 a7 etctwo_LayT192).bind fun r1633 =>
  (etctwo_block_get F a0 a1 a2 a3 a4 a5 a6 a7 etctwo_LayT315).bind fun r1634 =>
  (etctwo_block_get F a0 a1 a2 a3 a4 a5 a6 a7 etctwo_LayT319).bind fun r1635 =>
  (etctwo_block_run F a0 a1 a2 a3 a4 a5 a6 a7 (32 : Int) (38 : Int)).bind fun r1636 =>
  (etctwo_block_run F a0 a1 a2 a3 a4 a5 a6 a7 (39 : Int) (44 : Int)).bind fun r1637 =>
  (etctwo_block_run F a0 a1 a2 a3 a4 a5 a6 a7 (45 : Int) (50 : Int)).bind fun r1638 =>
  (etctwo_block_run F a0 a1 a2 a3 a4 a5 a6 a7 (51 : Int) (57 : Int)).bind fun r1639 =>
  (etctwo_block_run F a0 a1 a2 a3 a4 a5 a6 a7 (58 : Int) (63 : Int)).bind fun r1640 =>
  (etctwo_plane F [r1632.1, r1633.1, r1634.1]).bind fun r1641 =>
  (etctwo_plane F [r1635.1, r1636.1, r1637.1]).bind fun r1642 =>
  (etctwo_plane F [r1638.1, r1639.1, r1640.1]).bind fun r1643 =>
  (etctwo_Plane F r1641.1 r1642.1 r1643.1).bind fun r1644 =>
  some (r1644.1, ())

def etctwo_Decode_l0S (F : Nat) (rec : List Int → List Int → Bool → Bool → List Int → List Int → List Int → List Int → Bool → Int → List Int → List Int → Int → Option (List Int × (List Int × Unit))) (x0 : List Int) (x1 : List Int) (x2 : Bool) (x3 : Bool) (x4 : List Int) (x5 : List Int) (x6 : List Int) (x7 : List Int) (x8 : Bool) (x9 : Int) (x10 : List Int) (x11 : List Int) (x12 : Int) : Option (List Int × (List Int × Unit)) :=
  cond (decide (x12 < (16 : Int)))
    (let b1214 : Bool := ((decide ((0 : Int) ≤ x12)) && (decide (x12 < (16 : Int))))
    cond b1214
      (cond (!x8)
        (cond (x9 != (3 : Int))
          (cond ((List.getD x11 (Int.toNat x12) (0 : Int)) == (2 : Int))
            (cond b1214
              (let n1219 : Nat := ((Int.toNat x12) * 4)
              rec x0 x1 x2 x3 x4 x5 x6 x7 x8 x9 (((List.take n1219 x10) ++ [(0 : Int), (0 : Int), (0 : Int), (0 : Int)]) ++ (List.drop (n1219 + 4) x10)) x11 (IntKind.wrap .i64 (x12 + (1 : Int))))
              (none))
            (rec x0 x1 x2 x3 x4 x5 x6 x7 x8 x9 x10 x11 (IntKind.wrap .i64 (x12 + (1 : Int)))))
          (rec x0 x1 x2 x3 x4 x5 x6 x7 x8 x9 x10 x11 (IntKind.wrap .i64 (x12 + (1 : Int)))))
        (rec x0 x1 x2 x3 x4 x5 x6 x7 x8 x9 x10 x11 (IntKind.wrap .i64 (x12 + (1 : Int)))))
      (none))
    (some (x0, (x10, ())))

def etctwo_Decode_l0 (F : Nat) : Nat → List Int → List Int → Bool → Bool → List Int → List Int → List Int → List Int → Bool → Int → List Int → List Int → Int → Option (List Int × (List Int × Unit))
  | 0, _, _, _, _, _, _, _, _, _, _, _, _, _ => none
  | k + 1, x0, x1, x2, x3, x4, x5, x6, x7, x8, x9, x10, x11, x12 => etctwo_Decode_l0S F (etctwo_Decode_l0 F k) x0 x1 x2 x3 x4 x5 x6 x7 x8 x9 x10 x11 x12

/-- swatch/etctwo.Decode -/
def etctwo_Decode (F : Nat) (a0 : List Int) (a1 : Bool) : Option (List Int × (Int × Unit)) :=
  cond ((((List.length a0) : Nat) : Int) != (8 : Int))
    (some (etctwo_DecodeT711, ((1 : Int), ())))
    ((etctwo_read F a0 a1).bind fun r806 =>
    (etctwo_block_kind F r806.1 r806.2.1 r806.2.2.1 r806.2.2.2.1 r806.2.2.2.2.1 r806.2.2.2.2.2.1 r806.2.2.2.2.2.2.1 r806.2.2.2.2.2.2.2.1).bind fun r949 =>
    cond (r949.1 == (0 : Int))
      ((etctwo_block_halves F r806.1 r806.2.1 r806.2.2.1 r806.2.2.2.1 r806.2.2.2.2.1 r806.2.2.2.2.2.1 r806.2.2.2.2.2.2.1 r806.2.2.2.2.2.2.2.1).bind fun r1192 =>
      (etctwo_Decode_l0 F F etctwo_DecodeT711 r806.1 r806.2.1 r806.2.2.1 r806.2.2.2.1 r806.2.2.2.2.1 r806.2.2.2.2.2.1 r806.2.2.2.2.2.2.1 r806.2.2.2.2.2.2.2.1 r949.1 r1192.1 r806.2.2.2.2.2.2.1 (0 : Int)).bind fun r1225 =>
      some (r1225.2.1, ((0 : Int), ())))
      (cond (r949.1 == (1 : Int))
        ((etctwo_block_ofT F r806.1 r806.2.1 r806.2.2.1 r806.2.2.2.1 r806.2.2.2.2.1 r806.2.2.2.2.2.1 r806.2.2.2.2.2.2.1 r806.2.2.2.2.2.2.2.1).bind fun r1358 =>
        (etctwo_Decode_l0 F F etctwo_DecodeT711 r806.1 r806.2.1 r806.2.2.1 r806.2.2.2.1 r806.2.2.2.2.1 r806.2.2.2.2.2.1 r806.2.2.2.2.2.2.1 r806.2.2.2.2.2.2.2.1 r949.1 r1358.1 r806.2.2.2.2.2.2.1 (0 : Int)).bind fun r1372 =>
        some (r1372.2.1, ((0 : Int), ())))
        (cond (r949.1 == (2 : Int))
          ((etctwo_block_ofH F r806.1 r806.2.1 r806.2.2.1 r806.2.2.2.1 r806.2.2.2.2.1 r806.2.2.2.2.2.1 r806.2.2.2.2.2.2.1 r806.2.2.2.2.2.2.2.1).bind fun r1441 =>
          (etctwo_Decode_l0 F F etctwo_DecodeT711 r806.1 r806.2.1 r806.2.2.1 r806.2.2.2.1 r806.2.2.2.2.1 r806.2.2.2.2.2.1 r806.2.2.2.2.2.2.1 r806.2.2.2.2.2.2.2.1 r949.1 r1441.1 r806.2.2.2.2.2.2.1 (0 : Int)).bind fun r1455 =>
          some (r1455.2.1, ((0 : Int), ())))
          (cond (r949.1 == (3 : Int))
            ((etctwo_block_planar F r806.1 r806.2.1 r806.2.2.1 r806.2.2.2.1 r806.2.2.2.2.1 r806.2.2.2.2.2.1 r806.2.2.2.2.2.2.1 r806.2.2.2.2.2.2.2.1).bind fun r1645 =>
            (etctwo_Decode_l0 F F etctwo_DecodeT711 r806.1 r806.2.1 r806.2.2.1 r806.2.2.2.1 r806.2.2.2.2.1 r806.2.2.2.2.2.1 r806.2.2.2.2.2.2.1 r806.2.2.2.2.2.2.2.1 r949.1 r1645.1 r806.2.2.2.2.2.2.1 (0 : Int)).bind fun r1659 =>
            some (r1659.2.1, ((0 : Int), ())))
            (none)))))

def law11_awakeT1661 : List Int := [0, 4, 0, 2, 0, 0, 0, 0]
/-- swatch/etctwo.Kind -/
def etctwo_Kind (F : Nat) (a0 : List Int) (a1 : Bool) : Option (Int × Unit) :=
  cond ((((List.length a0) : Nat) : Int) != (8 : Int))
    (some ((0 : Int), ()))
    ((etctwo_read F a0 a1).bind fun r1669 =>
    (etctwo_block_kind F r1669.1 r1669.2.1 r1669.2.2.1 r1669.2.2.2.1 r1669.2.2.2.2.1 r1669.2.2.2.2.2.1 r1669.2.2.2.2.2.2.1 r1669.2.2.2.2.2.2.2.1).bind fun r1671 =>
    some (r1671.1, ()))

/-- swatch/swatchlaw11.awake -/
def law11_awake (F : Nat) : Option (Bool × Unit) :=
  (etctwo_Lay F [(63 : Int), (0 : Int), (10 : Int)] [(0 : Int), (127 : Int), (10 : Int)] [(63 : Int), (0 : Int), (10 : Int)]).bind fun r708 =>
  (etctwo_Decode F r708.1 false).bind fun r1660 =>
  (etctwo_Decode F law11_awakeT1661 false).bind fun r1662 =>
  cond (r708.2.1 == (0 : Int))
    (cond (r1660.2.1 == (0 : Int))
      (cond (r1662.2.1 == (0 : Int))
        ((etctwo_Kind F r708.1 true).bind fun r1672 =>
        cond (r1672.1 == (3 : Int))
          (let l1674 : List Int := (List.take 4 r1660.1)
          cond (l1674 == [(255 : Int), (0 : Int), (40 : Int), (255 : Int)])
            (cond ((List.take 4 (List.drop 4 r1660.1)) == [(191 : Int), (64 : Int), (40 : Int), (255 : Int)])
              (cond ((List.take 4 (List.drop 16 r1660.1)) == l1674)
                ((etctwo_Kind F law11_awakeT1661 false).bind fun r1680 =>
                cond (r1680.1 == (2 : Int))
                  (cond ((List.getD r1662.1 3 (0 : Int)) == (255 : Int))
                    ((etctwo_Distance F (7 : Int)).bind fun r1684 =>
                    some ((r1684.1 == (64 : Int)), ()))
                    (some (false, ())))
                  (some (false, ())))
                (some (false, ())))
              (some (false, ())))
            (some (false, ())))
          (some (false, ())))
        (some (false, ())))
      (some (false, ())))
    (some (false, ()))

/-- swatch/swatchref11.parts -/
def ref11_parts (F : Nat) (a0 : List Int) (a1 : Bool) : Option ((Bool × (Bool × (List Int × (List Int × (List Int × (List Int × Unit)))))) × Unit) :=
  cond a1
    ((ref02_Set F a0 (30 : Int) (1 : Int) true (1 : Int)).bind fun r2404 =>
    (ref10_Parts F r2404.1).bind fun r2524 =>
    some ((r2524.1.1, (r2524.1.2.1, (r2524.1.2.2.1, (r2524.1.2.2.2.1, (r2524.1.2.2.2.2.1, (r2524.1.2.2.2.2.2.1, ())))))), ()))
    ((ref10_Parts F a0).bind fun r2525 =>
    some ((r2525.1.1, (r2525.1.2.1, (r2525.1.2.2.1, (r2525.1.2.2.2.1, (r2525.1.2.2.2.2.1, (r2525.1.2.2.2.2.2.1, ())))))), ()))

/-- swatch/swatchref11.Kind -/
def ref11_Kind (F : Nat) (a0 : List Int) (a1 : Bool) : Option (Int × Unit) :=
  cond ((((List.length a0) : Nat) : Int) != (8 : Int))
    (some ((0 : Int), ()))
    ((ref11_parts F a0 a1).bind fun r2526 =>
    (ref10_Bases F (r2526.1.1, (r2526.1.2.1, (r2526.1.2.2.1, (r2526.1.2.2.2.1, (r2526.1.2.2.2.2.1, (r2526.1.2.2.2.2.2.1, ()))))))).bind fun r2670 =>
    cond (r2670.2.1 == (3 : Int))
      (some ((0 : Int), ()))
      (some ((IntKind.wrap .i64 (r2670.2.1 + (1 : Int))), ())))

/-- swatch/swatchref11.run -/
def ref11_run (F : Nat) (a0 : List Int) (a1 : Int) (a2 : Int) : Option (Int × Unit) :=
  (ref02_Top F a0 a1 (IntKind.wrap .i64 ((IntKind.wrap .i64 (a2 - a1)) + (1 : Int)))).bind fun r2679 =>
  some (r2679.1, ())

def ref11_pick_l0S (F : Nat) (rec : List Int → List Int → Int → Int → Option (Int × Unit)) (x0 : List Int) (x1 : List Int) (x2 : Int) (x3 : Int) : Option (Int × Unit) :=
  let v2704 : Int := (((List.length x1) : Nat) : Int)
  cond (decide (x3 < v2704))
    (cond ((decide ((0 : Int) ≤ x3)) && (decide (x3 < (((List.length x1) : Nat) : Int))))
      ((ref02_Top F x0 (List.getD x1 (Int.toNat x3) (0 : Int)) (1 : Int)).bind fun r2710 =>
      rec x0 x1 (IntKind.wrap .i64 ((IntKind.wrap .i64 ((2 : Int) * x2)) + r2710.1)) (IntKind.wrap .i64 (x3 + (1 : Int))))
      (none))
    (some (x2, ()))

def ref11_pick_l0 (F : Nat) : Nat → List Int → List Int → Int → Int → Option (Int × Unit)
  | 0, _, _, _, _ => none
  | k + 1, x0, x1, x2, x3 => ref11_pick_l0S F (ref11_pick_l0 F k) x0 x1 x2 x3

/-- swatch/swatchref11.pick -/
def ref11_pick (F : Nat) (a0 : List Int) (a1 : List Int) : Option (Int × Unit) :=
  (ref11_pick_l0 F F a0 a1 (0 : Int) (0 : Int)).bind fun r2713 =>
  some (r2713.1, ())

/-- swatch/swatchref11.Wide -/
def ref11_Wide (F : Nat) (a0 : List Int) : Option (List Int × Unit) :=
  (ref03_Wide F (List.getD a0 0 (0 : Int)) (6 : Int)).bind fun r2723 =>
  (ref03_Wide F (List.getD a0 1 (0 : Int)) (7 : Int)).bind fun r2725 =>
  (ref03_Wide F (List.getD a0 2 (0 : Int)) (6 : Int)).bind fun r2727 =>
  some ([r2723.1, r2725.1, r2727.1, (255 : Int)], ())

def ref11_Plane_l2S (F : Nat) (rec : List Int → List Int → List Int → List Int → List Int → Int → Int → Option (List Int × (List Int × (List Int × (List Int × (List Int × (Int × Unit))))))) (x0 : List Int) (x1 : List Int) (x2 : List Int) (x3 : List Int) (x4 : List Int) (x5 : Int) (x6 : Int) : Option (List Int × (List Int × (List Int × (List Int × (List Int × (Int × Unit)))))) :=
  cond (decide (x6 < (3 : Int)))
    (let b2879 : Bool := ((decide ((0 : Int) ≤ x6)) && (decide (x6 < (4 : Int))))
    cond b2879
      (cond b2879
        (let v2882 : Int := (List.getD x0 (Int.toNat x6) (0 : Int))
        cond b2879
          (cond b2879
            (cond b2879
              ((ref03_Mix F (0 : Int) (IntKind.wrap .i64 ((IntKind.wrap .i64 ((IntKind.wrap .i64 ((IntKind.wrap .i64 ((Int.tmod x5 (4 : Int)) * (IntKind.wrap .i64 ((List.getD x1 (Int.toNat x6) (0 : Int)) - v2882)))) + (IntKind.wrap .i64 ((IntKind.wrap .i64 (Int.tdiv x5 (4 : Int))) * (IntKind.wrap .i64 ((List.getD x2 (Int.toNat x6) (0 : Int)) - v2882)))))) + (IntKind.wrap .i64 ((4 : Int) * v2882)))) + (2 : Int))) (1 : Int) (4 : Int) (0 : Int)).bind fun r2893 =>
              (ref03_Clamp F r2893.1 (255 : Int)).bind fun r2894 =>
              cond ((decide ((0 : Int) ≤ x5)) && (decide (x5 < (16 : Int))))
                (cond b2879
                  (rec x0 x1 x2 x3 (List.set x4 (((Int.toNat x5) * 4) + (Int.toNat x6)) r2894.1) x5 (IntKind.wrap .i64 (x6 + (1 : Int))))
                  (none))
                (none))
              (none))
            (none))
          (none))
        (none))
      (none))
    (some (x0, (x1, (x2, (x3, (x4, (x5, ())))))))

def ref11_Plane_l2 (F : Nat) : Nat → List Int → List Int → List Int → List Int → List Int → Int → Int → Option (List Int × (List Int × (List Int × (List Int × (List Int × (Int × Unit))))))
  | 0, _, _, _, _, _, _, _ => none
  | k + 1, x0, x1, x2, x3, x4, x5, x6 => ref11_Plane_l2S F (ref11_Plane_l2 F k) x0 x1 x2 x3 x4 x5 x6

def ref11_Plane_l0S (F : Nat) (rec : List Int → List Int → List Int → List Int → List Int → Int → Option (List Int × (List Int × Unit))) (x0 : List Int) (x1 : List Int) (x2 : List Int) (x3 : List Int) (x4 : List Int) (x5 : Int) : Option (List Int × (List Int × Unit)) :=
  cond (decide (x5 < (16 : Int)))
    (cond ((decide ((0 : Int) ≤ x5)) && (decide (x5 < (16 : Int))))
      ((ref11_Plane_l2 F F x0 x1 x2 x3 (List.set x4 (3 + ((Int.toNat x5) * 4)) (255 : Int)) x5 (0 : Int)).bind fun r2900 =>
      rec r2900.1 r2900.2.1 r2900.2.2.1 r2900.2.2.2.1 r2900.2.2.2.2.1 (IntKind.wrap .i64 (r2900.2.2.2.2.2.1 + (1 : Int))))
      (none))
    (some (x3, (x4, ())))

def ref11_Plane_l0 (F : Nat) : Nat → List Int → List Int → List Int → List Int → List Int → Int → Option (List Int × (List Int × Unit))
  | 0, _, _, _, _, _, _ => none
  | k + 1, x0, x1, x2, x3, x4, x5 => ref11_Plane_l0S F (ref11_Plane_l0 F k) x0 x1 x2 x3 x4 x5

/-- swatch/swatchref11.Plane -/
def ref11_Plane (F : Nat) (a0 : List Int) (a1 : List Int) (a2 : List Int) : Option (List Int × Unit) :=
  (ref11_Plane_l0 F F a0 a1 a2 etctwo_DecodeT711 etctwo_DecodeT711 (0 : Int)).bind fun r2902 =>
  some (r2902.2.1, ())

/-- swatch/swatchref11.planar -/
def ref11_planar (F : Nat) (a0 : List Int) : Option (List Int × Unit) :=
  (ref11_run F a0 (1 : Int) (6 : Int)).bind fun r2680 =>
  (ref11_pick F a0 etctwo_LayT192).bind fun r2714 =>
  (ref11_pick F a0 etctwo_LayT315).bind fun r2715 =>
  (ref11_pick F a0 etctwo_LayT319).bind fun r2716 =>
  (ref11_run F a0 (32 : Int) (38 : Int)).bind fun r2717 =>
  (ref11_run F a0 (39 : Int) (44 : Int)).bind fun r2718 =>
  (ref11_run F a0 (45 : Int) (50 : Int)).bind fun r2719 =>
  (ref11_run F a0 (51 : Int) (57 : Int)).bind fun r2720 =>
  (ref11_run F a0 (58 : Int) (63 : Int)).bind fun r2721 =>
  (ref11_Wide F [r2680.1, r2714.1, r2715.1]).bind fun r2728 =>
  (ref11_Wide F [r2716.1, r2717.1, r2718.1]).bind fun r2729 =>
  (ref11_Wide F [r2719.1, r2720.1, r2721.1]).bind fun r2730 =>
  (ref11_Plane F r2728.1 r2729.1 r2730.1).bind fun r2903 =>
  some (r2903.1, ())

/-- swatch/swatchref11.colour -/
def ref11_colour (F : Nat) (a0 : List Int) : Option (List Int × Unit) :=
  (ref03_Wide F (List.getD a0 0 (0 : Int)) (4 : Int)).bind fun r2999 =>
  (ref03_Wide F (List.getD a0 1 (0 : Int)) (4 : Int)).bind fun r3001 =>
  (ref03_Wide F (List.getD a0 2 (0 : Int)) (4 : Int)).bind fun r3003 =>
  some ([r2999.1, r3001.1, r3003.1, (255 : Int)], ())

/-- swatch/swatchref11.Distance -/
def ref11_Distance (F : Nat) (a0 : Int) : Option (Int × Unit) :=
  let v3010 : Int := (Int.tmod a0 (8 : Int))
  cond (decide (v3010 < (0 : Int)))
    (let v3012 : Int := (IntKind.wrap .i64 (v3010 + (8 : Int)))
    cond ((decide ((0 : Int) ≤ v3012)) && (decide (v3012 < (8 : Int))))
      (some ((List.getD etctwo_DistanceT1261 (Int.toNat v3012) (0 : Int)), ()))
      (none))
    (cond ((decide ((0 : Int) ≤ v3010)) && (decide (v3010 < (8 : Int))))
      (some ((List.getD etctwo_DistanceT1261 (Int.toNat v3010) (0 : Int)), ()))
      (none))

/-- swatch/swatchref11.number -/
def ref11_number (F : Nat) (a0 : List Int) : Option (Int × Unit) :=
  some ((IntKind.wrap .i64 ((IntKind.wrap .i64 ((IntKind.wrap .i64 ((256 : Int) * (List.getD a0 0 (0 : Int)))) + (IntKind.wrap .i64 ((16 : Int) * (List.getD a0 1 (0 : Int)))))) + (List.getD a0 2 (0 : Int)))), ())

/-- swatch/swatchref11.four -/
def ref11_four (F : Nat) (a0 : List Int) (a1 : Int) : Option (List Int × Unit) :=
  cond (a1 == (1 : Int))
    ((ref11_pick F a0 [(3 : Int), (4 : Int), (6 : Int), (7 : Int)]).bind fun r2995 =>
    (ref11_run F a0 (8 : Int) (11 : Int)).bind fun r2996 =>
    (ref11_run F a0 (12 : Int) (15 : Int)).bind fun r2997 =>
    (ref11_colour F [r2995.1, r2996.1, r2997.1]).bind fun r3004 =>
    (ref11_run F a0 (16 : Int) (19 : Int)).bind fun r3005 =>
    (ref11_run F a0 (20 : Int) (23 : Int)).bind fun r3006 =>
    (ref11_run F a0 (24 : Int) (27 : Int)).bind fun r3007 =>
    (ref11_colour F [r3005.1, r3006.1, r3007.1]).bind fun r3008 =>
    (ref11_pick F a0 [(28 : Int), (29 : Int), (31 : Int)]).bind fun r3009 =>
    (ref11_Distance F r3009.1).bind fun r3019 =>
    (ref10_Add F r3008.1 r3019.1).bind fun r3020 =>
    (ref10_Add F r3008.1 (IntKind.wrap .i64 ((0 : Int) - r3019.1))).bind fun r3022 =>
    some ((r3004.1 ++ (r3020.1 ++ (r3008.1 ++ r3022.1))), ()))
    ((ref11_run F a0 (1 : Int) (4 : Int)).bind fun r3024 =>
    (ref11_pick F a0 [(5 : Int), (6 : Int), (7 : Int), (11 : Int)]).bind fun r3025 =>
    (ref11_pick F a0 [(12 : Int), (14 : Int), (15 : Int), (16 : Int)]).bind fun r3026 =>
    (ref11_run F a0 (17 : Int) (20 : Int)).bind fun r3027 =>
    (ref11_run F a0 (21 : Int) (24 : Int)).bind fun r3028 =>
    (ref11_run F a0 (25 : Int) (28 : Int)).bind fun r3029 =>
    (ref11_pick F a0 [(29 : Int), (31 : Int)]).bind fun r3030 =>
    let v3031 : Int := (IntKind.wrap .i64 ((2 : Int) * r3030.1))
    (ref11_number F [r3024.1, r3025.1, r3026.1]).bind fun r3039 =>
    (ref11_number F [r3027.1, r3028.1, r3029.1]).bind fun r3040 =>
    cond (decide (r3040.1 ≤ r3039.1))
      ((ref11_Distance F (IntKind.wrap .i64 (v3031 + (1 : Int)))).bind fun r3043 =>
      (ref11_colour F [r3024.1, r3025.1, r3026.1]).bind fun r3044 =>
      (ref10_Add F r3044.1 r3043.1).bind fun r3045 =>
      (ref11_colour F [r3024.1, r3025.1, r3026.1]).bind fun r3046 =>
      let v3047 : Int := (IntKind.wrap .i64 ((0 : Int) - r3043.1))
      (ref10_Add F r3046.1 v3047).bind fun r3048 =>
      (ref11_colour F [r3027.1, r3028.1, r3029.1]).bind fun r3049 =>
      (ref10_Add F r3049.1 r3043.1).bind fun r3050 =>
      (ref11_colour F [r3027.1, r3028.1, r3029.1]).bind fun r3051 =>
      (ref10_Add F r3051.1 v3047).bind fun r3052 =>
      some ((r3045.1 ++ (r3048.1 ++ (r3050.1 ++ r3052.1))), ()))
      ((ref11_Distance F v3031).bind fun r3054 =>
      (ref11_colour F [r3024.1, r3025.1, r3026.1]).bind fun r3055 =>
      (ref10_Add F r3055.1 r3054.1).bind fun r3056 =>
      (ref11_colour F [r3024.1, r3025.1, r3026.1]).bind fun r3057 =>
      let v3058 : Int := (IntKind.wrap .i64 ((0 : Int) - r3054.1))
      (ref10_Add F r3057.1 v3058).bind fun r3059 =>
      (ref11_colour F [r3027.1, r3028.1, r3029.1]).bind fun r3060 =>
      (ref10_Add F r3060.1 r3054.1).bind fun r3061 =>
      (ref11_colour F [r3027.1, r3028.1, r3029.1]).bind fun r3062 =>
      (ref10_Add F r3062.1 v3058).bind fun r3063 =>
      some ((r3056.1 ++ (r3059.1 ++ (r3061.1 ++ r3063.1))), ())))

def ref11_Decode_l0S (F : Nat) (rec : List Int → List Int → Int → Bool → Bool → Bool → List Int → List Int → List Int → List Int → List Int → List Int → Int → Option (List Int × (List Int × Unit))) (x0 : List Int) (x1 : List Int) (x2 : Int) (x3 : Bool) (x4 : Bool) (x5 : Bool) (x6 : List Int) (x7 : List Int) (x8 : List Int) (x9 : List Int) (x10 : List Int) (x11 : List Int) (x12 : Int) : Option (List Int × (List Int × Unit)) :=
  cond (decide (x12 < (16 : Int)))
    (cond (x2 == (1 : Int))
      ((ref11_four F x0 x2).bind fun r3268 =>
      let b3269 : Bool := ((decide ((0 : Int) ≤ x12)) && (decide (x12 < (16 : Int))))
      cond b3269
        (let v3271 : Int := (List.getD x9 (Int.toNat x12) (0 : Int))
        cond ((decide ((0 : Int) ≤ v3271)) && (decide (v3271 < (4 : Int))))
          (cond b3269
            (let n3274 : Nat := ((Int.toNat x12) * 4)
            let l3275 : List Int := (((List.take n3274 x10) ++ (List.take 4 (List.drop ((Int.toNat v3271) * 4) r3268.1))) ++ (List.drop (n3274 + 4) x10))
            cond (!x3)
              (cond b3269
                (cond (v3271 == (2 : Int))
                  (cond b3269
                    (rec x0 x1 x2 x3 x4 x5 x6 x7 x8 x9 (((List.take n3274 l3275) ++ [(0 : Int), (0 : Int), (0 : Int), (0 : Int)]) ++ (List.drop (n3274 + 4) l3275)) x11 (IntKind.wrap .i64 (x12 + (1 : Int))))
                    (none))
                  (rec x0 x1 x2 x3 x4 x5 x6 x7 x8 x9 l3275 x11 (IntKind.wrap .i64 (x12 + (1 : Int)))))
                (none))
              (rec x0 x1 x2 x3 x4 x5 x6 x7 x8 x9 l3275 x11 (IntKind.wrap .i64 (x12 + (1 : Int)))))
            (none))
          (none))
        (none))
      (cond (x2 == (2 : Int))
        ((ref11_four F x0 x2).bind fun r3283 =>
        let b3284 : Bool := ((decide ((0 : Int) ≤ x12)) && (decide (x12 < (16 : Int))))
        cond b3284
          (let v3286 : Int := (List.getD x9 (Int.toNat x12) (0 : Int))
          cond ((decide ((0 : Int) ≤ v3286)) && (decide (v3286 < (4 : Int))))
            (cond b3284
              (let n3289 : Nat := ((Int.toNat x12) * 4)
              let l3290 : List Int := (((List.take n3289 x10) ++ (List.take 4 (List.drop ((Int.toNat v3286) * 4) r3283.1))) ++ (List.drop (n3289 + 4) x10))
              cond (!x3)
                (cond b3284
                  (cond (v3286 == (2 : Int))
                    (cond b3284
                      (rec x0 x1 x2 x3 x4 x5 x6 x7 x8 x9 (((List.take n3289 l3290) ++ [(0 : Int), (0 : Int), (0 : Int), (0 : Int)]) ++ (List.drop (n3289 + 4) l3290)) x11 (IntKind.wrap .i64 (x12 + (1 : Int))))
                      (none))
                    (rec x0 x1 x2 x3 x4 x5 x6 x7 x8 x9 l3290 x11 (IntKind.wrap .i64 (x12 + (1 : Int)))))
                  (none))
                (rec x0 x1 x2 x3 x4 x5 x6 x7 x8 x9 l3290 x11 (IntKind.wrap .i64 (x12 + (1 : Int)))))
              (none))
            (none))
          (none))
        (cond (!x3)
          (let b3298 : Bool := ((decide ((0 : Int) ≤ x12)) && (decide (x12 < (16 : Int))))
          cond b3298
            (let v3300 : Int := (List.getD x9 (Int.toNat x12) (0 : Int))
            cond (v3300 == (0 : Int))
              ((ref10_Half F x5 x12).bind fun r3302 =>
              cond ((decide ((0 : Int) ≤ r3302.1)) && (decide (r3302.1 < (2 : Int))))
                (cond b3298
                  (let n3306 : Nat := ((Int.toNat x12) * 4)
                  let l3307 : List Int := (((List.take n3306 x10) ++ (List.take 4 (List.drop ((Int.toNat r3302.1) * 4) x11))) ++ (List.drop (n3306 + 4) x10))
                  cond (!x3)
                    (cond b3298
                      (cond (v3300 == (2 : Int))
                        (cond b3298
                          (rec x0 x1 x2 x3 x4 x5 x6 x7 x8 x9 (((List.take n3306 l3307) ++ [(0 : Int), (0 : Int), (0 : Int), (0 : Int)]) ++ (List.drop (n3306 + 4) l3307)) x11 (IntKind.wrap .i64 (x12 + (1 : Int))))
                          (none))
                        (rec x0 x1 x2 x3 x4 x5 x6 x7 x8 x9 l3307 x11 (IntKind.wrap .i64 (x12 + (1 : Int)))))
                      (none))
                    (rec x0 x1 x2 x3 x4 x5 x6 x7 x8 x9 l3307 x11 (IntKind.wrap .i64 (x12 + (1 : Int)))))
                  (none))
                (none))
              (cond (!x3)
                (cond b3298
                  (cond (v3300 == (2 : Int))
                    (cond b3298
                      (let n3314 : Nat := ((Int.toNat x12) * 4)
                      rec x0 x1 x2 x3 x4 x5 x6 x7 x8 x9 (((List.take n3314 x10) ++ [(0 : Int), (0 : Int), (0 : Int), (0 : Int)]) ++ (List.drop (n3314 + 4) x10)) x11 (IntKind.wrap .i64 (x12 + (1 : Int))))
                      (none))
                    (rec x0 x1 x2 x3 x4 x5 x6 x7 x8 x9 x10 x11 (IntKind.wrap .i64 (x12 + (1 : Int)))))
                  (none))
                (rec x0 x1 x2 x3 x4 x5 x6 x7 x8 x9 x10 x11 (IntKind.wrap .i64 (x12 + (1 : Int))))))
            (none))
          (cond (!x3)
            (let b3319 : Bool := ((decide ((0 : Int) ≤ x12)) && (decide (x12 < (16 : Int))))
            cond b3319
              (cond ((List.getD x9 (Int.toNat x12) (0 : Int)) == (2 : Int))
                (cond b3319
                  (let n3323 : Nat := ((Int.toNat x12) * 4)
                  rec x0 x1 x2 x3 x4 x5 x6 x7 x8 x9 (((List.take n3323 x10) ++ [(0 : Int), (0 : Int), (0 : Int), (0 : Int)]) ++ (List.drop (n3323 + 4) x10)) x11 (IntKind.wrap .i64 (x12 + (1 : Int))))
                  (none))
                (rec x0 x1 x2 x3 x4 x5 x6 x7 x8 x9 x10 x11 (IntKind.wrap .i64 (x12 + (1 : Int)))))
              (none))
            (rec x0 x1 x2 x3 x4 x5 x6 x7 x8 x9 x10 x11 (IntKind.wrap .i64 (x12 + (1 : Int))))))))
    (some (x1, (x10, ())))

def ref11_Decode_l0 (F : Nat) : Nat → List Int → List Int → Int → Bool → Bool → Bool → List Int → List Int → List Int → List Int → List Int → List Int → Int → Option (List Int × (List Int × Unit))
  | 0, _, _, _, _, _, _, _, _, _, _, _, _, _ => none
  | k + 1, x0, x1, x2, x3, x4, x5, x6, x7, x8, x9, x10, x11, x12 => ref11_Decode_l0S F (ref11_Decode_l0 F k) x0 x1 x2 x3 x4 x5 x6 x7 x8 x9 x10 x11 x12

/-- swatch/swatchref11.Decode -/
def ref11_Decode (F : Nat) (a0 : List Int) (a1 : Bool) : Option (List Int × (Int × Unit)) :=
  cond ((((List.length a0) : Nat) : Int) != (8 : Int))
    (some (etctwo_DecodeT711, ((1 : Int), ())))
    ((ref11_Kind F a0 a1).bind fun r3195 =>
    cond (r3195.1 == (3 : Int))
      ((ref11_planar F a0).bind fun r3197 =>
      some (r3197.1, ((0 : Int), ())))
      (cond (!a1)
        ((ref11_parts F a0 a1).bind fun r3199 =>
        (ref10_Paint F (r3199.1.1, (r3199.1.2.1, (r3199.1.2.2.1, (r3199.1.2.2.2.1, (r3199.1.2.2.2.2.1, (r3199.1.2.2.2.2.2.1, ()))))))).bind fun r3200 =>
        (ref10_Bases F (r3199.1.1, (r3199.1.2.1, (r3199.1.2.2.1, (r3199.1.2.2.2.1, (r3199.1.2.2.2.2.1, (r3199.1.2.2.2.2.2.1, ()))))))).bind fun r3201 =>
        (ref11_Decode_l0 F F a0 etctwo_DecodeT711 r3195.1 true r3199.1.1 r3199.1.2.1 r3199.1.2.2.1 r3199.1.2.2.2.1 r3199.1.2.2.2.2.1 r3199.1.2.2.2.2.2.1 r3200.1 r3201.1 (0 : Int)).bind fun r3328 =>
        some (r3328.2.1, ((0 : Int), ())))
        ((ref02_Top F a0 (30 : Int) (1 : Int)).bind fun r3329 =>
        (ref11_parts F a0 a1).bind fun r3331 =>
        (ref10_Paint F (r3331.1.1, (r3331.1.2.1, (r3331.1.2.2.1, (r3331.1.2.2.2.1, (r3331.1.2.2.2.2.1, (r3331.1.2.2.2.2.2.1, ()))))))).bind fun r3332 =>
        (ref10_Bases F (r3331.1.1, (r3331.1.2.1, (r3331.1.2.2.1, (r3331.1.2.2.2.1, (r3331.1.2.2.2.2.1, (r3331.1.2.2.2.2.2.1, ()))))))).bind fun r3333 =>
        (ref11_Decode_l0 F F a0 etctwo_DecodeT711 r3195.1 (r3329.1 == (1 : Int)) r3331.1.1 r3331.1.2.1 r3331.1.2.2.1 r3331.1.2.2.2.1 r3331.1.2.2.2.2.1 r3331.1.2.2.2.2.2.1 r3332.1 r3333.1 (0 : Int)).bind fun r3397 =>
        some (r3397.2.1, ((0 : Int), ())))))

/-- swatch/swatchlaw11.EtctwoDecodes -/
def law11_EtctwoDecodes (F : Nat) (a0 : List Int) (a1 : Bool) (a2 : Int) : Option (Bool × Unit) :=
  (law11_awake F).bind fun r1686 =>
  let v1687 : Int := (((List.length a0) : Nat) : Int)
  cond (decide ((40 : Int) < v1687))
    (some (r1686.1, ()))
    ((etctwo_Decode F a0 a1).bind fun r1689 =>
    (ref11_Decode F a0 a1).bind fun r3398 =>
    cond r1686.1
      (cond (r1689.1 == r3398.1)
        (cond (r1689.2.1 == r3398.2.1)
          ((etctwo_Kind F a0 a1).bind fun r3401 =>
          (ref11_Kind F a0 a1).bind fun r3402 =>
          cond (r3401.1 == r3402.1)
            ((etctwo_Distance F a2).bind fun r3404 =>
            (ref11_Distance F a2).bind fun r3405 =>
            some ((r3404.1 == r3405.1), ()))
            (some (false, ())))
          (some (false, ())))
        (some (false, ())))
      (some (false, ())))

def ref11_span_l0S (F : Nat) (rec : Int → List Int → Int → Option (List Int × Unit)) (x0 : Int) (x1 : List Int) (x2 : Int) : Option (List Int × Unit) :=
  cond (decide (x2 ≤ x0))
    (cond ((decide (((List.length x1) + 1) ≤ 1099511627776)) && true)
      (rec x0 (x1 ++ [x2]) (IntKind.wrap .i64 (x2 + (1 : Int))))
      (none))
    (some (x1, ()))

def ref11_span_l0 (F : Nat) : Nat → Int → List Int → Int → Option (List Int × Unit)
  | 0, _, _, _ => none
  | k + 1, x0, x1, x2 => ref11_span_l0S F (ref11_span_l0 F k) x0 x1 x2

/-- swatch/swatchref11.span -/
def ref11_span (F : Nat) (a0 : Int) (a1 : Int) : Option (List Int × Unit) :=
  (ref11_span_l0 F F a1 [] a0).bind fun r3491 =>
  some (r3491.1, ())

def ref11_put_l0S (F : Nat) (rec : List Int → List Int → Int → Int → Option (List Int × Unit)) (x0 : List Int) (x1 : List Int) (x2 : Int) (x3 : Int) : Option (List Int × Unit) :=
  cond (decide ((0 : Int) ≤ x3))
    (cond ((decide ((0 : Int) ≤ x3)) && (decide (x3 < (((List.length x1) : Nat) : Int))))
      ((ref02_Set F x0 (List.getD x1 (Int.toNat x3) (0 : Int)) (1 : Int) true (IntKind.wrap .u64 (Int.tmod x2 (2 : Int)))).bind fun r3561 =>
      rec r3561.1 x1 (IntKind.wrap .i64 (Int.tdiv x2 (2 : Int))) (IntKind.wrap .i64 (x3 - (1 : Int))))
      (none))
    (some (x0, ()))

def ref11_put_l0 (F : Nat) : Nat → List Int → List Int → Int → Int → Option (List Int × Unit)
  | 0, _, _, _, _ => none
  | k + 1, x0, x1, x2, x3 => ref11_put_l0S F (ref11_put_l0 F k) x0 x1 x2 x3

/-- swatch/swatchref11.put -/
def ref11_put (F : Nat) (a0 : List Int) (a1 : List Int) (a2 : Int) : Option (List Int × Unit) :=
  (ref11_put_l0 F F a0 a1 a2 (IntKind.wrap .i64 ((((List.length a1) : Nat) : Int) - (1 : Int)))).bind fun r3565 =>
  some (r3565.1, ())

def ref11_Lay_l0S (F : Nat) (rec : List Int → List Int → List Int → List Int → Int → Option (Unit ⊕ (List Int × (List Int × (List Int × Unit))))) (x0 : List Int) (x1 : List Int) (x2 : List Int) (x3 : List Int) (x4 : Int) : Option (Unit ⊕ (List Int × (List Int × (List Int × Unit)))) :=
  let n3692 : Nat := ((List.length x3) / 3)
  cond (decide (x4 < (3 : Int)))
    (let b3694 : Bool := ((decide ((0 : Int) ≤ x4)) && (decide (x4 < ((n3692 : Nat) : Int))))
    cond b3694
      (let n3695 : Nat := ((Int.toNat x4) * 3)
      (ref10_In F (List.getD x3 n3695 (0 : Int)) (0 : Int) (63 : Int)).bind fun r3697 =>
      cond (!r3697.1)
        (some (.inl ()))
        (cond b3694
          ((ref10_In F (List.getD x3 (1 + n3695) (0 : Int)) (0 : Int) (127 : Int)).bind fun r3701 =>
          cond (!r3701.1)
            (some (.inl ()))
            (cond b3694
              ((ref10_In F (List.getD x3 (2 + n3695) (0 : Int)) (0 : Int) (63 : Int)).bind fun r3705 =>
              cond (!r3705.1)
                (some (.inl ()))
                (rec x0 x1 x2 x3 (IntKind.wrap .i64 (x4 + (1 : Int)))))
              (none)))
          (none)))
      (none))
    (some (.inr (x0, (x1, (x2, ())))))

def ref11_Lay_l0 (F : Nat) : Nat → List Int → List Int → List Int → List Int → Int → Option (Unit ⊕ (List Int × (List Int × (List Int × Unit))))
  | 0, _, _, _, _, _ => none
  | k + 1, x0, x1, x2, x3, x4 => ref11_Lay_l0S F (ref11_Lay_l0 F k) x0 x1 x2 x3 x4

def ref11_Lay_l2S (F : Nat) (rec : List Int → Int → Option (List Int × Unit)) (x0 : List Int) (x1 : Int) : Option (List Int × Unit) :=
  cond (decide (x1 < (2 : Int)))
    ((ref10_Parts F x0).bind fun r3782 =>
    let b3783 : Bool := ((decide ((0 : Int) ≤ x1)) && (decide (x1 < (3 : Int))))
    cond b3783
      (cond b3783
        (let v3787 : Int := (IntKind.wrap .i64 ((List.getD r3782.1.2.2.1 (Int.toNat x1) (0 : Int)) + (List.getD r3782.1.2.2.2.1 (Int.toNat x1) (0 : Int))))
        cond (decide (v3787 < (0 : Int)))
          ((ref11_put F x0 [(IntKind.wrap .i64 ((8 : Int) * x1))] (1 : Int)).bind fun r3790 =>
          rec r3790.1 (IntKind.wrap .i64 (x1 + (1 : Int))))
          (cond (decide ((31 : Int) < v3787))
            ((ref11_put F x0 [(IntKind.wrap .i64 ((8 : Int) * x1))] (1 : Int)).bind fun r3795 =>
            rec r3795.1 (IntKind.wrap .i64 (x1 + (1 : Int))))
            (rec x0 (IntKind.wrap .i64 (x1 + (1 : Int))))))
        (none))
      (none))
    (some (x0, ()))

def ref11_Lay_l2 (F : Nat) : Nat → List Int → Int → Option (List Int × Unit)
  | 0, _, _ => none
  | k + 1, x0, x1 => ref11_Lay_l2S F (ref11_Lay_l2 F k) x0 x1

/-- swatch/swatchref11.Lay -/
def ref11_Lay (F : Nat) (a0 : List Int) (a1 : List Int) (a2 : List Int) : Option (List Int × (Int × Unit)) :=
  (ref11_Lay_l0 F F a0 a1 a2 (a0 ++ (a1 ++ a2)) (0 : Int)).bind fun r3708 => match r3708 with
    | .inl r3708 => (some ([], ((1 : Int), ())))
    | .inr r3708 => ((ref11_span F (1 : Int) (6 : Int)).bind fun r3710 =>
      (ref11_put F etctwo_LayT37 r3710.1 (List.getD r3708.1 0 (0 : Int))).bind fun r3712 =>
      (ref11_put F r3712.1 etctwo_LayT192 (List.getD r3708.1 1 (0 : Int))).bind fun r3715 =>
      (ref11_put F r3715.1 etctwo_LayT315 (List.getD r3708.1 2 (0 : Int))).bind fun r3718 =>
      (ref11_put F r3718.1 etctwo_LayT319 (List.getD r3708.2.1 0 (0 : Int))).bind fun r3721 =>
      (ref11_span F (32 : Int) (38 : Int)).bind fun r3724 =>
      (ref11_put F r3721.1 r3724.1 (List.getD r3708.2.1 1 (0 : Int))).bind fun r3726 =>
      (ref11_span F (39 : Int) (44 : Int)).bind fun r3729 =>
      (ref11_put F r3726.1 r3729.1 (List.getD r3708.2.1 2 (0 : Int))).bind fun r3731 =>
      (ref11_span F (45 : Int) (50 : Int)).bind fun r3734 =>
      (ref11_put F r3731.1 r3734.1 (List.getD r3708.2.2.1 0 (0 : Int))).bind fun r3736 =>
      (ref11_span F (51 : Int) (57 : Int)).bind fun r3739 =>
      (ref11_put F r3736.1 r3739.1 (List.getD r3708.2.2.1 1 (0 : Int))).bind fun r3741 =>
      (ref11_span F (58 : Int) (63 : Int)).bind fun r3744 =>
      (ref11_put F r3741.1 r3744.1 (List.getD r3708.2.2.1 2 (0 : Int))).bind fun r3746 =>
      (ref11_put F r3746.1 [(30 : Int)] (1 : Int)).bind fun r3748 =>
      (ref11_Lay_l2 F F r3748.1 (0 : Int)).bind fun r3799 =>
      (ref11_run F r3799.1 (19 : Int) (20 : Int)).bind fun r3801 =>
      (ref11_run F r3799.1 (22 : Int) (23 : Int)).bind fun r3802 =>
      let v3803 : Int := (IntKind.wrap .i64 (r3801.1 + r3802.1))
      cond (decide ((4 : Int) ≤ v3803))
        ((ref11_put F r3799.1 [(16 : Int), (17 : Int), (18 : Int)] (7 : Int)).bind fun r3805 =>
        some (r3805.1, ((0 : Int), ())))
        ((ref11_put F r3799.1 [(21 : Int)] (1 : Int)).bind fun r3807 =>
        some (r3807.1, ((0 : Int), ()))))

def law11_EtctwoLays_l2S (F : Nat) (rec : List Int → Bool → Int → Int → Option ((Bool × Unit) ⊕ (List Int × (Bool × (Int × Unit))))) (x0 : List Int) (x1 : Bool) (x2 : Int) (x3 : Int) : Option ((Bool × Unit) ⊕ (List Int × (Bool × (Int × Unit)))) :=
  cond (decide (x3 < (4 : Int)))
    (let b3901 : Bool := ((decide ((0 : Int) ≤ x2)) && (decide (x2 < (3 : Int))))
    cond b3901
      (let b3903 : Bool := ((decide ((0 : Int) ≤ x3)) && (decide (x3 < (4 : Int))))
      cond b3903
        (let v3905 : Int := (List.getD x0 (((Int.toNat x2) * 4) + (Int.toNat x3)) (0 : Int))
        cond (decide (v3905 < (0 : Int)))
          (some (.inl (x1, ())))
          (cond b3901
            (cond b3903
              (cond (decide ((255 : Int) < v3905))
                (some (.inl (x1, ())))
                (rec x0 x1 x2 (IntKind.wrap .i64 (x3 + (1 : Int)))))
              (none))
            (none)))
        (none))
      (none))
    (some (.inr (x0, (x1, (x2, ())))))

def law11_EtctwoLays_l2 (F : Nat) : Nat → List Int → Bool → Int → Int → Option ((Bool × Unit) ⊕ (List Int × (Bool × (Int × Unit))))
  | 0, _, _, _, _ => none
  | k + 1, x0, x1, x2, x3 => law11_EtctwoLays_l2S F (law11_EtctwoLays_l2 F k) x0 x1 x2 x3

def law11_EtctwoLays_l0S (F : Nat) (rec : List Int → Bool → Int → Option ((Bool × Unit) ⊕ (List Int × (Bool × Unit)))) (x0 : List Int) (x1 : Bool) (x2 : Int) : Option ((Bool × Unit) ⊕ (List Int × (Bool × Unit))) :=
  cond (decide (x2 < (3 : Int)))
    ((law11_EtctwoLays_l2 F F x0 x1 x2 (0 : Int)).bind fun r3909 => match r3909 with
      | .inl r3909 => (some (.inl (r3909.1, ())))
      | .inr r3909 => (rec r3909.1 r3909.2.1 (IntKind.wrap .i64 (r3909.2.2.1 + (1 : Int)))))
    (some (.inr (x0, (x1, ()))))

def law11_EtctwoLays_l0 (F : Nat) : Nat → List Int → Bool → Int → Option ((Bool × Unit) ⊕ (List Int × (Bool × Unit)))
  | 0, _, _, _ => none
  | k + 1, x0, x1, x2 => law11_EtctwoLays_l0S F (law11_EtctwoLays_l0 F k) x0 x1 x2

/-- swatch/swatchlaw11.EtctwoLays -/
def law11_EtctwoLays (F : Nat) (a0 : List Int) (a1 : List Int) : Option (Bool × Unit) :=
  (law11_awake F).bind fun r3407 =>
  let l3408 : List Int := (List.take 3 a0)
  let l3409 : List Int := (List.take 3 (List.drop 3 a0))
  let l3410 : List Int := (List.take 3 (List.drop 6 a0))
  (etctwo_Lay F l3408 l3409 l3410).bind fun r3411 =>
  (ref11_Lay F l3408 l3409 l3410).bind fun r3809 =>
  (ref01_Same F r3411.1 r3809.1).bind fun r3848 =>
  cond (!r3848.1)
    (some (false, ()))
    (cond (r3411.2.1 != r3809.2.1)
      (some (false, ()))
      ((law11_EtctwoLays_l0 F F a1 r3407.1 (0 : Int)).bind fun r3911 => match r3911 with
        | .inl r3911 => (some (r3911.1, ()))
        | .inr r3911 => (cond r3911.2.1
            (let l3912 : List Int := (List.take 4 r3911.1)
            let l3913 : List Int := (List.take 4 (List.drop 4 r3911.1))
            let l3914 : List Int := (List.take 4 (List.drop 8 r3911.1))
            (etctwo_Plane F l3912 l3913 l3914).bind fun r3915 =>
            (ref11_Plane F l3912 l3913 l3914).bind fun r3916 =>
            some ((r3915.1 == r3916.1), ()))
            (some (false, ())))))

def law11_EtctwoPlanar_l0S (F : Nat) (rec : Bool → List Int → List Int → Int → Int → Option (Unit ⊕ (Bool × (Int × Unit)))) (x0 : Bool) (x1 : List Int) (x2 : List Int) (x3 : Int) (x4 : Int) : Option (Unit ⊕ (Bool × (Int × Unit))) :=
  cond (decide (x4 < (16 : Int)))
    (cond ((decide ((0 : Int) ≤ x4)) && (decide (x4 < (16 : Int))))
      (cond (!((List.take 4 (List.drop ((Int.toNat x4) * 4) x2)) == x1))
        (some (.inl ()))
        (rec x0 x1 x2 x3 (IntKind.wrap .i64 (x4 + (1 : Int)))))
      (none))
    (some (.inr (x0, (x3, ()))))

def law11_EtctwoPlanar_l0 (F : Nat) : Nat → Bool → List Int → List Int → Int → Int → Option (Unit ⊕ (Bool × (Int × Unit)))
  | 0, _, _, _, _, _ => none
  | k + 1, x0, x1, x2, x3, x4 => law11_EtctwoPlanar_l0S F (law11_EtctwoPlanar_l0 F k) x0 x1 x2 x3 x4

/-- swatch/swatchlaw11.EtctwoPlanar -/
def law11_EtctwoPlanar (F : Nat) (a0 : List Int) : Option (Bool × Unit) :=
  (law11_awake F).bind fun r3918 =>
  let l3919 : List Int := (List.take 3 a0)
  let l3920 : List Int := (List.take 3 (List.drop 3 a0))
  let l3921 : List Int := (List.take 3 (List.drop 6 a0))
  (etctwo_Lay F l3919 l3920 l3921).bind fun r3922 =>
  cond (r3922.2.1 != (0 : Int))
    (cond r3918.1
      (cond (r3922.2.1 == (1 : Int))
        (some (((((List.length r3922.1) : Nat) : Int) == (0 : Int)), ()))
        (some (false, ())))
      (some (false, ())))
    ((etctwo_Decode F r3922.1 false).bind fun r3928 =>
    (etctwo_Decode F r3922.1 true).bind fun r3929 =>
    (ref11_Wide F l3919).bind fun r3930 =>
    (ref11_Wide F l3920).bind fun r3931 =>
    (ref11_Wide F l3921).bind fun r3932 =>
    (etctwo_Plane F r3930.1 r3931.1 r3932.1).bind fun r3933 =>
    cond (r3928.2.1 != (0 : Int))
      (some (false, ()))
      (cond (r3929.2.1 != (0 : Int))
        (some (false, ()))
        (cond (!(r3928.1 == r3933.1))
          (some (false, ()))
          (cond (!(r3929.1 == r3933.1))
            (some (false, ()))
            ((etctwo_Kind F r3922.1 false).bind fun r3938 =>
            cond (r3938.1 != (3 : Int))
              (some (false, ()))
              ((etctwo_Kind F r3922.1 true).bind fun r3940 =>
              cond (r3940.1 != (3 : Int))
                (some (false, ()))
                (cond (!((List.take 4 r3928.1) == r3930.1))
                  (some (false, ()))
                  ((etctwo_Lay F l3919 l3919 l3919).bind fun r3944 =>
                  (etctwo_Decode F r3944.1 false).bind fun r3946 =>
                  (law11_EtctwoPlanar_l0 F F r3918.1 r3930.1 r3946.1 r3946.2.1 (0 : Int)).bind fun r3961 => match r3961 with
                    | .inl r3961 => (some (false, ()))
                    | .inr r3961 => (cond r3961.1
                        (some ((r3961.2.1 == (0 : Int)), ()))
                        (some (false, ())))))))))))

def law11_EtctwoOlder_l0S (F : Nat) (rec : List Int → Bool → List Int → List Int → Bool → Bool → List Int → List Int → List Int → List Int → Int → Option (Unit ⊕ (List Int × (Bool × (Bool × (Bool × (List Int × (List Int × (List Int × (List Int × Unit)))))))))) (x0 : List Int) (x1 : Bool) (x2 : List Int) (x3 : List Int) (x4 : Bool) (x5 : Bool) (x6 : List Int) (x7 : List Int) (x8 : List Int) (x9 : List Int) (x10 : Int) : Option (Unit ⊕ (List Int × (Bool × (Bool × (Bool × (List Int × (List Int × (List Int × (List Int × Unit))))))))) :=
  cond (decide (x10 < (16 : Int)))
    (let b4008 : Bool := ((decide ((0 : Int) ≤ x10)) && (decide (x10 < (16 : Int))))
    cond b4008
      (let n4009 : Nat := ((Int.toNat x10) * 4)
      let n4010 : Nat := (3 + n4009)
      cond ((List.getD x2 n4010 (0 : Int)) != (255 : Int))
        (some (.inl ()))
        (cond b4008
          (cond (!((List.take 4 (List.drop n4009 x3)) == [(0 : Int), (0 : Int), (0 : Int), (0 : Int)]))
            (cond b4008
              (cond ((List.getD x3 n4010 (0 : Int)) != (255 : Int))
                (some (.inl ()))
                (rec x0 x1 x2 x3 x4 x5 x6 x7 x8 x9 (IntKind.wrap .i64 (x10 + (1 : Int)))))
              (none))
            (rec x0 x1 x2 x3 x4 x5 x6 x7 x8 x9 (IntKind.wrap .i64 (x10 + (1 : Int)))))
          (none)))
      (none))
    (some (.inr (x0, (x1, (x4, (x5, (x6, (x7, (x8, (x9, ()))))))))))

def law11_EtctwoOlder_l0 (F : Nat) : Nat → List Int → Bool → List Int → List Int → Bool → Bool → List Int → List Int → List Int → List Int → Int → Option (Unit ⊕ (List Int × (Bool × (Bool × (Bool × (List Int × (List Int × (List Int × (List Int × Unit)))))))))
  | 0, _, _, _, _, _, _, _, _, _, _, _ => none
  | k + 1, x0, x1, x2, x3, x4, x5, x6, x7, x8, x9, x10 => law11_EtctwoOlder_l0S F (law11_EtctwoOlder_l0 F k) x0 x1 x2 x3 x4 x5 x6 x7 x8 x9 x10

/-- swatch/swatchlaw11.EtctwoOlder -/
def law11_EtctwoOlder (F : Nat) (a0 : List Int) : Option (Bool × Unit) :=
  (law11_awake F).bind fun r3965 =>
  cond ((((List.length a0) : Nat) : Int) != (8 : Int))
    (some (r3965.1, ()))
    ((etctwo_Decode F a0 false).bind fun r3968 =>
    (etcone_Decode F a0).bind fun r3973 =>
    (etctwo_Decode F a0 true).bind fun r3974 =>
    (etcone_Parts F a0).bind fun r3975 =>
    (etcone_Bases F (r3975.1.1, (r3975.1.2.1, (r3975.1.2.2.1, (r3975.1.2.2.2.1, (r3975.1.2.2.2.2.1, (r3975.1.2.2.2.2.2.1, ()))))))).bind fun r3976 =>
    cond (r3968.2.1 != (0 : Int))
      (some (false, ()))
      (cond (r3973.2.1 != (0 : Int))
        (some (false, ()))
        (cond (r3974.2.1 != (0 : Int))
          (some (false, ()))
          ((etctwo_Kind F a0 false).bind fun r3980 =>
          let b3982 : Bool := (r3976.2.1 == (3 : Int))
          cond (!((r3980.1 == (0 : Int)) == b3982))
            (some (false, ()))
            (cond b3982
              (cond (!(r3968.1 == r3973.1))
                (some (false, ()))
                (cond r3975.1.1
                  (cond (!(r3968.1 == r3974.1))
                    (some (false, ()))
                    ((law11_EtctwoOlder_l0 F F a0 r3965.1 r3968.1 r3974.1 r3975.1.1 r3975.1.2.1 r3975.1.2.2.1 r3975.1.2.2.2.1 r3975.1.2.2.2.2.1 r3975.1.2.2.2.2.2.1 (0 : Int)).bind fun r4019 => match r4019 with
                      | .inl r4019 => (some (false, ()))
                      | .inr r4019 => (cond r4019.2.1
                          (cond r4019.2.2.1
                            (some (true, ()))
                            ((etctwo_Kind F r4019.1 false).bind fun r4021 =>
                            some ((r4021.1 == (0 : Int)), ())))
                          (some (false, ())))))
                  ((law11_EtctwoOlder_l0 F F a0 r3965.1 r3968.1 r3974.1 r3975.1.1 r3975.1.2.1 r3975.1.2.2.1 r3975.1.2.2.2.1 r3975.1.2.2.2.2.1 r3975.1.2.2.2.2.2.1 (0 : Int)).bind fun r4036 => match r4036 with
                    | .inl r4036 => (some (false, ()))
                    | .inr r4036 => (cond r4036.2.1
                        (cond r4036.2.2.1
                          (some (true, ()))
                          ((etctwo_Kind F r4036.1 false).bind fun r4038 =>
                          some ((r4038.1 == (0 : Int)), ())))
                        (some (false, ()))))))
              (cond r3975.1.1
                (cond (!(r3968.1 == r3974.1))
                  (some (false, ()))
                  ((law11_EtctwoOlder_l0 F F a0 r3965.1 r3968.1 r3974.1 r3975.1.1 r3975.1.2.1 r3975.1.2.2.1 r3975.1.2.2.2.1 r3975.1.2.2.2.2.1 r3975.1.2.2.2.2.2.1 (0 : Int)).bind fun r4054 => match r4054 with
                    | .inl r4054 => (some (false, ()))
                    | .inr r4054 => (cond r4054.2.1
                        (cond r4054.2.2.1
                          (some (true, ()))
                          ((etctwo_Kind F r4054.1 false).bind fun r4056 =>
                          some ((r4056.1 == (0 : Int)), ())))
                        (some (false, ())))))
                ((law11_EtctwoOlder_l0 F F a0 r3965.1 r3968.1 r3974.1 r3975.1.1 r3975.1.2.1 r3975.1.2.2.1 r3975.1.2.2.2.1 r3975.1.2.2.2.2.1 r3975.1.2.2.2.2.2.1 (0 : Int)).bind fun r4071 => match r4071 with
                  | .inl r4071 => (some (false, ()))
                  | .inr r4071 => (cond r4071.2.1
                      (cond r4071.2.2.1
                        (some (true, ()))
                        ((etctwo_Kind F r4071.1 false).bind fun r4073 =>
                        some ((r4073.1 == (0 : Int)), ())))
                      (some (false, ()))))))))))

end Go.AE.Gn

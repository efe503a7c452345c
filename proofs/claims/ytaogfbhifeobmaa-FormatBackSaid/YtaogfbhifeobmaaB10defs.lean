/- Printed by a program of mine (gen.py): what the Go functions of this part come to. -/
import Derived.Test.YtaogfbhifeobmaaA02defs
import Derived.Test.YtaogfbhifeobmaaA07defs
set_option linter.unusedSimpArgs false
set_option linter.unusedVariables false
namespace Go.AE.Gn
open Go Go.AE

def law10_awakeT2 : List Int := [0, 0, 0, 3, 0, 0, 0, 0, 0, 0, 0, 0, 0, 0, 0, 0]
def law10_awakeT3 : List Int := [0, 0, 0, 0, 0, 0, 0, 0, 0, 0, 0, 0, 0, 0, 0, 0]
def etcone_JoinT4 : List Int := [0, 0, 0, 0, 0, 0, 0, 0]
/-- swatch/etcone.Join$1 -/
def etcone_Join_c1 (F : Nat) (a0 : Int) (a1 : Int) (a2 : Int) (a3 : List Int) (a4 : Bool) : Option (List Int × (Bool × Unit)) :=
  (bits_SetHigh F a3 a0 a1 (IntKind.wrap .u64 a2)).bind fun r157 =>
  cond a4
    (let b159 : Bool := (r157.2.1 == (0 : Int))
    cond b159
      (some (r157.1, (b159, ())))
      (some (a3, (b159, ()))))
    (some (a3, (false, ())))

/-- swatch/etcone.truth -/
def etcone_truth (F : Nat) (a0 : Bool) : Option (Int × Unit) :=
  cond a0
    (some ((1 : Int), ()))
    (some ((0 : Int), ()))

/-- swatch/etcone.column -/
def etcone_column (F : Nat) (a0 : Int) : Option (Int × Unit) :=
  some ((IntKind.wrap .i64 ((IntKind.wrap .i64 ((4 : Int) * (Int.tmod a0 (4 : Int)))) + (IntKind.wrap .i64 (Int.tdiv a0 (4 : Int))))), ())

def etcone_Join_l0S (F : Nat) (rec : Bool → Bool → List Int → List Int → List Int → List Int → List Int → Bool → Int → Option (Bool × (Bool × (List Int × (List Int × (List Int × (List Int × (List Int × (Bool × Unit))))))))) (x0 : Bool) (x1 : Bool) (x2 : List Int) (x3 : List Int) (x4 : List Int) (x5 : List Int) (x6 : List Int) (x7 : Bool) (x8 : Int) : Option (Bool × (Bool × (List Int × (List Int × (List Int × (List Int × (List Int × (Bool × Unit)))))))) :=
  cond (decide (x8 < (3 : Int)))
    (let v470 : Int := (IntKind.wrap .i64 ((8 : Int) * x8))
    cond (!x0)
      (let b472 : Bool := ((decide ((0 : Int) ≤ x8)) && (decide (x8 < (3 : Int))))
      cond b472
        ((etcone_Join_c1 F v470 (4 : Int) (List.getD x2 (Int.toNat x8) (0 : Int)) x6 x7).bind fun r475 =>
        cond b472
          ((etcone_Join_c1 F (IntKind.wrap .i64 (v470 + (4 : Int))) (4 : Int) (List.getD x3 (Int.toNat x8) (0 : Int)) r475.1 r475.2.1).bind fun r479 =>
          rec x0 x1 x2 x3 x4 x5 r479.1 r479.2.1 (IntKind.wrap .i64 (x8 + (1 : Int))))
          (none))
        (none))
      (let b482 : Bool := ((decide ((0 : Int) ≤ x8)) && (decide (x8 < (3 : Int))))
      cond b482
        ((etcone_Join_c1 F v470 (5 : Int) (List.getD x2 (Int.toNat x8) (0 : Int)) x6 x7).bind fun r485 =>
        let v487 : Int := (IntKind.wrap .i64 (v470 + (5 : Int)))
        cond b482
          (cond b482
            (let v488 : Int := (List.getD x3 (Int.toNat x8) (0 : Int))
            cond (decide (v488 < (0 : Int)))
              (cond b482
                ((etcone_truth F (decide ((-(4 : Int)) ≤ v488))).bind fun r491 =>
                (etcone_Join_c1 F v487 (3 : Int) (IntKind.wrap .i64 (v488 - (IntKind.wrap .i64 ((-(8 : Int)) * r491.1)))) r485.1 r485.2.1).bind fun r494 =>
                cond r494.2.1
                  (cond b482
                    (rec x0 x1 x2 x3 x4 x5 r494.1 (decide (v488 < (4 : Int))) (IntKind.wrap .i64 (x8 + (1 : Int))))
                    (none))
                  (rec x0 x1 x2 x3 x4 x5 r494.1 false (IntKind.wrap .i64 (x8 + (1 : Int)))))
                (none))
              ((etcone_truth F false).bind fun r499 =>
              (etcone_Join_c1 F v487 (3 : Int) (IntKind.wrap .i64 (v488 - (IntKind.wrap .i64 ((-(8 : Int)) * r499.1)))) r485.1 r485.2.1).bind fun r502 =>
              cond r502.2.1
                (cond b482
                  (rec x0 x1 x2 x3 x4 x5 r502.1 (decide (v488 < (4 : Int))) (IntKind.wrap .i64 (x8 + (1 : Int))))
                  (none))
                (rec x0 x1 x2 x3 x4 x5 r502.1 false (IntKind.wrap .i64 (x8 + (1 : Int))))))
            (none))
          (none))
        (none)))
    (some (x0, (x1, (x2, (x3, (x4, (x5, (x6, (x7, ())))))))))

def etcone_Join_l0 (F : Nat) : Nat → Bool → Bool → List Int → List Int → List Int → List Int → List Int → Bool → Int → Option (Bool × (Bool × (List Int × (List Int × (List Int × (List Int × (List Int × (Bool × Unit))))))))
  | 0, _, _, _, _, _, _, _, _, _ => none
  | k + 1, x0, x1, x2, x3, x4, x5, x6, x7, x8 => etcone_Join_l0S F (etcone_Join_l0 F k) x0 x1 x2 x3 x4 x5 x6 x7 x8

def etcone_Join_l2S (F : Nat) (rec : List Int → Bool → List Int → Int → Option (List Int × (Bool × Unit))) (x0 : List Int) (x1 : Bool) (x2 : List Int) (x3 : Int) : Option (List Int × (Bool × Unit)) :=
  cond (decide (x3 < (16 : Int)))
    (cond ((decide ((0 : Int) ≤ x3)) && (decide (x3 < (16 : Int))))
      (let v603 : Int := (List.getD x2 (Int.toNat x3) (0 : Int))
      cond x1
        (cond (decide ((0 : Int) ≤ v603))
          ((etcone_column F x3).bind fun r606 =>
          (etcone_Join_c1 F (IntKind.wrap .i64 ((47 : Int) - r606.1)) (1 : Int) (iand .i64 (ishr .i64 v603 (1 : Int)) (1 : Int)) x0 (decide (v603 < (4 : Int)))).bind fun r610 =>
          (etcone_column F x3).bind fun r612 =>
          (etcone_Join_c1 F (IntKind.wrap .i64 ((63 : Int) - r612.1)) (1 : Int) (iand .i64 v603 (1 : Int)) r610.1 r610.2.1).bind fun r615 =>
          rec r615.1 r615.2.1 x2 (IntKind.wrap .i64 (x3 + (1 : Int))))
          ((etcone_column F x3).bind fun r618 =>
          (etcone_Join_c1 F (IntKind.wrap .i64 ((47 : Int) - r618.1)) (1 : Int) (iand .i64 (ishr .i64 v603 (1 : Int)) (1 : Int)) x0 false).bind fun r622 =>
          (etcone_column F x3).bind fun r624 =>
          (etcone_Join_c1 F (IntKind.wrap .i64 ((63 : Int) - r624.1)) (1 : Int) (iand .i64 v603 (1 : Int)) r622.1 r622.2.1).bind fun r627 =>
          rec r627.1 r627.2.1 x2 (IntKind.wrap .i64 (x3 + (1 : Int)))))
        ((etcone_column F x3).bind fun r630 =>
        (etcone_Join_c1 F (IntKind.wrap .i64 ((47 : Int) - r630.1)) (1 : Int) (iand .i64 (ishr .i64 v603 (1 : Int)) (1 : Int)) x0 false).bind fun r634 =>
        (etcone_column F x3).bind fun r636 =>
        (etcone_Join_c1 F (IntKind.wrap .i64 ((63 : Int) - r636.1)) (1 : Int) (iand .i64 v603 (1 : Int)) r634.1 r634.2.1).bind fun r639 =>
        rec r639.1 r639.2.1 x2 (IntKind.wrap .i64 (x3 + (1 : Int)))))
      (none))
    (some (x0, (x1, ())))

def etcone_Join_l2 (F : Nat) : Nat → List Int → Bool → List Int → Int → Option (List Int × (Bool × Unit))
  | 0, _, _, _, _ => none
  | k + 1, x0, x1, x2, x3 => etcone_Join_l2S F (etcone_Join_l2 F k) x0 x1 x2 x3

/-- swatch/etcone.Join -/
def etcone_Join (F : Nat) (a0 : (Bool × (Bool × (List Int × (List Int × (List Int × (List Int × Unit))))))) : Option (List Int × (Int × Unit)) :=
  (etcone_Join_l0 F F a0.1 a0.2.1 a0.2.2.1 a0.2.2.2.1 a0.2.2.2.2.1 a0.2.2.2.2.2.1 etcone_JoinT4 true (0 : Int)).bind fun r507 =>
  (etcone_Join_c1 F (24 : Int) (3 : Int) (List.getD r507.2.2.2.2.1 0 (0 : Int)) r507.2.2.2.2.2.2.1 r507.2.2.2.2.2.2.2.1).bind fun r510 =>
  (etcone_Join_c1 F (27 : Int) (3 : Int) (List.getD r507.2.2.2.2.1 1 (0 : Int)) r510.1 r510.2.1).bind fun r513 =>
  (etcone_truth F r507.1).bind fun r515 =>
  (etcone_Join_c1 F (30 : Int) (1 : Int) r515.1 r513.1 r513.2.1).bind fun r516 =>
  (etcone_truth F r507.2.1).bind fun r518 =>
  (etcone_Join_c1 F (31 : Int) (1 : Int) r518.1 r516.1 r516.2.1).bind fun r519 =>
  (etcone_Join_l2 F F r519.1 r519.2.1 r507.2.2.2.2.2.1 (0 : Int)).bind fun r642 =>
  cond (!r642.2.1)
    (some ([], ((1 : Int), ())))
    (some (r642.1, ((0 : Int), ())))

def etcone_DecodeT648 : List Int := [0, 0, 0, 0, 0, 0, 0, 0, 0, 0, 0, 0, 0, 0, 0, 0, 0, 0, 0, 0, 0, 0, 0, 0, 0, 0, 0, 0, 0, 0, 0, 0, 0, 0, 0, 0, 0, 0, 0, 0, 0, 0, 0, 0, 0, 0, 0, 0, 0, 0, 0, 0, 0, 0, 0, 0, 0, 0, 0, 0, 0, 0, 0, 0]
/-- swatch/etcone.Parts$1 -/
def etcone_Parts_c1 (F : Nat) (a0 : Int) (a1 : Int) (a2 : List Int) : Option (Int × Unit) :=
  (bits_High F a2 a0 a1).bind fun r711 =>
  some ((IntKind.wrap .i64 r711.1), ())

def etcone_Parts_l0S (F : Nat) (rec : List Int → List Int → List Int → List Int → Bool → Bool → List Int → List Int → List Int → List Int → List Int → Int → Option (List Int × (List Int × (List Int × (List Int × (Bool × (Bool × (List Int × (List Int × (List Int × (List Int × (List Int × Unit)))))))))))) (x0 : List Int) (x1 : List Int) (x2 : List Int) (x3 : List Int) (x4 : Bool) (x5 : Bool) (x6 : List Int) (x7 : List Int) (x8 : List Int) (x9 : List Int) (x10 : List Int) (x11 : Int) : Option (List Int × (List Int × (List Int × (List Int × (Bool × (Bool × (List Int × (List Int × (List Int × (List Int × (List Int × Unit))))))))))) :=
  cond (decide (x11 < (3 : Int)))
    (let v758 : Int := (IntKind.wrap .i64 ((8 : Int) * x11))
    cond (!x4)
      ((etcone_Parts_c1 F v758 (4 : Int) x10).bind fun r761 =>
      let b762 : Bool := ((decide ((0 : Int) ≤ x11)) && (decide (x11 < (3 : Int))))
      cond b762
        ((etcone_Parts_c1 F (IntKind.wrap .i64 (v758 + (4 : Int))) (4 : Int) x10).bind fun r764 =>
        cond b762
          (rec x0 x1 x2 x3 x4 x5 (List.set x6 (Int.toNat x11) r761.1) (List.set x7 (Int.toNat x11) r764.1) x8 x9 x10 (IntKind.wrap .i64 (x11 + (1 : Int))))
          (none))
        (none))
      ((etcone_Parts_c1 F v758 (5 : Int) x10).bind fun r769 =>
      let b770 : Bool := ((decide ((0 : Int) ≤ x11)) && (decide (x11 < (3 : Int))))
      cond b770
        ((etcone_Parts_c1 F (IntKind.wrap .i64 (v758 + (5 : Int))) (3 : Int) x10).bind fun r772 =>
        let l773 : List Int := (List.set x6 (Int.toNat x11) r769.1)
        cond b770
          (let l774 : List Int := (List.set x7 (Int.toNat x11) r772.1)
          cond b770
            (let v775 : Int := (List.getD l774 (Int.toNat x11) (0 : Int))
            cond (decide ((4 : Int) ≤ v775))
              (cond b770
                (cond b770
                  (rec x0 x1 x2 x3 x4 x5 l773 (List.set l774 (Int.toNat x11) (IntKind.wrap .i64 (v775 + (-(8 : Int))))) x8 x9 x10 (IntKind.wrap .i64 (x11 + (1 : Int))))
                  (none))
                (none))
              (rec x0 x1 x2 x3 x4 x5 l773 l774 x8 x9 x10 (IntKind.wrap .i64 (x11 + (1 : Int)))))
            (none))
          (none))
        (none)))
    (some (x0, (x1, (x2, (x3, (x4, (x5, (x6, (x7, (x8, (x9, (x10, ()))))))))))))

def etcone_Parts_l0 (F : Nat) : Nat → List Int → List Int → List Int → List Int → Bool → Bool → List Int → List Int → List Int → List Int → List Int → Int → Option (List Int × (List Int × (List Int × (List Int × (Bool × (Bool × (List Int × (List Int × (List Int × (List Int × (List Int × Unit)))))))))))
  | 0, _, _, _, _, _, _, _, _, _, _, _, _ => none
  | k + 1, x0, x1, x2, x3, x4, x5, x6, x7, x8, x9, x10, x11 => etcone_Parts_l0S F (etcone_Parts_l0 F k) x0 x1 x2 x3 x4 x5 x6 x7 x8 x9 x10 x11

def etcone_Parts_l2S (F : Nat) (rec : List Int → List Int → List Int → List Int → Bool → Bool → List Int → List Int → List Int → List Int → List Int → Int → Option (List Int × (List Int × (List Int × (List Int × (Bool × (Bool × (List Int × (List Int × (List Int × (List Int × Unit))))))))))) (x0 : List Int) (x1 : List Int) (x2 : List Int) (x3 : List Int) (x4 : Bool) (x5 : Bool) (x6 : List Int) (x7 : List Int) (x8 : List Int) (x9 : List Int) (x10 : List Int) (x11 : Int) : Option (List Int × (List Int × (List Int × (List Int × (Bool × (Bool × (List Int × (List Int × (List Int × (List Int × Unit)))))))))) :=
  cond (decide (x11 < (16 : Int)))
    ((etcone_column F x11).bind fun r811 =>
    (etcone_Parts_c1 F (IntKind.wrap .i64 ((47 : Int) - r811.1)) (1 : Int) x10).bind fun r813 =>
    (etcone_column F x11).bind fun r815 =>
    (etcone_Parts_c1 F (IntKind.wrap .i64 ((63 : Int) - r815.1)) (1 : Int) x10).bind fun r817 =>
    cond ((decide ((0 : Int) ≤ x11)) && (decide (x11 < (16 : Int))))
      (rec x0 x1 x2 x3 x4 x5 x6 x7 x8 (List.set x9 (Int.toNat x11) (IntKind.wrap .i64 ((IntKind.wrap .i64 ((2 : Int) * r813.1)) + r817.1))) x10 (IntKind.wrap .i64 (x11 + (1 : Int))))
      (none))
    (some (x0, (x1, (x2, (x3, (x4, (x5, (x6, (x7, (x8, (x9, ())))))))))))

def etcone_Parts_l2 (F : Nat) : Nat → List Int → List Int → List Int → List Int → Bool → Bool → List Int → List Int → List Int → List Int → List Int → Int → Option (List Int × (List Int × (List Int × (List Int × (Bool × (Bool × (List Int × (List Int × (List Int × (List Int × Unit))))))))))
  | 0, _, _, _, _, _, _, _, _, _, _, _, _ => none
  | k + 1, x0, x1, x2, x3, x4, x5, x6, x7, x8, x9, x10, x11 => etcone_Parts_l2S F (etcone_Parts_l2 F k) x0 x1 x2 x3 x4 x5 x6 x7 x8 x9 x10 x11

/-- swatch/etcone.Parts -/
def etcone_Parts (F : Nat) (a0 : List Int) : Option ((Bool × (Bool × (List Int × (List Int × (List Int × (List Int × Unit)))))) × (Int × Unit)) :=
  cond ((((List.length a0) : Nat) : Int) != (8 : Int))
    (some ((false, (false, ([(0 : Int), (0 : Int), (0 : Int)], ([(0 : Int), (0 : Int), (0 : Int)], ([(0 : Int), (0 : Int)], (law10_awakeT3, ())))))), ((1 : Int), ())))
    ((etcone_Parts_c1 F (30 : Int) (1 : Int) a0).bind fun r713 =>
    (etcone_Parts_c1 F (31 : Int) (1 : Int) a0).bind fun r715 =>
    (etcone_Parts_l0 F F [(0 : Int), (0 : Int), (0 : Int)] [(0 : Int), (0 : Int), (0 : Int)] [(0 : Int), (0 : Int)] law10_awakeT3 (r713.1 == (1 : Int)) (r715.1 == (1 : Int)) [(0 : Int), (0 : Int), (0 : Int)] [(0 : Int), (0 : Int), (0 : Int)] [(0 : Int), (0 : Int)] law10_awakeT3 a0 (0 : Int)).bind fun r781 =>
    (etcone_Parts_c1 F (24 : Int) (3 : Int) r781.2.2.2.2.2.2.2.2.2.2.1).bind fun r783 =>
    (etcone_Parts_c1 F (27 : Int) (3 : Int) r781.2.2.2.2.2.2.2.2.2.2.1).bind fun r784 =>
    (etcone_Parts_l2 F F r781.1 r781.2.1 r781.2.2.1 r781.2.2.2.1 r781.2.2.2.2.1 r781.2.2.2.2.2.1 r781.2.2.2.2.2.2.1 r781.2.2.2.2.2.2.2.1 [r783.1, r784.1] r781.2.2.2.2.2.2.2.2.2.1 r781.2.2.2.2.2.2.2.2.2.2.1 (0 : Int)).bind fun r823 =>
    some ((r823.2.2.2.2.1, (r823.2.2.2.2.2.1, (r823.2.2.2.2.2.2.1, (r823.2.2.2.2.2.2.2.1, (r823.2.2.2.2.2.2.2.2.1, (r823.2.2.2.2.2.2.2.2.2.1, ())))))), ((0 : Int), ())))

def etcone_BasesT826 : List Int := [0, 0, 0, 255, 0, 0, 0, 0]
def etcone_BasesT827 : List Int := [0, 0, 0, 255, 0, 0, 0, 255]
def etcone_Bases_l0S (F : Nat) (rec : Bool → Bool → List Int → List Int → List Int → List Int → List Int → List Int → Int → Int → Option (List Int × (List Int × (Int × Unit)))) (x0 : Bool) (x1 : Bool) (x2 : List Int) (x3 : List Int) (x4 : List Int) (x5 : List Int) (x6 : List Int) (x7 : List Int) (x8 : Int) (x9 : Int) : Option (List Int × (List Int × (Int × Unit))) :=
  cond (decide (x9 < (3 : Int)))
    (let b918 : Bool := ((decide ((0 : Int) ≤ x9)) && (decide (x9 < (3 : Int))))
    cond b918
      (let v920 : Int := (List.getD x3 (Int.toNat x9) (0 : Int))
      cond x0
        (cond b918
          (let v921 : Int := (List.getD x2 (Int.toNat x9) (0 : Int))
          cond b918
            (let v922 : Int := (IntKind.wrap .i64 (v921 + v920))
            cond (x8 == (3 : Int))
              (cond (decide (v922 < (0 : Int)))
                (cond b918
                  ((level_Wide F v921 (5 : Int)).bind fun r925 =>
                  let b926 : Bool := ((decide ((0 : Int) ≤ x9)) && (decide (x9 < (4 : Int))))
                  cond b926
                    ((level_Wide F v922 (5 : Int)).bind fun r927 =>
                    cond b926
                      (rec x0 x1 x2 x3 x4 x5 x6 (List.set (List.set x7 (Int.toNat x9) r925.1) (4 + (Int.toNat x9)) r927.1) x9 (IntKind.wrap .i64 (x9 + (1 : Int))))
                      (none))
                    (none))
                  (none))
                (cond ((ishr .i64 v922 (5 : Int)) != (0 : Int))
                  (cond b918
                    ((level_Wide F v921 (5 : Int)).bind fun r933 =>
                    let b934 : Bool := ((decide ((0 : Int) ≤ x9)) && (decide (x9 < (4 : Int))))
                    cond b934
                      ((level_Wide F v922 (5 : Int)).bind fun r935 =>
                      cond b934
                        (rec x0 x1 x2 x3 x4 x5 x6 (List.set (List.set x7 (Int.toNat x9) r933.1) (4 + (Int.toNat x9)) r935.1) x9 (IntKind.wrap .i64 (x9 + (1 : Int))))
                        (none))
                      (none))
                    (none))
                  (cond b918
                    ((level_Wide F v921 (5 : Int)).bind fun r939 =>
                    let b940 : Bool := ((decide ((0 : Int) ≤ x9)) && (decide (x9 < (4 : Int))))
                    cond b940
                      ((level_Wide F v922 (5 : Int)).bind fun r941 =>
                      cond b940
                        (rec x0 x1 x2 x3 x4 x5 x6 (List.set (List.set x7 (Int.toNat x9) r939.1) (4 + (Int.toNat x9)) r941.1) x8 (IntKind.wrap .i64 (x9 + (1 : Int))))
                        (none))
                      (none))
                    (none))))
              (cond b918
                ((level_Wide F v921 (5 : Int)).bind fun r945 =>
                let b946 : Bool := ((decide ((0 : Int) ≤ x9)) && (decide (x9 < (4 : Int))))
                cond b946
                  ((level_Wide F v922 (5 : Int)).bind fun r947 =>
                  cond b946
                    (rec x0 x1 x2 x3 x4 x5 x6 (List.set (List.set x7 (Int.toNat x9) r945.1) (4 + (Int.toNat x9)) r947.1) x8 (IntKind.wrap .i64 (x9 + (1 : Int))))
                    (none))
                  (none))
                (none)))
            (none))
          (none))
        (cond b918
          ((level_Wide F (List.getD x2 (Int.toNat x9) (0 : Int)) (4 : Int)).bind fun r952 =>
          let b953 : Bool := ((decide ((0 : Int) ≤ x9)) && (decide (x9 < (4 : Int))))
          cond b953
            ((level_Wide F v920 (4 : Int)).bind fun r954 =>
            cond b953
              (rec x0 x1 x2 x3 x4 x5 x6 (List.set (List.set x7 (Int.toNat x9) r952.1) (4 + (Int.toNat x9)) r954.1) x8 (IntKind.wrap .i64 (x9 + (1 : Int))))
              (none))
            (none))
          (none)))
      (none))
    (some (x6, (x7, (x8, ()))))

def etcone_Bases_l0 (F : Nat) : Nat → Bool → Bool → List Int → List Int → List Int → List Int → List Int → List Int → Int → Int → Option (List Int × (List Int × (Int × Unit)))
  | 0, _, _, _, _, _, _, _, _, _, _ => none
  | k + 1, x0, x1, x2, x3, x4, x5, x6, x7, x8, x9 => etcone_Bases_l0S F (etcone_Bases_l0 F k) x0 x1 x2 x3 x4 x5 x6 x7 x8 x9

/-- swatch/etcone.Bases -/
def etcone_Bases (F : Nat) (a0 : (Bool × (Bool × (List Int × (List Int × (List Int × (List Int × Unit))))))) : Option (List Int × (Int × Unit)) :=
  (etcone_Bases_l0 F F a0.1 a0.2.1 a0.2.2.1 a0.2.2.2.1 a0.2.2.2.2.1 a0.2.2.2.2.2.1 etcone_JoinT4 etcone_BasesT827 (3 : Int) (0 : Int)).bind fun r958 =>
  some (r958.2.1, (r958.2.2.1, ()))

/-- swatch/etcone.Half -/
def etcone_Half (F : Nat) (a0 : Bool) (a1 : Int) : Option (Int × Unit) :=
  let v961 : Int := (iand .i64 a1 (15 : Int))
  cond a0
    (some ((IntKind.wrap .i64 (Int.tdiv v961 (8 : Int))), ()))
    (some ((IntKind.wrap .i64 (Int.tdiv (Int.tmod v961 (4 : Int)) (2 : Int))), ()))

def etcone_TableT974 : List Int := [2, 8, 5, 17, 9, 29, 13, 42, 18, 60, 24, 80, 33, 106, 47, 183]
/-- swatch/etcone.Table -/
def etcone_Table (F : Nat) (a0 : Int) : Option (List Int × Unit) :=
  let v975 : Int := (iand .i64 a0 (7 : Int))
  cond ((decide ((0 : Int) ≤ v975)) && (decide (v975 < (8 : Int))))
    (let l978 : List Int := (List.take 2 (List.drop ((Int.toNat v975) * 2) etcone_TableT974))
    let v979 : Int := (List.getD l978 0 (0 : Int))
    let v980 : Int := (List.getD l978 1 (0 : Int))
    some ([v979, v980, (IntKind.wrap .i64 ((0 : Int) - v979)), (IntKind.wrap .i64 ((0 : Int) - v980))], ()))
    (none)

def etcone_Paint_l2S (F : Nat) (rec : Bool → Bool → List Int → List Int → List Int → List Int → List Int → List Int → List Int → Int → Int → Int → List Int → Int → Int → Option (Bool × (Bool × (List Int × (List Int × (List Int × (List Int × (List Int × (List Int × (List Int × (List Int × (Int × Unit)))))))))))) (x0 : Bool) (x1 : Bool) (x2 : List Int) (x3 : List Int) (x4 : List Int) (x5 : List Int) (x6 : List Int) (x7 : List Int) (x8 : List Int) (x9 : Int) (x10 : Int) (x11 : Int) (x12 : List Int) (x13 : Int) (x14 : Int) : Option (Bool × (Bool × (List Int × (List Int × (List Int × (List Int × (List Int × (List Int × (List Int × (List Int × (Int × Unit))))))))))) :=
  cond (decide (x14 < (3 : Int)))
    (let b1095 : Bool := ((decide ((0 : Int) ≤ x9)) && (decide (x9 < (16 : Int))))
    cond b1095
      (let b1097 : Bool := ((decide ((0 : Int) ≤ x14)) && (decide (x14 < (4 : Int))))
      cond b1097
        (let n1098 : Nat := (((Int.toNat x9) * 4) + (Int.toNat x14))
        cond ((decide ((0 : Int) ≤ x11)) && (decide (x11 < (2 : Int))))
          ((etcone_Table F (List.getD x4 (Int.toNat x11) (0 : Int))).bind fun r1103 =>
          let v1104 : Int := (iand .i64 x10 (3 : Int))
          cond ((decide ((0 : Int) ≤ v1104)) && (decide (v1104 < (4 : Int))))
            ((level_Clamp F (IntKind.wrap .i64 ((List.getD x8 n1098 (0 : Int)) + (List.getD r1103.1 (Int.toNat v1104) (0 : Int)))) (255 : Int)).bind fun r1108 =>
            cond b1095
              (cond b1097
                (rec x0 x1 x2 x3 x4 x5 x6 x7 (List.set x8 n1098 r1108.1) x9 x10 x11 x12 x13 (IntKind.wrap .i64 (x14 + (1 : Int))))
                (none))
              (none))
            (none))
          (none))
        (none))
      (none))
    (some (x0, (x1, (x2, (x3, (x4, (x5, (x6, (x7, (x8, (x12, (x13, ()))))))))))))

def etcone_Paint_l2 (F : Nat) : Nat → Bool → Bool → List Int → List Int → List Int → List Int → List Int → List Int → List Int → Int → Int → Int → List Int → Int → Int → Option (Bool × (Bool × (List Int × (List Int × (List Int × (List Int × (List Int × (List Int × (List Int × (List Int × (Int × Unit)))))))))))
  | 0, _, _, _, _, _, _, _, _, _, _, _, _, _, _, _ => none
  | k + 1, x0, x1, x2, x3, x4, x5, x6, x7, x8, x9, x10, x11, x12, x13, x14 => etcone_Paint_l2S F (etcone_Paint_l2 F k) x0 x1 x2 x3 x4 x5 x6 x7 x8 x9 x10 x11 x12 x13 x14

def etcone_Paint_l0S (F : Nat) (rec : Bool → Bool → List Int → List Int → List Int → List Int → List Int → List Int → List Int → List Int → Int → Option (List Int × (List Int × Unit))) (x0 : Bool) (x1 : Bool) (x2 : List Int) (x3 : List Int) (x4 : List Int) (x5 : List Int) (x6 : List Int) (x7 : List Int) (x8 : List Int) (x9 : List Int) (x10 : Int) : Option (List Int × (List Int × Unit)) :=
  cond (decide (x10 < (16 : Int)))
    (let b1069 : Bool := ((decide ((0 : Int) ≤ x10)) && (decide (x10 < (16 : Int))))
    cond b1069
      ((etcone_Half F x1 x10).bind fun r1071 =>
      cond ((decide ((0 : Int) ≤ r1071.1)) && (decide (r1071.1 < (2 : Int))))
        (cond b1069
          (let n1075 : Nat := ((Int.toNat x10) * 4)
          (etcone_Paint_l2 F F x0 x1 x2 x3 x4 x5 x6 x7 (((List.take n1075 x8) ++ (List.take 4 (List.drop ((Int.toNat r1071.1) * 4) x7))) ++ (List.drop (n1075 + 4) x8)) x10 (List.getD x9 (Int.toNat x10) (0 : Int)) r1071.1 x9 x10 (0 : Int)).bind fun r1111 =>
          rec r1111.1 r1111.2.1 r1111.2.2.1 r1111.2.2.2.1 r1111.2.2.2.2.1 r1111.2.2.2.2.2.1 r1111.2.2.2.2.2.2.1 r1111.2.2.2.2.2.2.2.1 r1111.2.2.2.2.2.2.2.2.1 r1111.2.2.2.2.2.2.2.2.2.1 (IntKind.wrap .i64 (r1111.2.2.2.2.2.2.2.2.2.2.1 + (1 : Int))))
          (none))
        (none))
      (none))
    (some (x6, (x8, ())))

def etcone_Paint_l0 (F : Nat) : Nat → Bool → Bool → List Int → List Int → List Int → List Int → List Int → List Int → List Int → List Int → Int → Option (List Int × (List Int × Unit))
  | 0, _, _, _, _, _, _, _, _, _, _, _ => none
  | k + 1, x0, x1, x2, x3, x4, x5, x6, x7, x8, x9, x10 => etcone_Paint_l0S F (etcone_Paint_l0 F k) x0 x1 x2 x3 x4 x5 x6 x7 x8 x9 x10

/-- swatch/etcone.Paint -/
def etcone_Paint (F : Nat) (a0 : (Bool × (Bool × (List Int × (List Int × (List Int × (List Int × Unit))))))) : Option (List Int × Unit) :=
  (etcone_Bases F (a0.1, (a0.2.1, (a0.2.2.1, (a0.2.2.2.1, (a0.2.2.2.2.1, (a0.2.2.2.2.2.1, ()))))))).bind fun r959 =>
  (etcone_Paint_l0 F F a0.1 a0.2.1 a0.2.2.1 a0.2.2.2.1 a0.2.2.2.2.1 a0.2.2.2.2.2.1 etcone_DecodeT648 r959.1 etcone_DecodeT648 a0.2.2.2.2.2.1 (0 : Int)).bind fun r1113 =>
  some (r1113.2.1, ())

/-- swatch/etcone.Decode -/
def etcone_Decode (F : Nat) (a0 : List Int) : Option (List Int × (Int × Unit)) :=
  (etcone_Parts F a0).bind fun r824 =>
  cond (r824.2.1 != (0 : Int))
    (some (etcone_DecodeT648, (r824.2.1, ())))
    ((etcone_Paint F (r824.1.1, (r824.1.2.1, (r824.1.2.2.1, (r824.1.2.2.2.1, (r824.1.2.2.2.2.1, (r824.1.2.2.2.2.2.1, ()))))))).bind fun r1114 =>
    some (r1114.1, ((0 : Int), ())))

/-- swatch/swatchlaw10.awake -/
def law10_awake (F : Nat) : Option (Bool × Unit) :=
  (etcone_Join F (true, (false, ([(31 : Int), (0 : Int), (16 : Int)], ([(-(4 : Int)), (3 : Int), (0 : Int)], ([(0 : Int), (7 : Int)], (law10_awakeT2, ()))))))).bind fun r645 =>
  (etcone_Decode F r645.1).bind fun r1115 =>
  (etcone_Parts F r645.1).bind fun r1116 =>
  (etcone_Bases F (true, (false, ([(0 : Int), (31 : Int), (0 : Int)], ([(0 : Int), (1 : Int), (0 : Int)], ([(0 : Int), (0 : Int)], (law10_awakeT3, ()))))))).bind fun r1117 =>
  cond (r645.2.1 == (0 : Int))
    (cond (r1115.2.1 == (0 : Int))
      (cond (r1116.2.1 == (0 : Int))
        (cond ((true == r1116.1.1) && ((false == r1116.1.2.1) && (([(31 : Int), (0 : Int), (16 : Int)] == r1116.1.2.2.1) && (([(-(4 : Int)), (3 : Int), (0 : Int)] == r1116.1.2.2.2.1) && (([(0 : Int), (7 : Int)] == r1116.1.2.2.2.2.1) && (law10_awakeT2 == r1116.1.2.2.2.2.2.1))))))
          (cond ((List.take 4 r1115.1) == [(255 : Int), (2 : Int), (134 : Int), (255 : Int)])
            (cond ((List.take 4 (List.drop 12 r1115.1)) == [(39 : Int), (0 : Int), (0 : Int), (255 : Int)])
              (cond (r1117.2.1 == (1 : Int))
                (cond ((List.getD r1117.1 5 (0 : Int)) == (0 : Int))
                  ((etcone_Half F true (8 : Int)).bind fun r1129 =>
                  cond (r1129.1 == (1 : Int))
                    ((etcone_Table F (1 : Int)).bind fun r1131 =>
                    some (((List.getD r1131.1 3 (0 : Int)) == (-(17 : Int))), ()))
                    (some (false, ())))
                  (some (false, ())))
                (some (false, ())))
              (some (false, ())))
            (some (false, ())))
          (some (false, ())))
        (some (false, ())))
      (some (false, ())))
    (some (false, ()))

/-- swatch/swatchref02.Top -/
def ref02_Top (F : Nat) (a0 : List Int) (a1 : Int) (a2 : Int) : Option (Int × Unit) :=
  (ref02_Get F a0 a1 a2 true).bind fun r1225 =>
  some ((IntKind.wrap .i64 r1225.1), ())

def ref10_Which_l0S (F : Nat) (rec : List Int → List Int → List Int → Int → Option (List Int × (List Int × Unit))) (x0 : List Int) (x1 : List Int) (x2 : List Int) (x3 : Int) : Option (List Int × (List Int × Unit)) :=
  cond (decide (x3 < (16 : Int)))
    (let v1326 : Int := (IntKind.wrap .i64 ((IntKind.wrap .i64 ((4 : Int) * (Int.tmod x3 (4 : Int)))) + (IntKind.wrap .i64 (Int.tdiv x3 (4 : Int)))))
    (ref02_Top F x0 (IntKind.wrap .i64 ((47 : Int) - v1326)) (1 : Int)).bind fun r1328 =>
    (ref02_Top F x0 (IntKind.wrap .i64 ((63 : Int) - v1326)) (1 : Int)).bind fun r1331 =>
    cond ((decide ((0 : Int) ≤ x3)) && (decide (x3 < (16 : Int))))
      (rec x0 x1 (List.set x2 (Int.toNat x3) (IntKind.wrap .i64 ((IntKind.wrap .i64 ((2 : Int) * r1328.1)) + r1331.1))) (IntKind.wrap .i64 (x3 + (1 : Int))))
      (none))
    (some (x1, (x2, ())))

def ref10_Which_l0 (F : Nat) : Nat → List Int → List Int → List Int → Int → Option (List Int × (List Int × Unit))
  | 0, _, _, _, _ => none
  | k + 1, x0, x1, x2, x3 => ref10_Which_l0S F (ref10_Which_l0 F k) x0 x1 x2 x3

/-- swatch/swatchref10.Which -/
def ref10_Which (F : Nat) (a0 : List Int) : Option (List Int × Unit) :=
  (ref10_Which_l0 F F a0 law10_awakeT3 law10_awakeT3 (0 : Int)).bind fun r1337 =>
  some (r1337.2.1, ())

def ref10_Parts_l0S (F : Nat) (rec : List Int → List Int → List Int → List Int → List Int → Bool → Bool → List Int → List Int → List Int → List Int → Int → Option (List Int × (List Int × (List Int × (List Int × (List Int × (Bool × (Bool × (List Int × (List Int × (List Int × (List Int × Unit)))))))))))) (x0 : List Int) (x1 : List Int) (x2 : List Int) (x3 : List Int) (x4 : List Int) (x5 : Bool) (x6 : Bool) (x7 : List Int) (x8 : List Int) (x9 : List Int) (x10 : List Int) (x11 : Int) : Option (List Int × (List Int × (List Int × (List Int × (List Int × (Bool × (Bool × (List Int × (List Int × (List Int × (List Int × Unit))))))))))) :=
  cond (decide (x11 < (3 : Int)))
    (cond x5
      (let v1271 : Int := (IntKind.wrap .i64 ((8 : Int) * x11))
      (ref02_Top F x0 v1271 (5 : Int)).bind fun r1272 =>
      let b1273 : Bool := ((decide ((0 : Int) ≤ x11)) && (decide (x11 < (3 : Int))))
      cond b1273
        (let l1275 : List Int := (List.set x7 (Int.toNat x11) r1272.1)
        (ref02_Top F x0 (IntKind.wrap .i64 (v1271 + (5 : Int))) (3 : Int)).bind fun r1277 =>
        cond b1273
          (let l1278 : List Int := (List.set x8 (Int.toNat x11) r1277.1)
          cond b1273
            (let v1279 : Int := (List.getD l1278 (Int.toNat x11) (0 : Int))
            cond (decide ((3 : Int) < v1279))
              (cond b1273
                (cond b1273
                  (rec x0 x1 x2 x3 x4 x5 x6 l1275 (List.set l1278 (Int.toNat x11) (IntKind.wrap .i64 (v1279 - (8 : Int)))) x9 x10 (IntKind.wrap .i64 (x11 + (1 : Int))))
                  (none))
                (none))
              (rec x0 x1 x2 x3 x4 x5 x6 l1275 l1278 x9 x10 (IntKind.wrap .i64 (x11 + (1 : Int)))))
            (none))
          (none))
        (none))
      (let v1285 : Int := (IntKind.wrap .i64 ((8 : Int) * x11))
      (ref02_Top F x0 v1285 (4 : Int)).bind fun r1286 =>
      let b1287 : Bool := ((decide ((0 : Int) ≤ x11)) && (decide (x11 < (3 : Int))))
      cond b1287
        ((ref02_Top F x0 (IntKind.wrap .i64 (v1285 + (4 : Int))) (4 : Int)).bind fun r1291 =>
        cond b1287
          (rec x0 x1 x2 x3 x4 x5 x6 (List.set x7 (Int.toNat x11) r1286.1) (List.set x8 (Int.toNat x11) r1291.1) x9 x10 (IntKind.wrap .i64 (x11 + (1 : Int))))
          (none))
        (none)))
    (some (x0, (x1, (x2, (x3, (x4, (x5, (x6, (x7, (x8, (x9, (x10, ()))))))))))))

def ref10_Parts_l0 (F : Nat) : Nat → List Int → List Int → List Int → List Int → List Int → Bool → Bool → List Int → List Int → List Int → List Int → Int → Option (List Int × (List Int × (List Int × (List Int × (List Int × (Bool × (Bool × (List Int × (List Int × (List Int × (List Int × Unit)))))))))))
  | 0, _, _, _, _, _, _, _, _, _, _, _, _ => none
  | k + 1, x0, x1, x2, x3, x4, x5, x6, x7, x8, x9, x10, x11 => ref10_Parts_l0S F (ref10_Parts_l0 F k) x0 x1 x2 x3 x4 x5 x6 x7 x8 x9 x10 x11

/-- swatch/swatchref10.Parts -/
def ref10_Parts (F : Nat) (a0 : List Int) : Option ((Bool × (Bool × (List Int × (List Int × (List Int × (List Int × Unit)))))) × (Int × Unit)) :=
  cond ((((List.length a0) : Nat) : Int) != (8 : Int))
    (some ((false, (false, ([(0 : Int), (0 : Int), (0 : Int)], ([(0 : Int), (0 : Int), (0 : Int)], ([(0 : Int), (0 : Int)], (law10_awakeT3, ())))))), ((1 : Int), ())))
    ((ref02_Top F a0 (30 : Int) (1 : Int)).bind fun r1227 =>
    (ref02_Top F a0 (31 : Int) (1 : Int)).bind fun r1229 =>
    (ref10_Parts_l0 F F a0 [(0 : Int), (0 : Int), (0 : Int)] [(0 : Int), (0 : Int), (0 : Int)] [(0 : Int), (0 : Int)] law10_awakeT3 (r1227.1 == (1 : Int)) (r1229.1 == (1 : Int)) [(0 : Int), (0 : Int), (0 : Int)] [(0 : Int), (0 : Int), (0 : Int)] [(0 : Int), (0 : Int)] law10_awakeT3 (0 : Int)).bind fun r1294 =>
    (ref02_Top F r1294.1 (24 : Int) (3 : Int)).bind fun r1296 =>
    (ref02_Top F r1294.1 (27 : Int) (3 : Int)).bind fun r1297 =>
    (ref10_Which F r1294.1).bind fun r1338 =>
    some ((r1294.2.2.2.2.2.1, (r1294.2.2.2.2.2.2.1, (r1294.2.2.2.2.2.2.2.1, (r1294.2.2.2.2.2.2.2.2.1, ([r1296.1, r1297.1], (r1338.1, ())))))), ((0 : Int), ())))

/-- swatch/swatchref10.In -/
def ref10_In (F : Nat) (a0 : Int) (a1 : Int) (a2 : Int) : Option (Bool × Unit) :=
  cond (decide (a1 ≤ a0))
    (some ((decide (a0 ≤ a2)), ()))
    (some (false, ()))

/-- swatch/swatchref10.mod -/
def ref10_mod (F : Nat) (a0 : Int) (a1 : Int) : Option (Int × Unit) :=
  cond (!(a1 == (0 : Int)))
    (cond (decide ((Int.tmod a0 a1) < (0 : Int)))
      (some ((IntKind.wrap .i64 ((Int.tmod a0 a1) + a1)), ()))
      (some ((Int.tmod a0 a1), ())))
    (none)

def ref10_Bases_l0S (F : Nat) (rec : Bool → Bool → List Int → List Int → List Int → List Int → List Int → List Int → Int → Int → Option (List Int × (List Int × (Int × Unit)))) (x0 : Bool) (x1 : Bool) (x2 : List Int) (x3 : List Int) (x4 : List Int) (x5 : List Int) (x6 : List Int) (x7 : List Int) (x8 : Int) (x9 : Int) : Option (List Int × (List Int × (Int × Unit))) :=
  cond (decide ((0 : Int) ≤ x9))
    (cond x0
      (let b1454 : Bool := ((decide ((0 : Int) ≤ x9)) && (decide (x9 < (3 : Int))))
      cond b1454
        (let v1456 : Int := (List.getD x2 (Int.toNat x9) (0 : Int))
        cond b1454
          (let v1458 : Int := (IntKind.wrap .i64 (v1456 + (List.getD x3 (Int.toNat x9) (0 : Int))))
          (ref10_In F v1458 (0 : Int) (31 : Int)).bind fun r1459 =>
          cond (!r1459.1)
            (cond b1454
              ((ref03_Wide F v1456 (5 : Int)).bind fun r1461 =>
              let b1462 : Bool := ((decide ((0 : Int) ≤ x9)) && (decide (x9 < (4 : Int))))
              cond b1462
                ((ref10_mod F v1458 (32 : Int)).bind fun r1464 =>
                (ref03_Wide F r1464.1 (5 : Int)).bind fun r1465 =>
                cond b1462
                  (rec x0 x1 x2 x3 x4 x5 x6 (List.set (List.set x7 (Int.toNat x9) r1461.1) (4 + (Int.toNat x9)) r1465.1) x9 (IntKind.wrap .i64 (x9 - (1 : Int))))
                  (none))
                (none))
              (none))
            (cond b1454
              ((ref03_Wide F v1456 (5 : Int)).bind fun r1468 =>
              let b1469 : Bool := ((decide ((0 : Int) ≤ x9)) && (decide (x9 < (4 : Int))))
              cond b1469
                ((ref10_mod F v1458 (32 : Int)).bind fun r1471 =>
                (ref03_Wide F r1471.1 (5 : Int)).bind fun r1472 =>
                cond b1469
                  (rec x0 x1 x2 x3 x4 x5 x6 (List.set (List.set x7 (Int.toNat x9) r1468.1) (4 + (Int.toNat x9)) r1472.1) x8 (IntKind.wrap .i64 (x9 - (1 : Int))))
                  (none))
                (none))
              (none)))
          (none))
        (none))
      (let b1475 : Bool := ((decide ((0 : Int) ≤ x9)) && (decide (x9 < (3 : Int))))
      cond b1475
        ((ref03_Wide F (List.getD x2 (Int.toNat x9) (0 : Int)) (4 : Int)).bind fun r1478 =>
        let b1479 : Bool := ((decide ((0 : Int) ≤ x9)) && (decide (x9 < (4 : Int))))
        cond b1479
          (cond b1475
            ((ref03_Wide F (List.getD x3 (Int.toNat x9) (0 : Int)) (4 : Int)).bind fun r1482 =>
            cond b1479
              (rec x0 x1 x2 x3 x4 x5 x6 (List.set (List.set x7 (Int.toNat x9) r1478.1) (4 + (Int.toNat x9)) r1482.1) x8 (IntKind.wrap .i64 (x9 - (1 : Int))))
              (none))
            (none))
          (none))
        (none)))
    (some (x6, (x7, (x8, ()))))

def ref10_Bases_l0 (F : Nat) : Nat → Bool → Bool → List Int → List Int → List Int → List Int → List Int → List Int → Int → Int → Option (List Int × (List Int × (Int × Unit)))
  | 0, _, _, _, _, _, _, _, _, _, _ => none
  | k + 1, x0, x1, x2, x3, x4, x5, x6, x7, x8, x9 => ref10_Bases_l0S F (ref10_Bases_l0 F k) x0 x1 x2 x3 x4 x5 x6 x7 x8 x9

/-- swatch/swatchref10.Bases -/
def ref10_Bases (F : Nat) (a0 : (Bool × (Bool × (List Int × (List Int × (List Int × (List Int × Unit))))))) : Option (List Int × (Int × Unit)) :=
  (ref10_Bases_l0 F F a0.1 a0.2.1 a0.2.2.1 a0.2.2.2.1 a0.2.2.2.2.1 a0.2.2.2.2.2.1 etcone_JoinT4 etcone_BasesT827 (3 : Int) (2 : Int)).bind fun r1485 =>
  some (r1485.2.1, (r1485.2.2.1, ()))

/-- swatch/swatchref10.Half -/
def ref10_Half (F : Nat) (a0 : Bool) (a1 : Int) : Option (Int × Unit) :=
  (ref10_mod F a1 (16 : Int)).bind fun r1487 =>
  cond a0
    (some ((IntKind.wrap .i64 (Int.tdiv r1487.1 (8 : Int))), ()))
    (some ((IntKind.wrap .i64 (Int.tdiv (Int.tmod r1487.1 (4 : Int)) (2 : Int))), ()))

/-- swatch/swatchref10.Table -/
def ref10_Table (F : Nat) (a0 : Int) : Option (List Int × Unit) :=
  (ref10_mod F a0 (8 : Int)).bind fun r1497 =>
  cond (r1497.1 == (0 : Int))
    (some ([(2 : Int), (8 : Int), (-(2 : Int)), (-(8 : Int))], ()))
    (cond (r1497.1 == (1 : Int))
      (some ([(5 : Int), (17 : Int), (-(5 : Int)), (-(17 : Int))], ()))
      (cond (r1497.1 == (2 : Int))
        (some ([(9 : Int), (29 : Int), (-(9 : Int)), (-(29 : Int))], ()))
        (cond (r1497.1 == (3 : Int))
          (some ([(13 : Int), (42 : Int), (-(13 : Int)), (-(42 : Int))], ()))
          (cond (r1497.1 == (4 : Int))
            (some ([(18 : Int), (60 : Int), (-(18 : Int)), (-(60 : Int))], ()))
            (cond (r1497.1 == (5 : Int))
              (some ([(24 : Int), (80 : Int), (-(24 : Int)), (-(80 : Int))], ()))
              (cond (r1497.1 == (6 : Int))
                (some ([(33 : Int), (106 : Int), (-(33 : Int)), (-(106 : Int))], ()))
                (cond (r1497.1 == (7 : Int))
                  (some ([(47 : Int), (183 : Int), (-(47 : Int)), (-(183 : Int))], ()))
                  (none))))))))

/-- swatch/swatchref03.Clamp -/
def ref03_Clamp (F : Nat) (a0 : Int) (a1 : Int) : Option (Int × Unit) :=
  cond (decide (a1 < a0))
    (cond (decide (a1 < (0 : Int)))
      (some ((0 : Int), ()))
      (some (a1, ())))
    (cond (decide (a0 < (0 : Int)))
      (some ((0 : Int), ()))
      (some (a0, ())))

def ref10_Add_l0S (F : Nat) (rec : Int → List Int → List Int → Int → Option (List Int × (List Int × Unit))) (x0 : Int) (x1 : List Int) (x2 : List Int) (x3 : Int) : Option (List Int × (List Int × Unit)) :=
  cond (decide (x3 < (3 : Int)))
    (let b1526 : Bool := ((decide ((0 : Int) ≤ x3)) && (decide (x3 < (4 : Int))))
    cond b1526
      ((ref03_Clamp F (IntKind.wrap .i64 ((List.getD x1 (Int.toNat x3) (0 : Int)) + x0)) (255 : Int)).bind fun r1530 =>
      cond b1526
        (rec x0 (List.set x1 (Int.toNat x3) r1530.1) x2 (IntKind.wrap .i64 (x3 + (1 : Int))))
        (none))
      (none))
    (some (x1, (x2, ())))

def ref10_Add_l0 (F : Nat) : Nat → Int → List Int → List Int → Int → Option (List Int × (List Int × Unit))
  | 0, _, _, _, _ => none
  | k + 1, x0, x1, x2, x3 => ref10_Add_l0S F (ref10_Add_l0 F k) x0 x1 x2 x3

/-- swatch/swatchref10.Add -/
def ref10_Add (F : Nat) (a0 : List Int) (a1 : Int) : Option (List Int × Unit) :=
  (ref10_Add_l0 F F a1 a0 [(0 : Int), (0 : Int), (0 : Int), (0 : Int)] (0 : Int)).bind fun r1533 =>
  some (r1533.1, ())

def ref10_Paint_l0S (F : Nat) (rec : Bool → Bool → List Int → List Int → List Int → List Int → List Int → List Int → List Int → Int → Option (List Int × (List Int × Unit))) (x0 : Bool) (x1 : Bool) (x2 : List Int) (x3 : List Int) (x4 : List Int) (x5 : List Int) (x6 : List Int) (x7 : List Int) (x8 : List Int) (x9 : Int) : Option (List Int × (List Int × Unit)) :=
  cond (decide (x9 < (16 : Int)))
    ((ref10_Half F x1 x9).bind fun r1554 =>
    let b1555 : Bool := ((decide ((0 : Int) ≤ r1554.1)) && (decide (r1554.1 < (2 : Int))))
    cond b1555
      (cond b1555
        ((ref10_Table F (List.getD x4 (Int.toNat r1554.1) (0 : Int))).bind fun r1560 =>
        let b1561 : Bool := ((decide ((0 : Int) ≤ x9)) && (decide (x9 < (16 : Int))))
        cond b1561
          (let v1563 : Int := (List.getD x5 (Int.toNat x9) (0 : Int))
          cond ((decide ((0 : Int) ≤ v1563)) && (decide (v1563 < (4 : Int))))
            ((ref10_Add F (List.take 4 (List.drop ((Int.toNat r1554.1) * 4) x7)) (List.getD r1560.1 (Int.toNat v1563) (0 : Int))).bind fun r1566 =>
            cond b1561
              (let n1567 : Nat := ((Int.toNat x9) * 4)
              rec x0 x1 x2 x3 x4 x5 x6 x7 (((List.take n1567 x8) ++ r1566.1) ++ (List.drop (n1567 + 4) x8)) (IntKind.wrap .i64 (x9 + (1 : Int))))
              (none))
            (none))
          (none))
        (none))
      (none))
    (some (x6, (x8, ())))

def ref10_Paint_l0 (F : Nat) : Nat → Bool → Bool → List Int → List Int → List Int → List Int → List Int → List Int → List Int → Int → Option (List Int × (List Int × Unit))
  | 0, _, _, _, _, _, _, _, _, _, _ => none
  | k + 1, x0, x1, x2, x3, x4, x5, x6, x7, x8, x9 => ref10_Paint_l0S F (ref10_Paint_l0 F k) x0 x1 x2 x3 x4 x5 x6 x7 x8 x9

/-- swatch/swatchref10.Paint -/
def ref10_Paint (F : Nat) (a0 : (Bool × (Bool × (List Int × (List Int × (List Int × (List Int × Unit))))))) : Option (List Int × Unit) :=
  (ref10_Bases F (a0.1, (a0.2.1, (a0.2.2.1, (a0.2.2.2.1, (a0.2.2.2.2.1, (a0.2.2.2.2.2.1, ()))))))).bind fun r1486 =>
  (ref10_Paint_l0 F F a0.1 a0.2.1 a0.2.2.1 a0.2.2.2.1 a0.2.2.2.2.1 a0.2.2.2.2.2.1 etcone_DecodeT648 r1486.1 etcone_DecodeT648 (0 : Int)).bind fun r1570 =>
  some (r1570.2.1, ())

/-- swatch/swatchref10.Decode -/
def ref10_Decode (F : Nat) (a0 : List Int) : Option (List Int × (Int × Unit)) :=
  (ref10_Parts F a0).bind fun r1342 =>
  cond (r1342.2.1 != (0 : Int))
    (some (etcone_DecodeT648, (r1342.2.1, ())))
    ((ref10_Paint F (r1342.1.1, (r1342.1.2.1, (r1342.1.2.2.1, (r1342.1.2.2.2.1, (r1342.1.2.2.2.2.1, (r1342.1.2.2.2.2.2.1, ()))))))).bind fun r1571 =>
    some (r1571.1, ((0 : Int), ())))

/-- swatch/swatchlaw10.to -/
def law10_to (F : Nat) (a0 : (Bool × (Bool × (List Int × (List Int × (List Int × (List Int × Unit))))))) : Option ((Bool × (Bool × (List Int × (List Int × (List Int × (List Int × Unit)))))) × Unit) :=
  some ((a0.1, (a0.2.1, (a0.2.2.1, (a0.2.2.2.1, (a0.2.2.2.2.1, (a0.2.2.2.2.2.1, ())))))), ())

/-- swatch/swatchlaw10.EtconeTells -/
def law10_EtconeTells (F : Nat) (a0 : List Int) (a1 : Int) (a2 : Bool) : Option (Bool × Unit) :=
  (law10_awake F).bind fun r1134 =>
  let v1135 : Int := (((List.length a0) : Nat) : Int)
  cond (decide ((40 : Int) < v1135))
    (some (r1134.1, ()))
    ((etcone_Parts F a0).bind fun r1137 =>
    (ref10_Parts F a0).bind fun r1339 =>
    (etcone_Decode F a0).bind fun r1340 =>
    (ref10_Decode F a0).bind fun r1572 =>
    cond r1134.1
      ((law10_to F (r1137.1.1, (r1137.1.2.1, (r1137.1.2.2.1, (r1137.1.2.2.2.1, (r1137.1.2.2.2.2.1, (r1137.1.2.2.2.2.2.1, ()))))))).bind fun r1573 =>
      cond ((r1573.1.1 == r1339.1.1) && ((r1573.1.2.1 == r1339.1.2.1) && ((r1573.1.2.2.1 == r1339.1.2.2.1) && ((r1573.1.2.2.2.1 == r1339.1.2.2.2.1) && ((r1573.1.2.2.2.2.1 == r1339.1.2.2.2.2.1) && (r1573.1.2.2.2.2.2.1 == r1339.1.2.2.2.2.2.1))))))
        (cond (r1137.2.1 == r1339.2.1)
          (cond (r1340.1 == r1572.1)
            (cond (r1340.2.1 == r1572.2.1)
              ((etcone_Table F a1).bind fun r1578 =>
              (ref10_Table F a1).bind fun r1579 =>
              cond (r1578.1 == r1579.1)
                ((etcone_Half F a2 a1).bind fun r1581 =>
                (ref10_Half F a2 a1).bind fun r1582 =>
                some ((r1581.1 == r1582.1), ()))
                (some (false, ())))
              (some (false, ())))
            (some (false, ())))
          (some (false, ())))
        (some (false, ())))
      (some (false, ())))

def ref10_May_l0S (F : Nat) (rec : Bool → Bool → List Int → List Int → List Int → List Int → Int → Option (Unit ⊕ (Bool × (Bool × (List Int × (List Int × (List Int × (List Int × Unit)))))))) (x0 : Bool) (x1 : Bool) (x2 : List Int) (x3 : List Int) (x4 : List Int) (x5 : List Int) (x6 : Int) : Option (Unit ⊕ (Bool × (Bool × (List Int × (List Int × (List Int × (List Int × Unit))))))) :=
  cond (decide (x6 < (3 : Int)))
    (cond x0
      (let b1634 : Bool := ((decide ((0 : Int) ≤ x6)) && (decide (x6 < (3 : Int))))
      cond b1634
        (let v1636 : Int := (List.getD x2 (Int.toNat x6) (0 : Int))
        (ref10_In F v1636 (0 : Int) (31 : Int)).bind fun r1637 =>
        cond (!r1637.1)
          (some (.inl ()))
          (cond b1634
            (let v1639 : Int := (List.getD x3 (Int.toNat x6) (0 : Int))
            (ref10_In F v1639 (-(4 : Int)) (3 : Int)).bind fun r1640 =>
            cond (!r1640.1)
              (some (.inl ()))
              (cond (!x0)
                (cond b1634
                  ((ref10_In F v1636 (0 : Int) (15 : Int)).bind fun r1643 =>
                  cond (!r1643.1)
                    (some (.inl ()))
                    (cond b1634
                      ((ref10_In F v1639 (0 : Int) (15 : Int)).bind fun r1645 =>
                      cond (!r1645.1)
                        (some (.inl ()))
                        (rec x0 x1 x2 x3 x4 x5 (IntKind.wrap .i64 (x6 + (1 : Int)))))
                      (none)))
                  (none))
                (rec x0 x1 x2 x3 x4 x5 (IntKind.wrap .i64 (x6 + (1 : Int))))))
            (none)))
        (none))
      (cond (!x0)
        (let b1650 : Bool := ((decide ((0 : Int) ≤ x6)) && (decide (x6 < (3 : Int))))
        cond b1650
          ((ref10_In F (List.getD x2 (Int.toNat x6) (0 : Int)) (0 : Int) (15 : Int)).bind fun r1653 =>
          cond (!r1653.1)
            (some (.inl ()))
            (cond b1650
              ((ref10_In F (List.getD x3 (Int.toNat x6) (0 : Int)) (0 : Int) (15 : Int)).bind fun r1656 =>
              cond (!r1656.1)
                (some (.inl ()))
                (rec x0 x1 x2 x3 x4 x5 (IntKind.wrap .i64 (x6 + (1 : Int)))))
              (none)))
          (none))
        (rec x0 x1 x2 x3 x4 x5 (IntKind.wrap .i64 (x6 + (1 : Int))))))
    (some (.inr (x0, (x1, (x2, (x3, (x4, (x5, ()))))))))

def ref10_May_l0 (F : Nat) : Nat → Bool → Bool → List Int → List Int → List Int → List Int → Int → Option (Unit ⊕ (Bool × (Bool × (List Int × (List Int × (List Int × (List Int × Unit)))))))
  | 0, _, _, _, _, _, _, _ => none
  | k + 1, x0, x1, x2, x3, x4, x5, x6 => ref10_May_l0S F (ref10_May_l0 F k) x0 x1 x2 x3 x4 x5 x6

def ref10_May_l2S (F : Nat) (rec : Bool → Bool → List Int → List Int → List Int → List Int → Int → Option (Unit ⊕ (Bool × (Bool × (List Int × (List Int × (List Int × (List Int × Unit)))))))) (x0 : Bool) (x1 : Bool) (x2 : List Int) (x3 : List Int) (x4 : List Int) (x5 : List Int) (x6 : Int) : Option (Unit ⊕ (Bool × (Bool × (List Int × (List Int × (List Int × (List Int × Unit))))))) :=
  cond (decide (x6 < (16 : Int)))
    (cond ((decide ((0 : Int) ≤ x6)) && (decide (x6 < (16 : Int))))
      ((ref10_In F (List.getD x5 (Int.toNat x6) (0 : Int)) (0 : Int) (3 : Int)).bind fun r1675 =>
      cond (!r1675.1)
        (some (.inl ()))
        (rec x0 x1 x2 x3 x4 x5 (IntKind.wrap .i64 (x6 + (1 : Int)))))
      (none))
    (some (.inr (x0, (x1, (x2, (x3, (x4, (x5, ()))))))))

def ref10_May_l2 (F : Nat) : Nat → Bool → Bool → List Int → List Int → List Int → List Int → Int → Option (Unit ⊕ (Bool × (Bool × (List Int × (List Int × (List Int × (List Int × Unit)))))))
  | 0, _, _, _, _, _, _, _ => none
  | k + 1, x0, x1, x2, x3, x4, x5, x6 => ref10_May_l2S F (ref10_May_l2 F k) x0 x1 x2 x3 x4 x5 x6

/-- swatch/swatchref10.May -/
def ref10_May (F : Nat) (a0 : (Bool × (Bool × (List Int × (List Int × (List Int × (List Int × Unit))))))) : Option (Bool × Unit) :=
  (ref10_May_l0 F F a0.1 a0.2.1 a0.2.2.1 a0.2.2.2.1 a0.2.2.2.2.1 a0.2.2.2.2.2.1 (0 : Int)).bind fun r1660 => match r1660 with
    | .inl r1660 => (some (false, ()))
    | .inr r1660 => ((ref10_May_l2 F F r1660.1 r1660.2.1 r1660.2.2.1 r1660.2.2.2.1 r1660.2.2.2.2.1 r1660.2.2.2.2.2.1 (0 : Int)).bind fun r1678 => match r1678 with
        | .inl r1678 => (some (false, ()))
        | .inr r1678 => ((ref10_In F (List.getD r1678.2.2.2.2.1 0 (0 : Int)) (0 : Int) (7 : Int)).bind fun r1680 =>
          cond r1680.1
            ((ref10_In F (List.getD r1678.2.2.2.2.1 1 (0 : Int)) (0 : Int) (7 : Int)).bind fun r1682 =>
            some (r1682.1, ()))
            (some (false, ()))))

/-- swatch/swatchref10.set -/
def ref10_set (F : Nat) (a0 : List Int) (a1 : Int) (a2 : Int) (a3 : Int) : Option (List Int × Unit) :=
  (ref02_Set F a0 a1 a2 true (IntKind.wrap .u64 a3)).bind fun r2317 =>
  some (r2317.1, ())

/-- swatch/swatchref10.bit -/
def ref10_bit (F : Nat) (a0 : Bool) : Option (Int × Unit) :=
  cond a0
    (some ((1 : Int), ()))
    (some ((0 : Int), ()))

def ref10_Lay_l0S (F : Nat) (rec : List Int → List Int → Int → Option (List Int × Unit)) (x0 : List Int) (x1 : List Int) (x2 : Int) : Option (List Int × Unit) :=
  cond (decide (x2 < (16 : Int)))
    (let v2474 : Int := (IntKind.wrap .i64 ((IntKind.wrap .i64 ((4 : Int) * (Int.tmod x2 (4 : Int)))) + (IntKind.wrap .i64 (Int.tdiv x2 (4 : Int)))))
    let b2476 : Bool := ((decide ((0 : Int) ≤ x2)) && (decide (x2 < (16 : Int))))
    cond b2476
      (let v2478 : Int := (List.getD x1 (Int.toNat x2) (0 : Int))
      (ref10_set F x0 (IntKind.wrap .i64 ((47 : Int) - v2474)) (1 : Int) (IntKind.wrap .i64 (Int.tdiv v2478 (2 : Int)))).bind fun r2480 =>
      cond b2476
        ((ref10_set F r2480.1 (IntKind.wrap .i64 ((63 : Int) - v2474)) (1 : Int) (Int.tmod v2478 (2 : Int))).bind fun r2484 =>
        rec r2484.1 x1 (IntKind.wrap .i64 (x2 + (1 : Int))))
        (none))
      (none))
    (some (x0, ()))

def ref10_Lay_l0 (F : Nat) : Nat → List Int → List Int → Int → Option (List Int × Unit)
  | 0, _, _, _ => none
  | k + 1, x0, x1, x2 => ref10_Lay_l0S F (ref10_Lay_l0 F k) x0 x1 x2

/-- swatch/swatchref10.Lay -/
def ref10_Lay (F : Nat) (a0 : List Int) (a1 : List Int) : Option (List Int × Unit) :=
  (ref10_Lay_l0 F F a0 a1 (0 : Int)).bind fun r2487 =>
  some (r2487.1, ())

def ref10_Join_l0S (F : Nat) (rec : Bool → Bool → List Int → List Int → List Int → List Int → List Int → Int → Option (Bool × (Bool × (List Int × (List Int × (List Int × (List Int × (List Int × Unit)))))))) (x0 : Bool) (x1 : Bool) (x2 : List Int) (x3 : List Int) (x4 : List Int) (x5 : List Int) (x6 : List Int) (x7 : Int) : Option (Bool × (Bool × (List Int × (List Int × (List Int × (List Int × (List Int × Unit))))))) :=
  cond (decide (x7 < (3 : Int)))
    (cond x0
      (let v2534 : Int := (IntKind.wrap .i64 ((8 : Int) * x7))
      let b2535 : Bool := ((decide ((0 : Int) ≤ x7)) && (decide (x7 < (3 : Int))))
      cond b2535
        ((ref10_set F x6 v2534 (5 : Int) (List.getD x2 (Int.toNat x7) (0 : Int))).bind fun r2538 =>
        cond b2535
          ((ref10_mod F (List.getD x3 (Int.toNat x7) (0 : Int)) (8 : Int)).bind fun r2542 =>
          (ref10_set F r2538.1 (IntKind.wrap .i64 (v2534 + (5 : Int))) (3 : Int) r2542.1).bind fun r2543 =>
          rec x0 x1 x2 x3 x4 x5 r2543.1 (IntKind.wrap .i64 (x7 + (1 : Int))))
          (none))
        (none))
      (let v2546 : Int := (IntKind.wrap .i64 ((8 : Int) * x7))
      let b2547 : Bool := ((decide ((0 : Int) ≤ x7)) && (decide (x7 < (3 : Int))))
      cond b2547
        ((ref10_set F x6 v2546 (4 : Int) (List.getD x2 (Int.toNat x7) (0 : Int))).bind fun r2550 =>
        cond b2547
          ((ref10_set F r2550.1 (IntKind.wrap .i64 (v2546 + (4 : Int))) (4 : Int) (List.getD x3 (Int.toNat x7) (0 : Int))).bind fun r2554 =>
          rec x0 x1 x2 x3 x4 x5 r2554.1 (IntKind.wrap .i64 (x7 + (1 : Int))))
          (none))
        (none)))
    (some (x0, (x1, (x2, (x3, (x4, (x5, (x6, ()))))))))

def ref10_Join_l0 (F : Nat) : Nat → Bool → Bool → List Int → List Int → List Int → List Int → List Int → Int → Option (Bool × (Bool × (List Int × (List Int × (List Int × (List Int × (List Int × Unit)))))))
  | 0, _, _, _, _, _, _, _, _ => none
  | k + 1, x0, x1, x2, x3, x4, x5, x6, x7 => ref10_Join_l0S F (ref10_Join_l0 F k) x0 x1 x2 x3 x4 x5 x6 x7

/-- swatch/swatchref10.Join -/
def ref10_Join (F : Nat) (a0 : (Bool × (Bool × (List Int × (List Int × (List Int × (List Int × Unit))))))) : Option (List Int × (Int × Unit)) :=
  (ref10_May F (a0.1, (a0.2.1, (a0.2.2.1, (a0.2.2.2.1, (a0.2.2.2.2.1, (a0.2.2.2.2.2.1, ()))))))).bind fun r2491 =>
  cond (!r2491.1)
    (some ([], ((1 : Int), ())))
    ((ref10_Join_l0 F F a0.1 a0.2.1 a0.2.2.1 a0.2.2.2.1 a0.2.2.2.2.1 a0.2.2.2.2.2.1 etcone_JoinT4 (0 : Int)).bind fun r2557 =>
    (ref10_set F r2557.2.2.2.2.2.2.1 (24 : Int) (3 : Int) (List.getD r2557.2.2.2.2.1 0 (0 : Int))).bind fun r2560 =>
    (ref10_set F r2560.1 (27 : Int) (3 : Int) (List.getD r2557.2.2.2.2.1 1 (0 : Int))).bind fun r2563 =>
    (ref10_bit F r2557.1).bind fun r2565 =>
    (ref10_set F r2563.1 (30 : Int) (1 : Int) r2565.1).bind fun r2566 =>
    (ref10_bit F r2557.2.1).bind fun r2568 =>
    (ref10_set F r2566.1 (31 : Int) (1 : Int) r2568.1).bind fun r2569 =>
    (ref10_Lay F r2569.1 r2557.2.2.2.2.2.1).bind fun r2571 =>
    some (r2571.1, ((0 : Int), ())))

/-- swatch/swatchlaw10.EtconeJoins -/
def law10_EtconeJoins (F : Nat) (a0 : (Bool × (Bool × (List Int × (List Int × (List Int × (List Int × Unit))))))) : Option (Bool × Unit) :=
  (law10_awake F).bind fun r1584 =>
  (law10_to F (a0.1, (a0.2.1, (a0.2.2.1, (a0.2.2.2.1, (a0.2.2.2.2.1, (a0.2.2.2.2.2.1, ()))))))).bind fun r1585 =>
  (etcone_Join F (a0.1, (a0.2.1, (a0.2.2.1, (a0.2.2.2.1, (a0.2.2.2.2.1, (a0.2.2.2.2.2.1, ()))))))).bind fun r1586 =>
  (ref10_Join F (r1585.1.1, (r1585.1.2.1, (r1585.1.2.2.1, (r1585.1.2.2.2.1, (r1585.1.2.2.2.2.1, (r1585.1.2.2.2.2.2.1, ()))))))).bind fun r2573 =>
  (ref01_Same F r1586.1 r2573.1).bind fun r2612 =>
  cond (!r2612.1)
    (some (false, ()))
    (cond (r1586.2.1 != r2573.2.1)
      (some (false, ()))
      (cond (r2573.2.1 != (0 : Int))
        (some (r1584.1, ()))
        ((etcone_Bases F (a0.1, (a0.2.1, (a0.2.2.1, (a0.2.2.2.1, (a0.2.2.2.2.1, (a0.2.2.2.2.2.1, ()))))))).bind fun r2616 =>
        (ref10_Bases F (r1585.1.1, (r1585.1.2.1, (r1585.1.2.2.1, (r1585.1.2.2.2.1, (r1585.1.2.2.2.2.1, (r1585.1.2.2.2.2.2.1, ()))))))).bind fun r2617 =>
        cond r1584.1
          (cond (r2616.1 == r2617.1)
            (cond (r2616.2.1 == r2617.2.1)
              ((etcone_Paint F (a0.1, (a0.2.1, (a0.2.2.1, (a0.2.2.2.1, (a0.2.2.2.2.1, (a0.2.2.2.2.2.1, ()))))))).bind fun r2620 =>
              (ref10_Paint F (r1585.1.1, (r1585.1.2.1, (r1585.1.2.2.1, (r1585.1.2.2.2.1, (r1585.1.2.2.2.2.1, (r1585.1.2.2.2.2.2.1, ()))))))).bind fun r2621 =>
              some ((r2620.1 == r2621.1), ()))
              (some (false, ())))
            (some (false, ())))
          (some (false, ())))))

/-- swatch/swatchlaw10.EtconeBack -/
def law10_EtconeBack (F : Nat) (a0 : List Int) (a1 : (Bool × (Bool × (List Int × (List Int × (List Int × (List Int × Unit))))))) : Option (Bool × Unit) :=
  (law10_awake F).bind fun r2625 =>
  (etcone_Join F (a1.1, (a1.2.1, (a1.2.2.1, (a1.2.2.2.1, (a1.2.2.2.2.1, (a1.2.2.2.2.2.1, ()))))))).bind fun r2626 =>
  cond (r2626.2.1 == (0 : Int))
    ((etcone_Parts F r2626.1).bind fun r2629 =>
    (etcone_Decode F r2626.1).bind fun r2630 =>
    cond (r2629.2.1 != (0 : Int))
      (some (false, ()))
      (cond (r2630.2.1 != (0 : Int))
        (some (false, ()))
        (cond (!((r2629.1.1 == a1.1) && ((r2629.1.2.1 == a1.2.1) && ((r2629.1.2.2.1 == a1.2.2.1) && ((r2629.1.2.2.2.1 == a1.2.2.2.1) && ((r2629.1.2.2.2.2.1 == a1.2.2.2.2.1) && (r2629.1.2.2.2.2.2.1 == a1.2.2.2.2.2.1)))))))
          (some (false, ()))
          ((etcone_Paint F (a1.1, (a1.2.1, (a1.2.2.1, (a1.2.2.2.1, (a1.2.2.2.2.1, (a1.2.2.2.2.2.1, ()))))))).bind fun r2634 =>
          cond (!(r2630.1 == r2634.1))
            (some (false, ()))
            (cond ((((List.length a0) : Nat) : Int) != (8 : Int))
              (some (r2625.1, ()))
              ((etcone_Parts F a0).bind fun r2638 =>
              (etcone_Join F (r2638.1.1, (r2638.1.2.1, (r2638.1.2.2.1, (r2638.1.2.2.2.1, (r2638.1.2.2.2.2.1, (r2638.1.2.2.2.2.2.1, ()))))))).bind fun r2639 =>
              (ref01_Same F a0 r2639.1).bind fun r2641 =>
              cond r2625.1
                (cond (r2638.2.1 == (0 : Int))
                  (cond (r2639.2.1 == (0 : Int))
                    (some (r2641.1, ()))
                    (some (false, ())))
                  (some (false, ())))
                (some (false, ()))))))))
    (cond ((((List.length a0) : Nat) : Int) != (8 : Int))
      (some (r2625.1, ()))
      ((etcone_Parts F a0).bind fun r2646 =>
      (etcone_Join F (r2646.1.1, (r2646.1.2.1, (r2646.1.2.2.1, (r2646.1.2.2.2.1, (r2646.1.2.2.2.2.1, (r2646.1.2.2.2.2.2.1, ()))))))).bind fun r2647 =>
      (ref01_Same F a0 r2647.1).bind fun r2649 =>
      cond r2625.1
        (cond (r2646.2.1 == (0 : Int))
          (cond (r2647.2.1 == (0 : Int))
            (some (r2649.1, ()))
            (some (false, ())))
          (some (false, ())))
        (some (false, ()))))

def law10_EtconeTurns_l0S (F : Nat) (rec : Bool → Bool → List Int → List Int → List Int → List Int → Bool → Bool → Bool → List Int → List Int → List Int → List Int → Int → Option (Bool × (Bool × (List Int × (List Int × (List Int × (List Int × (Bool × (Bool × (Bool × (List Int × (List Int × (List Int × (List Int × Unit)))))))))))))) (x0 : Bool) (x1 : Bool) (x2 : List Int) (x3 : List Int) (x4 : List Int) (x5 : List Int) (x6 : Bool) (x7 : Bool) (x8 : Bool) (x9 : List Int) (x10 : List Int) (x11 : List Int) (x12 : List Int) (x13 : Int) : Option (Bool × (Bool × (List Int × (List Int × (List Int × (List Int × (Bool × (Bool × (Bool × (List Int × (List Int × (List Int × (List Int × Unit))))))))))))) :=
  cond (decide (x13 < (16 : Int)))
    (let v2675 : Int := (IntKind.wrap .i64 ((IntKind.wrap .i64 ((Int.tmod x13 (4 : Int)) * (4 : Int))) + (IntKind.wrap .i64 (Int.tdiv x13 (4 : Int)))))
    cond ((decide ((0 : Int) ≤ v2675)) && (decide (v2675 < (16 : Int))))
      (cond ((decide ((0 : Int) ≤ x13)) && (decide (x13 < (16 : Int))))
        (rec x0 x1 x2 x3 x4 x5 x6 x7 x8 x9 x10 x11 (List.set x12 (Int.toNat x13) (List.getD x5 (Int.toNat v2675) (0 : Int))) (IntKind.wrap .i64 (x13 + (1 : Int))))
        (none))
      (none))
    (some (x0, (x1, (x2, (x3, (x4, (x5, (x6, (x7, (x8, (x9, (x10, (x11, (x12, ()))))))))))))))

def law10_EtconeTurns_l0 (F : Nat) : Nat → Bool → Bool → List Int → List Int → List Int → List Int → Bool → Bool → Bool → List Int → List Int → List Int → List Int → Int → Option (Bool × (Bool × (List Int × (List Int × (List Int × (List Int × (Bool × (Bool × (Bool × (List Int × (List Int × (List Int × (List Int × Unit)))))))))))))
  | 0, _, _, _, _, _, _, _, _, _, _, _, _, _, _ => none
  | k + 1, x0, x1, x2, x3, x4, x5, x6, x7, x8, x9, x10, x11, x12, x13 => law10_EtconeTurns_l0S F (law10_EtconeTurns_l0 F k) x0 x1 x2 x3 x4 x5 x6 x7 x8 x9 x10 x11 x12 x13

def law10_EtconeTurns_l2S (F : Nat) (rec : Bool → List Int → List Int → Int → Option (Unit ⊕ (Bool × Unit))) (x0 : Bool) (x1 : List Int) (x2 : List Int) (x3 : Int) : Option (Unit ⊕ (Bool × Unit)) :=
  cond (decide (x3 < (16 : Int)))
    (cond ((decide ((0 : Int) ≤ x3)) && (decide (x3 < (16 : Int))))
      (let v2709 : Int := (IntKind.wrap .i64 ((IntKind.wrap .i64 ((Int.tmod x3 (4 : Int)) * (4 : Int))) + (IntKind.wrap .i64 (Int.tdiv x3 (4 : Int)))))
      cond ((decide ((0 : Int) ≤ v2709)) && (decide (v2709 < (16 : Int))))
        (cond (!((List.take 4 (List.drop ((Int.toNat x3) * 4) x1)) == (List.take 4 (List.drop ((Int.toNat v2709) * 4) x2))))
          (some (.inl ()))
          (rec x0 x1 x2 (IntKind.wrap .i64 (x3 + (1 : Int)))))
        (none))
      (none))
    (some (.inr (x0, ())))

def law10_EtconeTurns_l2 (F : Nat) : Nat → Bool → List Int → List Int → Int → Option (Unit ⊕ (Bool × Unit))
  | 0, _, _, _, _ => none
  | k + 1, x0, x1, x2, x3 => law10_EtconeTurns_l2S F (law10_EtconeTurns_l2 F k) x0 x1 x2 x3

/-- swatch/swatchlaw10.EtconeTurns -/
def law10_EtconeTurns (F : Nat) (a0 : (Bool × (Bool × (List Int × (List Int × (List Int × (List Int × Unit))))))) : Option (Bool × Unit) :=
  (law10_awake F).bind fun r2652 =>
  (etcone_Join F (a0.1, (a0.2.1, (a0.2.2.1, (a0.2.2.2.1, (a0.2.2.2.2.1, (a0.2.2.2.2.2.1, ()))))))).bind fun r2653 =>
  cond (r2653.2.1 != (0 : Int))
    (some (r2652.1, ()))
    ((law10_EtconeTurns_l0 F F a0.1 a0.2.1 a0.2.2.1 a0.2.2.2.1 a0.2.2.2.2.1 a0.2.2.2.2.2.1 r2652.1 a0.1 (!a0.2.1) a0.2.2.1 a0.2.2.2.1 a0.2.2.2.2.1 a0.2.2.2.2.2.1 (0 : Int)).bind fun r2683 =>
    (etcone_Paint F (r2683.1, (r2683.2.1, (r2683.2.2.1, (r2683.2.2.2.1, (r2683.2.2.2.2.1, (r2683.2.2.2.2.2.1, ()))))))).bind fun r2684 =>
    (etcone_Paint F (r2683.2.2.2.2.2.2.2.1, (r2683.2.2.2.2.2.2.2.2.1, (r2683.2.2.2.2.2.2.2.2.2.1, (r2683.2.2.2.2.2.2.2.2.2.2.1, (r2683.2.2.2.2.2.2.2.2.2.2.2.1, (r2683.2.2.2.2.2.2.2.2.2.2.2.2.1, ()))))))).bind fun r2685 =>
    (law10_EtconeTurns_l2 F F r2683.2.2.2.2.2.2.1 r2684.1 r2685.1 (0 : Int)).bind fun r2715 => match r2715 with
      | .inl r2715 => (some (false, ()))
      | .inr r2715 => (some (r2715.1, ())))

end Go.AE.Gn

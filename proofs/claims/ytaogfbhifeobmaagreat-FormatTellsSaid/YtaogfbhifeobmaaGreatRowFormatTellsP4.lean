/- A part of the proof, put together of my texts: B10defs, C09defs, C11defs, A12defs, E13defs, E13zdefs, E13zcerts, PureLib, Pure02, PureBits, Pure03, PureTab, Pure09, Pure09b, Pure09c, Pure10, Pure10b, Pure11, Pure11c, Pure11d, Pure12, Pure13a, Pure13c, Pure13z. -/
import Derived.Test.YtaogfbhifeobmaaGreatRows
import Derived.KernelRfl
import Derived.Test.YtaogfbhifeobmaaGreatRowFormatTellsP3
set_option linter.unusedSimpArgs false
set_option linter.unusedVariables false
namespace Go.AE.Gn
open Go Go.AE
def law10_awakeT3 : List Int := [0, 0, 0, 0, 0, 0, 0, 0, 0, 0, 0, 0, 0, 0, 0, 0]
def etcone_JoinT4 : List Int := [0, 0, 0, 0, 0, 0, 0, 0]
def etcone_column (F : Nat) (a0 : Int) : Option (Int × Unit) :=
  some ((IntKind.wrap .i64 ((IntKind.wrap .i64 ((4 : Int) * (Int.tmod a0 (4 : Int)))) + (IntKind.wrap .i64 (Int.tdiv a0 (4 : Int))))), ())
def etcone_DecodeT648 : List Int := [0, 0, 0, 0, 0, 0, 0, 0, 0, 0, 0, 0, 0, 0, 0, 0, 0, 0, 0, 0, 0, 0, 0, 0, 0, 0, 0, 0, 0, 0, 0, 0, 0, 0, 0, 0, 0, 0, 0, 0, 0, 0, 0, 0, 0, 0, 0, 0, 0, 0, 0, 0, 0, 0, 0, 0, 0, 0, 0, 0, 0, 0, 0, 0]
def etcone_Parts_c1 (F : Nat) (a0 : Int) (a1 : Int) (a2 : List Int) : Option (Int × Unit) :=
  (bits_High F a2 a0 a1).bind fun r711 =>
  some ((IntKind.wrap .i64 r711.1), ())
def etcone_Parts_l0S (F : Nat) (rec : List Int → List Int → List Int → List Int → Bool → Bool → List Int → List Int → List Int → List Int → List Int → Int → Option (List Int × (List Int × (List Int × (List Int × (Bool × (Bool × (List Int × (List Int × (List Int × (List Int × (List Int × Unit)))))))))))) (x0 : List Int) (x1 : List Int) (x2 : List Int) (x3 : List Int) (x4 : Bool) (x5 : Bool) (x6 : List Int) (x7 : List Int) (x8 : List Int) (x9 : List Int) (x10 : List Int) (x11 : Int) : Option (List Int × (List Int × (List Int × (List Int × (Bool × (Bool × (List Int × (List Int × (List Int × (List Int × (List Int × Unit))))))))))) :=
  cond (decide (x11 < (3 : Int)))
    (let v758 : Int := (IntKind.wrap .i64 ((8 : Int) * x11))
    cond (!x4)
      ((etcone_Parts_c1 F v758 (4 : Int) x10).bind fun r761 =>
      let b762 : Bool := ((decide ((0 : Int) ≤ x11)) && (decide (x11 < (3 : Int))))
      cond b762
        ((etcone_Parts_c1 F (IntKind.wrap .i64 (v758 + (4 : Int))) (4 : Int) x10).bind fun r764 =>
        cond b762
          (rec x0 x1 x2 x3 x4 x5 (List.set x6 (Int.toNat x11) r761.1) (List.set x7 (Int.toNat x11) r764.1) x8 x9 x10 (IntKind.wrap .i64 (x11 + (1 : Int))))
          (none))
        (none))
      ((etcone_Parts_c1 F v758 (5 : Int) x10).bind fun r769 =>
      let b770 : Bool := ((decide ((0 : Int) ≤ x11)) && (decide (x11 < (3 : Int))))
      cond b770
        ((etcone_Parts_c1 F (IntKind.wrap .i64 (v758 + (5 : Int))) (3 : Int) x10).bind fun r772 =>
        let l773 : List Int := (List.set x6 (Int.toNat x11) r769.1)
        cond b770
          (let l774 : List Int := (List.set x7 (Int.toNat x11) r772.1)
          cond b770
            (let v775 : Int := (List.getD l774 (Int.toNat x11) (0 : Int))
            cond (decide ((4 : Int) ≤ v775))
              (cond b770
                (cond b770
                  (rec x0 x1 x2 x3 x4 x5 l773 (List.set l774 (Int.toNat x11) (IntKind.wrap .i64 (v775 + (-(8 : Int))))) x8 x9 x10 (IntKind.wrap .i64 (x11 + (1 : Int))))
                  (none))
                (none))
              (rec x0 x1 x2 x3 x4 x5 l773 l774 x8 x9 x10 (IntKind.wrap .i64 (x11 + (1 : Int)))))
            (none))
          (none))
        (none)))
    (some (x0, (x1, (x2, (x3, (x4, (x5, (x6, (x7, (x8, (x9, (x10, ()))))))))))))
def etcone_Parts_l0 (F : Nat) : Nat → List Int → List Int → List Int → List Int → Bool → Bool → List Int → List Int → List Int → List Int → List Int → Int → Option (List Int × (List Int × (List Int × (List Int × (Bool × (Bool × (List Int × (List Int × (List Int × (List Int × (List Int × Unit)))))))))))
  | 0, _, _, _, _, _, _, _, _, _, _, _, _ => none
  | k + 1, x0, x1, x2, x3, x4, x5, x6, x7, x8, x9, x10, x11 => etcone_Parts_l0S F (etcone_Parts_l0 F k) x0 x1 x2 x3 x4 x5 x6 x7 x8 x9 x10 x11
def etcone_Parts_l2S (F : Nat) (rec : List Int → List Int → List Int → List Int → Bool → Bool → List Int → List Int → List Int → List Int → List Int → Int → Option (List Int × (List Int × (List Int × (List Int × (Bool × (Bool × (List Int × (List Int × (List Int × (List Int × Unit))))))))))) (x0 : List Int) (x1 : List Int) (x2 : List Int) (x3 : List Int) (x4 : Bool) (x5 : Bool) (x6 : List Int) (x7 : List Int) (x8 : List Int) (x9 : List Int) (x10 : List Int) (x11 : Int) : Option (List Int × (List Int × (List Int × (List Int × (Bool × (Bool × (List Int × (List Int × (List Int × (List Int × Unit)))))))))) :=
  cond (decide (x11 < (16 : Int)))
    ((etcone_column F x11).bind fun r811 =>
    (etcone_Parts_c1 F (IntKind.wrap .i64 ((47 : Int) - r811.1)) (1 : Int) x10).bind fun r813 =>
    (etcone_column F x11).bind fun r815 =>
    (etcone_Parts_c1 F (IntKind.wrap .i64 ((63 : Int) - r815.1)) (1 : Int) x10).bind fun r817 =>
    cond ((decide ((0 : Int) ≤ x11)) && (decide (x11 < (16 : Int))))
      (rec x0 x1 x2 x3 x4 x5 x6 x7 x8 (List.set x9 (Int.toNat x11) (IntKind.wrap .i64 ((IntKind.wrap .i64 ((2 : Int) * r813.1)) + r817.1))) x10 (IntKind.wrap .i64 (x11 + (1 : Int))))
      (none))
    (some (x0, (x1, (x2, (x3, (x4, (x5, (x6, (x7, (x8, (x9, ())))))))))))
def etcone_Parts_l2 (F : Nat) : Nat → List Int → List Int → List Int → List Int → Bool → Bool → List Int → List Int → List Int → List Int → List Int → Int → Option (List Int × (List Int × (List Int × (List Int × (Bool × (Bool × (List Int × (List Int × (List Int × (List Int × Unit))))))))))
  | 0, _, _, _, _, _, _, _, _, _, _, _, _ => none
  | k + 1, x0, x1, x2, x3, x4, x5, x6, x7, x8, x9, x10, x11 => etcone_Parts_l2S F (etcone_Parts_l2 F k) x0 x1 x2 x3 x4 x5 x6 x7 x8 x9 x10 x11
def etcone_Parts (F : Nat) (a0 : List Int) : Option ((Bool × (Bool × (List Int × (List Int × (List Int × (List Int × Unit)))))) × (Int × Unit)) :=
  cond ((((List.length a0) : Nat) : Int) != (8 : Int))
    (some ((false, (false, ([(0 : Int), (0 : Int), (0 : Int)], ([(0 : Int), (0 : Int), (0 : Int)], ([(0 : Int), (0 : Int)], (law10_awakeT3, ())))))), ((1 : Int), ())))
    ((etcone_Parts_c1 F (30 : Int) (1 : Int) a0).bind fun r713 =>
    (etcone_Parts_c1 F (31 : Int) (1 : Int) a0).bind fun r715 =>
    (etcone_Parts_l0 F F [(0 : Int), (0 : Int), (0 : Int)] [(0 : Int), (0 : Int), (0 : Int)] [(0 : Int), (0 : Int)] law10_awakeT3 (r713.1 == (1 : Int)) (r715.1 == (1 : Int)) [(0 : Int), (0 : Int), (0 : Int)] [(0 : Int), (0 : Int), (0 : Int)] [(0 : Int), (0 : Int)] law10_awakeT3 a0 (0 : Int)).bind fun r781 =>
    (etcone_Parts_c1 F (24 : Int) (3 : Int) r781.2.2.2.2.2.2.2.2.2.2.1).bind fun r783 =>
    (etcone_Parts_c1 F (27 : Int) (3 : Int) r781.2.2.2.2.2.2.2.2.2.2.1).bind fun r784 =>
    (etcone_Parts_l2 F F r781.1 r781.2.1 r781.2.2.1 r781.2.2.2.1 r781.2.2.2.2.1 r781.2.2.2.2.2.1 r781.2.2.2.2.2.2.1 r781.2.2.2.2.2.2.2.1 [r783.1, r784.1] r781.2.2.2.2.2.2.2.2.2.1 r781.2.2.2.2.2.2.2.2.2.2.1 (0 : Int)).bind fun r823 =>
    some ((r823.2.2.2.2.1, (r823.2.2.2.2.2.1, (r823.2.2.2.2.2.2.1, (r823.2.2.2.2.2.2.2.1, (r823.2.2.2.2.2.2.2.2.1, (r823.2.2.2.2.2.2.2.2.2.1, ())))))), ((0 : Int), ())))
def etcone_BasesT827 : List Int := [0, 0, 0, 255, 0, 0, 0, 255]
def etcone_Bases_l0S (F : Nat) (rec : Bool → Bool → List Int → List Int → List Int → List Int → List Int → List Int → Int → Int → Option (List Int × (List Int × (Int × Unit)))) (x0 : Bool) (x1 : Bool) (x2 : List Int) (x3 : List Int) (x4 : List Int) (x5 : List Int) (x6 : List Int) (x7 : List Int) (x8 : Int) (x9 : Int) : Option (List Int × (List Int × (Int × Unit))) :=
  cond (decide (x9 < (3 : Int)))
    (let b918 : Bool := ((decide ((0 : Int) ≤ x9)) && (decide (x9 < (3 : Int))))
    cond b918
      (let v920 : Int := (List.getD x3 (Int.toNat x9) (0 : Int))
      cond x0
        (cond b918
          (let v921 : Int := (List.getD x2 (Int.toNat x9) (0 : Int))
          cond b918
            (let v922 : Int := (IntKind.wrap .i64 (v921 + v920))
            cond (x8 == (3 : Int))
              (cond (decide (v922 < (0 : Int)))
                (cond b918
                  ((level_Wide F v921 (5 : Int)).bind fun r925 =>
                  let b926 : Bool := ((decide ((0 : Int) ≤ x9)) && (decide (x9 < (4 : Int))))
                  cond b926
                    ((level_Wide F v922 (5 : Int)).bind fun r927 =>
                    cond b926
                      (rec x0 x1 x2 x3 x4 x5 x6 (List.set (List.set x7 (Int.toNat x9) r925.1) (4 + (Int.toNat x9)) r927.1) x9 (IntKind.wrap .i64 (x9 + (1 : Int))))
                      (none))
                    (none))
                  (none))
                (cond ((ishr .i64 v922 (5 : Int)) != (0 : Int))
                  (cond b918
                    ((level_Wide F v921 (5 : Int)).bind fun r933 =>
                    let b934 : Bool := ((decide ((0 : Int) ≤ x9)) && (decide (x9 < (4 : Int))))
                    cond b934
                      ((level_Wide F v922 (5 : Int)).bind fun r935 =>
                      cond b934
                        (rec x0 x1 x2 x3 x4 x5 x6 (List.set (List.set x7 (Int.toNat x9) r933.1) (4 + (Int.toNat x9)) r935.1) x9 (IntKind.wrap .i64 (x9 + (1 : Int))))
                        (none))
                      (none))
                    (none))
                  (cond b918
                    ((level_Wide F v921 (5 : Int)).bind fun r939 =>
                    let b940 : Bool := ((decide ((0 : Int) ≤ x9)) && (decide (x9 < (4 : Int))))
                    cond b940
                      ((level_Wide F v922 (5 : Int)).bind fun r941 =>
                      cond b940
                        (rec x0 x1 x2 x3 x4 x5 x6 (List.set (List.set x7 (Int.toNat x9) r939.1) (4 + (Int.toNat x9)) r941.1) x8 (IntKind.wrap .i64 (x9 + (1 : Int))))
                        (none))
                      (none))
                    (none))))
              (cond b918
                ((level_Wide F v921 (5 : Int)).bind fun r945 =>
                let b946 : Bool := ((decide ((0 : Int) ≤ x9)) && (decide (x9 < (4 : Int))))
                cond b946
                  ((level_Wide F v922 (5 : Int)).bind fun r947 =>
                  cond b946
                    (rec x0 x1 x2 x3 x4 x5 x6 (List.set (List.set x7 (Int.toNat x9) r945.1) (4 + (Int.toNat x9)) r947.1) x8 (IntKind.wrap .i64 (x9 + (1 : Int))))
                    (none))
                  (none))
                (none)))
            (none))
          (none))
        (cond b918
          ((level_Wide F (List.getD x2 (Int.toNat x9) (0 : Int)) (4 : Int)).bind fun r952 =>
          let b953 : Bool := ((decide ((0 : Int) ≤ x9)) && (decide (x9 < (4 : Int))))
          cond b953
            ((level_Wide F v920 (4 : Int)).bind fun r954 =>
            cond b953
              (rec x0 x1 x2 x3 x4 x5 x6 (List.set (List.set x7 (Int.toNat x9) r952.1) (4 + (Int.toNat x9)) r954.1) x8 (IntKind.wrap .i64 (x9 + (1 : Int))))
              (none))
            (none))
          (none)))
      (none))
    (some (x6, (x7, (x8, ()))))
def etcone_Bases_l0 (F : Nat) : Nat → Bool → Bool → List Int → List Int → List Int → List Int → List Int → List Int → Int → Int → Option (List Int × (List Int × (Int × Unit)))
  | 0, _, _, _, _, _, _, _, _, _, _ => none
  | k + 1, x0, x1, x2, x3, x4, x5, x6, x7, x8, x9 => etcone_Bases_l0S F (etcone_Bases_l0 F k) x0 x1 x2 x3 x4 x5 x6 x7 x8 x9
def etcone_Bases (F : Nat) (a0 : (Bool × (Bool × (List Int × (List Int × (List Int × (List Int × Unit))))))) : Option (List Int × (Int × Unit)) :=
  (etcone_Bases_l0 F F a0.1 a0.2.1 a0.2.2.1 a0.2.2.2.1 a0.2.2.2.2.1 a0.2.2.2.2.2.1 etcone_JoinT4 etcone_BasesT827 (3 : Int) (0 : Int)).bind fun r958 =>
  some (r958.2.1, (r958.2.2.1, ()))
def etcone_Half (F : Nat) (a0 : Bool) (a1 : Int) : Option (Int × Unit) :=
  let v961 : Int := (iand .i64 a1 (15 : Int))
  cond a0
    (some ((IntKind.wrap .i64 (Int.tdiv v961 (8 : Int))), ()))
    (some ((IntKind.wrap .i64 (Int.tdiv (Int.tmod v961 (4 : Int)) (2 : Int))), ()))
def etcone_TableT974 : List Int := [2, 8, 5, 17, 9, 29, 13, 42, 18, 60, 24, 80, 33, 106, 47, 183]
def etcone_Table (F : Nat) (a0 : Int) : Option (List Int × Unit) :=
  let v975 : Int := (iand .i64 a0 (7 : Int))
  cond ((decide ((0 : Int) ≤ v975)) && (decide (v975 < (8 : Int))))
    (let l978 : List Int := (List.take 2 (List.drop ((Int.toNat v975) * 2) etcone_TableT974))
    let v979 : Int := (List.getD l978 0 (0 : Int))
    let v980 : Int := (List.getD l978 1 (0 : Int))
    some ([v979, v980, (IntKind.wrap .i64 ((0 : Int) - v979)), (IntKind.wrap .i64 ((0 : Int) - v980))], ()))
    (none)
def etcone_Paint_l2S (F : Nat) (rec : Bool → Bool → List Int → List Int → List Int → List Int → List Int → List Int → List Int → Int → Int → Int → List Int → Int → Int → Option (Bool × (Bool × (List Int × (List Int × (List Int × (List Int × (List Int × (List Int × (List Int × (List Int × (Int × Unit)))))))))))) (x0 : Bool) (x1 : Bool) (x2 : List Int) (x3 : List Int) (x4 : List Int) (x5 : List Int) (x6 : List Int) (x7 : List Int) (x8 : List Int) (x9 : Int) (x10 : Int) (x11 : Int) (x12 : List Int) (x13 : Int) (x14 : Int) : Option (Bool × (Bool × (List Int × (List Int × (List Int × (List Int × (List Int × (List Int × (List Int × (List Int × (Int × Unit))))))))))) :=
  cond (decide (x14 < (3 : Int)))
    (let b1095 : Bool := ((decide ((0 : Int) ≤ x9)) && (decide (x9 < (16 : Int))))
    cond b1095
      (let b1097 : Bool := ((decide ((0 : Int) ≤ x14)) && (decide (x14 < (4 : Int))))
      cond b1097
        (let n1098 : Nat := (((Int.toNat x9) * 4) + (Int.toNat x14))
        cond ((decide ((0 : Int) ≤ x11)) && (decide (x11 < (2 : Int))))
          ((etcone_Table F (List.getD x4 (Int.toNat x11) (0 : Int))).bind fun r1103 =>
          let v1104 : Int := (iand .i64 x10 (3 : Int))
          cond ((decide ((0 : Int) ≤ v1104)) && (decide (v1104 < (4 : Int))))
            ((level_Clamp F (IntKind.wrap .i64 ((List.getD x8 n1098 (0 : Int)) + (List.getD r1103.1 (Int.toNat v1104) (0 : Int)))) (255 : Int)).bind fun r1108 =>
            cond b1095
              (cond b1097
                (rec x0 x1 x2 x3 x4 x5 x6 x7 (List.set x8 n1098 r1108.1) x9 x10 x11 x12 x13 (IntKind.wrap .i64 (x14 + (1 : Int))))
                (none))
              (none))
            (none))
          (none))
        (none))
      (none))
    (some (x0, (x1, (x2, (x3, (x4, (x5, (x6, (x7, (x8, (x12, (x13, ()))))))))))))
def etcone_Paint_l2 (F : Nat) : Nat → Bool → Bool → List Int → List Int → List Int → List Int → List Int → List Int → List Int → Int → Int → Int → List Int → Int → Int → Option (Bool × (Bool × (List Int × (List Int × (List Int × (List Int × (List Int × (List Int × (List Int × (List Int × (Int × Unit)))))))))))
  | 0, _, _, _, _, _, _, _, _, _, _, _, _, _, _, _ => none
  | k + 1, x0, x1, x2, x3, x4, x5, x6, x7, x8, x9, x10, x11, x12, x13, x14 => etcone_Paint_l2S F (etcone_Paint_l2 F k) x0 x1 x2 x3 x4 x5 x6 x7 x8 x9 x10 x11 x12 x13 x14
def etcone_Paint_l0S (F : Nat) (rec : Bool → Bool → List Int → List Int → List Int → List Int → List Int → List Int → List Int → List Int → Int → Option (List Int × (List Int × Unit))) (x0 : Bool) (x1 : Bool) (x2 : List Int) (x3 : List Int) (x4 : List Int) (x5 : List Int) (x6 : List Int) (x7 : List Int) (x8 : List Int) (x9 : List Int) (x10 : Int) : Option (List Int × (List Int × Unit)) :=
  cond (decide (x10 < (16 : Int)))
    (let b1069 : Bool := ((decide ((0 : Int) ≤ x10)) && (decide (x10 < (16 : Int))))
    cond b1069
      ((etcone_Half F x1 x10).bind fun r1071 =>
      cond ((decide ((0 : Int) ≤ r1071.1)) && (decide (r1071.1 < (2 : Int))))
        (cond b1069
          (let n1075 : Nat := ((Int.toNat x10) * 4)
          (etcone_Paint_l2 F F x0 x1 x2 x3 x4 x5 x6 x7 (((List.take n1075 x8) ++ (List.take 4 (List.drop ((Int.toNat r1071.1) * 4) x7))) ++ (List.drop (n1075 + 4) x8)) x10 (List.getD x9 (Int.toNat x10) (0 : Int)) r1071.1 x9 x10 (0 : Int)).bind fun r1111 =>
          rec r1111.1 r1111.2.1 r1111.2.2.1 r1111.2.2.2.1 r1111.2.2.2.2.1 r1111.2.2.2.2.2.1 r1111.2.2.2.2.2.2.1 r1111.2.2.2.2.2.2.2.1 r1111.2.2.2.2.2.2.2.2.1 r1111.2.2.2.2.2.2.2.2.2.1 (IntKind.wrap .i64 (r1111.2.2.2.2.2.2.2.2.2.2.1 + (1 : Int))))
          (none))
        (none))
      (none))
    (some (x6, (x8, ())))
def etcone_Paint_l0 (F : Nat) : Nat → Bool → Bool → List Int → List Int → List Int → List Int → List Int → List Int → List Int → List Int → Int → Option (List Int × (List Int × Unit))
  | 0, _, _, _, _, _, _, _, _, _, _, _ => none
  | k + 1, x0, x1, x2, x3, x4, x5, x6, x7, x8, x9, x10 => etcone_Paint_l0S F (etcone_Paint_l0 F k) x0 x1 x2 x3 x4 x5 x6 x7 x8 x9 x10
def etcone_Paint (F : Nat) (a0 : (Bool × (Bool × (List Int × (List Int × (List Int × (List Int × Unit))))))) : Option (List Int × Unit) :=
  (etcone_Bases F (a0.1, (a0.2.1, (a0.2.2.1, (a0.2.2.2.1, (a0.2.2.2.2.1, (a0.2.2.2.2.2.1, ()))))))).bind fun r959 =>
  (etcone_Paint_l0 F F a0.1 a0.2.1 a0.2.2.1 a0.2.2.2.1 a0.2.2.2.2.1 a0.2.2.2.2.2.1 etcone_DecodeT648 r959.1 etcone_DecodeT648 a0.2.2.2.2.2.1 (0 : Int)).bind fun r1113 =>
  some (r1113.2.1, ())
def etcone_Decode (F : Nat) (a0 : List Int) : Option (List Int × (Int × Unit)) :=
  (etcone_Parts F a0).bind fun r824 =>
  cond (r824.2.1 != (0 : Int))
    (some (etcone_DecodeT648, (r824.2.1, ())))
    ((etcone_Paint F (r824.1.1, (r824.1.2.1, (r824.1.2.2.1, (r824.1.2.2.2.1, (r824.1.2.2.2.2.1, (r824.1.2.2.2.2.2.1, ()))))))).bind fun r1114 =>
    some (r1114.1, ((0 : Int), ())))
end Go.AE.Gn
set_option linter.unusedSimpArgs false
set_option linter.unusedVariables false
namespace Go.AE.Gn
open Go Go.AE
def bcseven_SixT4 : List Int := [0, 0, 0, 0, 0, 0, 0, 0, 0, 0, 0, 0, 0, 0, 0, 0]
def bcseven_DecodeT283 : List Int := [0, 0, 0, 0, 0, 0, 0, 0, 0, 0, 0, 0, 0, 0, 0, 0, 0, 0, 0, 0, 0, 0, 0, 0, 0, 0, 0, 0, 0, 0, 0, 0, 0, 0, 0, 0, 0, 0, 0, 0, 0, 0, 0, 0, 0, 0, 0, 0, 0, 0, 0, 0, 0, 0, 0, 0, 0, 0, 0, 0, 0, 0, 0, 0]
def math_bits_TrailingZeros8T292 : List Int := [8, 0, 1, 0, 2, 0, 1, 0, 3, 0, 1, 0, 2, 0, 1, 0, 4, 0, 1, 0, 2, 0, 1, 0, 3, 0, 1, 0, 2, 0, 1, 0, 5, 0, 1, 0, 2, 0, 1, 0, 3, 0, 1, 0, 2, 0, 1, 0, 4, 0, 1, 0, 2, 0, 1, 0, 3, 0, 1, 0, 2, 0, 1, 0, 6, 0, 1, 0, 2, 0, 1, 0, 3, 0, 1, 0, 2, 0, 1, 0, 4, 0, 1, 0, 2, 0, 1, 0, 3, 0, 1, 0, 2, 0, 1, 0, 5, 0, 1, 0, 2, 0, 1, 0, 3, 0, 1, 0, 2, 0, 1, 0, 4, 0, 1, 0, 2, 0, 1, 0, 3, 0, 1, 0, 2, 0, 1, 0, 7, 0, 1, 0, 2, 0, 1, 0, 3, 0, 1, 0, 2, 0, 1, 0, 4, 0, 1, 0, 2, 0, 1, 0, 3, 0, 1, 0, 2, 0, 1, 0, 5, 0, 1, 0, 2, 0, 1, 0, 3, 0, 1, 0, 2, 0, 1, 0, 4, 0, 1, 0, 2, 0, 1, 0, 3, 0, 1, 0, 2, 0, 1, 0, 6, 0, 1, 0, 2, 0, 1, 0, 3, 0, 1, 0, 2, 0, 1, 0, 4, 0, 1, 0, 2, 0, 1, 0, 3, 0, 1, 0, 2, 0, 1, 0, 5, 0, 1, 0, 2, 0, 1, 0, 3, 0, 1, 0, 2, 0, 1, 0, 4, 0, 1, 0, 2, 0, 1, 0, 3, 0, 1, 0, 2, 0, 1, 0]
def math_bits_TrailingZeros8 (F : Nat) (a0 : Int) : Option (Int × Unit) :=
  cond ((decide ((0 : Int) ≤ a0)) && (decide (a0 < (256 : Int))))
    (some ((List.getD math_bits_TrailingZeros8T292 (Int.toNat a0) (0 : Int)), ()))
    (none)
def bcseven_Mode (F : Nat) (a0 : List Int) : Option (Int × Unit) :=
  cond ((((List.length a0) : Nat) : Int) != (16 : Int))
    (some ((8 : Int), ()))
    (cond (decide ((0 : Int) < (((List.length a0) : Nat) : Int)))
      ((math_bits_TrailingZeros8 F (List.getD a0 0 (0 : Int))).bind fun r294 =>
      some (r294.1, ()))
      (none))
def bctable_ModesT298 : List Int := [3, 4, 0, 0, 4, 0, 1, 0, 3, 0, 2, 6, 0, 0, 6, 0, 0, 1, 3, 0, 3, 6, 0, 0, 5, 0, 0, 0, 2, 0, 2, 6, 0, 0, 7, 0, 1, 0, 2, 0, 1, 0, 2, 1, 5, 6, 0, 0, 2, 3, 1, 0, 2, 0, 7, 8, 0, 0, 2, 2, 1, 0, 0, 0, 7, 7, 1, 0, 4, 0, 2, 6, 0, 0, 5, 5, 1, 0, 2, 0]
def bctable_Modes (F : Nat) : Option (List Int × Unit) :=
  some (bctable_ModesT298, ())
def bcseven_read_c1 (F : Nat) (a0 : Int) (a1 : List Int) (a2 : Int) : Option (Int × (Int × Unit)) :=
  (bits_Low F a1 a2 a0).bind fun r381 =>
  some ((IntKind.wrap .i64 r381.1), ((IntKind.wrap .i64 (a2 + a0)), ()))
def bcseven_dealt (F : Nat) (a0 : (Int × (Int × (Int × (Int × (Int × (Int × (Int × (Int × (Int × (Int × Unit))))))))))) (a1 : Int) : Option (Int × Unit) :=
  cond (a1 == (3 : Int))
    (some (a0.2.2.2.2.2.1, ()))
    (some (a0.2.2.2.2.1, ()))
def bcseven_fields_widen_read_c1_l2S (F : Nat) (rec : List Int → Int → Int → Int → Int → Int → Int → Int → Int → Int → Int → Int → Int → Int → List Int → List Int → List Int → Int → Int → Int → Int → Int → Int → List Int → Int → Option (List Int × (Int × (Int × (Int × (Int × (Int × (Int × (Int × (Int × (Int × (Int × (Int × (Int × (Int × (List Int × (List Int × (List Int × (Int × (Int × (Int × (Int × (Int × (Int × Unit)))))))))))))))))))))))) (x0 : List Int) (x1 : Int) (x2 : Int) (x3 : Int) (x4 : Int) (x5 : Int) (x6 : Int) (x7 : Int) (x8 : Int) (x9 : Int) (x10 : Int) (x11 : Int) (x12 : Int) (x13 : Int) (x14 : List Int) (x15 : List Int) (x16 : List Int) (x17 : Int) (x18 : Int) (x19 : Int) (x20 : Int) (x21 : Int) (x22 : Int) (x23 : List Int) (x24 : Int) : Option (List Int × (Int × (Int × (Int × (Int × (Int × (Int × (Int × (Int × (Int × (Int × (Int × (Int × (Int × (List Int × (List Int × (List Int × (Int × (Int × (Int × (Int × (Int × (Int × Unit))))))))))))))))))))))) :=
  let n1205 : Nat := ((List.length x0) / 4)
  cond (decide (x24 < (4 : Int)))
    (let b1208 : Bool := ((decide ((0 : Int) ≤ x24)) && (decide (x24 < (4 : Int))))
    cond b1208
      (cond (decide ((0 : Int) ≤ x18))
        ((bcseven_dealt F (x1, (x2, (x3, (x4, (x5, (x6, (x7, (x8, (x9, (x10, ())))))))))) x24).bind fun r1213 =>
        (level_Wide F (ior .i64 (ishl .i64 (List.getD x23 (Int.toNat x24) (0 : Int)) x18) x19) (IntKind.wrap .i64 (r1213.1 + x18))).bind fun r1215 =>
        cond ((decide ((0 : Int) ≤ x20)) && (decide (x20 < ((n1205 : Nat) : Int))))
          (cond b1208
            (rec (List.set x0 (((Int.toNat x20) * 4) + (Int.toNat x24)) r1215.1) x1 x2 x3 x4 x5 x6 x7 x8 x9 x10 x11 x12 x13 x14 x15 x16 x17 x18 x19 x20 x21 x22 x23 (IntKind.wrap .i64 (x24 + (1 : Int))))
            (none))
          (none))
        (none))
      (none))
    (some (x0, (x1, (x2, (x3, (x4, (x5, (x6, (x7, (x8, (x9, (x10, (x11, (x12, (x13, (x14, (x15, (x16, (x17, (x18, (x19, (x20, (x21, (x22, ()))))))))))))))))))))))))
def bcseven_fields_widen_read_c1_l2 (F : Nat) : Nat → List Int → Int → Int → Int → Int → Int → Int → Int → Int → Int → Int → Int → Int → Int → List Int → List Int → List Int → Int → Int → Int → Int → Int → Int → List Int → Int → Option (List Int × (Int × (Int × (Int × (Int × (Int × (Int × (Int × (Int × (Int × (Int × (Int × (Int × (Int × (List Int × (List Int × (List Int × (Int × (Int × (Int × (Int × (Int × (Int × Unit)))))))))))))))))))))))
  | 0, _, _, _, _, _, _, _, _, _, _, _, _, _, _, _, _, _, _, _, _, _, _, _, _, _ => none
  | k + 1, x0, x1, x2, x3, x4, x5, x6, x7, x8, x9, x10, x11, x12, x13, x14, x15, x16, x17, x18, x19, x20, x21, x22, x23, x24 => bcseven_fields_widen_read_c1_l2S F (bcseven_fields_widen_read_c1_l2 F k) x0 x1 x2 x3 x4 x5 x6 x7 x8 x9 x10 x11 x12 x13 x14 x15 x16 x17 x18 x19 x20 x21 x22 x23 x24
def bcseven_fields_widen_read_c1_l0S (F : Nat) (rec : List Int → Int → Int → Int → Int → Int → Int → Int → Int → Int → Int → Int → Int → Int → List Int → List Int → List Int → Int → Int → Int → Int → Int → Option (List Int × (Int × (Int × (Int × (Int × (Int × (Int × (Int × (Int × (Int × (Int × (Int × (Int × (Int × (List Int × (List Int × (List Int × (Int × Unit))))))))))))))))))) (x0 : List Int) (x1 : Int) (x2 : Int) (x3 : Int) (x4 : Int) (x5 : Int) (x6 : Int) (x7 : Int) (x8 : Int) (x9 : Int) (x10 : Int) (x11 : Int) (x12 : Int) (x13 : Int) (x14 : List Int) (x15 : List Int) (x16 : List Int) (x17 : Int) (x18 : Int) (x19 : Int) (x20 : Int) (x21 : Int) : Option (List Int × (Int × (Int × (Int × (Int × (Int × (Int × (Int × (Int × (Int × (Int × (Int × (Int × (Int × (List Int × (List Int × (List Int × (Int × Unit)))))))))))))))))) :=
  let n1181 : Nat := ((List.length x0) / 4)
  cond (decide (x21 < x20))
    (cond (x7 == (1 : Int))
      ((bcseven_read_c1 F (1 : Int) x16 x17).bind fun r1185 =>
      cond ((decide ((0 : Int) ≤ x21)) && (decide (x21 < ((n1181 : Nat) : Int))))
        ((bcseven_fields_widen_read_c1_l2 F F x0 x1 x2 x3 x4 x5 x6 x7 x8 x9 x10 x11 x12 x13 x14 x15 x16 r1185.2.1 x18 r1185.1 x21 x20 x21 (List.take 4 (List.drop ((Int.toNat x21) * 4) x0)) (0 : Int)).bind fun r1221 =>
        let n1222 : Nat := ((List.length r1221.1) / 4)
        cond (r1221.2.2.2.2.2.2.1 == (0 : Int))
          (cond ((decide ((0 : Int) ≤ r1221.2.2.2.2.2.2.2.2.2.2.2.2.2.2.2.2.2.2.2.2.1)) && (decide (r1221.2.2.2.2.2.2.2.2.2.2.2.2.2.2.2.2.2.2.2.2.1 < ((n1222 : Nat) : Int))))
            (rec (List.set r1221.1 (3 + ((Int.toNat r1221.2.2.2.2.2.2.2.2.2.2.2.2.2.2.2.2.2.2.2.2.1) * 4)) (255 : Int)) r1221.2.1 r1221.2.2.1 r1221.2.2.2.1 r1221.2.2.2.2.1 r1221.2.2.2.2.2.1 r1221.2.2.2.2.2.2.1 r1221.2.2.2.2.2.2.2.1 r1221.2.2.2.2.2.2.2.2.1 r1221.2.2.2.2.2.2.2.2.2.1 r1221.2.2.2.2.2.2.2.2.2.2.1 r1221.2.2.2.2.2.2.2.2.2.2.2.1 r1221.2.2.2.2.2.2.2.2.2.2.2.2.1 r1221.2.2.2.2.2.2.2.2.2.2.2.2.2.1 r1221.2.2.2.2.2.2.2.2.2.2.2.2.2.2.1 r1221.2.2.2.2.2.2.2.2.2.2.2.2.2.2.2.1 r1221.2.2.2.2.2.2.2.2.2.2.2.2.2.2.2.2.1 r1221.2.2.2.2.2.2.2.2.2.2.2.2.2.2.2.2.2.1 r1221.2.2.2.2.2.2.2.2.2.2.2.2.2.2.2.2.2.2.1 r1221.2.2.2.2.2.2.2.2.2.2.2.2.2.2.2.2.2.2.2.1 r1221.2.2.2.2.2.2.2.2.2.2.2.2.2.2.2.2.2.2.2.2.2.1 (IntKind.wrap .i64 (r1221.2.2.2.2.2.2.2.2.2.2.2.2.2.2.2.2.2.2.2.2.2.2.1 + (1 : Int))))
            (none))
          (rec r1221.1 r1221.2.1 r1221.2.2.1 r1221.2.2.2.1 r1221.2.2.2.2.1 r1221.2.2.2.2.2.1 r1221.2.2.2.2.2.2.1 r1221.2.2.2.2.2.2.2.1 r1221.2.2.2.2.2.2.2.2.1 r1221.2.2.2.2.2.2.2.2.2.1 r1221.2.2.2.2.2.2.2.2.2.2.1 r1221.2.2.2.2.2.2.2.2.2.2.2.1 r1221.2.2.2.2.2.2.2.2.2.2.2.2.1 r1221.2.2.2.2.2.2.2.2.2.2.2.2.2.1 r1221.2.2.2.2.2.2.2.2.2.2.2.2.2.2.1 r1221.2.2.2.2.2.2.2.2.2.2.2.2.2.2.2.1 r1221.2.2.2.2.2.2.2.2.2.2.2.2.2.2.2.2.1 r1221.2.2.2.2.2.2.2.2.2.2.2.2.2.2.2.2.2.1 r1221.2.2.2.2.2.2.2.2.2.2.2.2.2.2.2.2.2.2.1 r1221.2.2.2.2.2.2.2.2.2.2.2.2.2.2.2.2.2.2.2.1 r1221.2.2.2.2.2.2.2.2.2.2.2.2.2.2.2.2.2.2.2.2.2.1 (IntKind.wrap .i64 (r1221.2.2.2.2.2.2.2.2.2.2.2.2.2.2.2.2.2.2.2.2.2.2.1 + (1 : Int)))))
        (none))
      (cond (x8 == (1 : Int))
        (cond ((Int.tmod x21 (2 : Int)) == (0 : Int))
          ((bcseven_read_c1 F (1 : Int) x16 x17).bind fun r1234 =>
          cond ((decide ((0 : Int) ≤ x21)) && (decide (x21 < ((n1181 : Nat) : Int))))
            ((bcseven_fields_widen_read_c1_l2 F F x0 x1 x2 x3 x4 x5 x6 x7 x8 x9 x10 x11 x12 x13 x14 x15 x16 r1234.2.1 x18 r1234.1 x21 x20 x21 (List.take 4 (List.drop ((Int.toNat x21) * 4) x0)) (0 : Int)).bind fun r1254 =>
            let n1255 : Nat := ((List.length r1254.1) / 4)
            cond (r1254.2.2.2.2.2.2.1 == (0 : Int))
              (cond ((decide ((0 : Int) ≤ r1254.2.2.2.2.2.2.2.2.2.2.2.2.2.2.2.2.2.2.2.2.1)) && (decide (r1254.2.2.2.2.2.2.2.2.2.2.2.2.2.2.2.2.2.2.2.2.1 < ((n1255 : Nat) : Int))))
                (rec (List.set r1254.1 (3 + ((Int.toNat r1254.2.2.2.2.2.2.2.2.2.2.2.2.2.2.2.2.2.2.2.2.1) * 4)) (255 : Int)) r1254.2.1 r1254.2.2.1 r1254.2.2.2.1 r1254.2.2.2.2.1 r1254.2.2.2.2.2.1 r1254.2.2.2.2.2.2.1 r1254.2.2.2.2.2.2.2.1 r1254.2.2.2.2.2.2.2.2.1 r1254.2.2.2.2.2.2.2.2.2.1 r1254.2.2.2.2.2.2.2.2.2.2.1 r1254.2.2.2.2.2.2.2.2.2.2.2.1 r1254.2.2.2.2.2.2.2.2.2.2.2.2.1 r1254.2.2.2.2.2.2.2.2.2.2.2.2.2.1 r1254.2.2.2.2.2.2.2.2.2.2.2.2.2.2.1 r1254.2.2.2.2.2.2.2.2.2.2.2.2.2.2.2.1 r1254.2.2.2.2.2.2.2.2.2.2.2.2.2.2.2.2.1 r1254.2.2.2.2.2.2.2.2.2.2.2.2.2.2.2.2.2.1 r1254.2.2.2.2.2.2.2.2.2.2.2.2.2.2.2.2.2.2.1 r1254.2.2.2.2.2.2.2.2.2.2.2.2.2.2.2.2.2.2.2.1 r1254.2.2.2.2.2.2.2.2.2.2.2.2.2.2.2.2.2.2.2.2.2.1 (IntKind.wrap .i64 (r1254.2.2.2.2.2.2.2.2.2.2.2.2.2.2.2.2.2.2.2.2.2.2.1 + (1 : Int))))
                (none))
              (rec r1254.1 r1254.2.1 r1254.2.2.1 r1254.2.2.2.1 r1254.2.2.2.2.1 r1254.2.2.2.2.2.1 r1254.2.2.2.2.2.2.1 r1254.2.2.2.2.2.2.2.1 r1254.2.2.2.2.2.2.2.2.1 r1254.2.2.2.2.2.2.2.2.2.1 r1254.2.2.2.2.2.2.2.2.2.2.1 r1254.2.2.2.2.2.2.2.2.2.2.2.1 r1254.2.2.2.2.2.2.2.2.2.2.2.2.1 r1254.2.2.2.2.2.2.2.2.2.2.2.2.2.1 r1254.2.2.2.2.2.2.2.2.2.2.2.2.2.2.1 r1254.2.2.2.2.2.2.2.2.2.2.2.2.2.2.2.1 r1254.2.2.2.2.2.2.2.2.2.2.2.2.2.2.2.2.1 r1254.2.2.2.2.2.2.2.2.2.2.2.2.2.2.2.2.2.1 r1254.2.2.2.2.2.2.2.2.2.2.2.2.2.2.2.2.2.2.1 r1254.2.2.2.2.2.2.2.2.2.2.2.2.2.2.2.2.2.2.2.1 r1254.2.2.2.2.2.2.2.2.2.2.2.2.2.2.2.2.2.2.2.2.2.1 (IntKind.wrap .i64 (r1254.2.2.2.2.2.2.2.2.2.2.2.2.2.2.2.2.2.2.2.2.2.2.1 + (1 : Int)))))
            (none))
          (cond ((decide ((0 : Int) ≤ x21)) && (decide (x21 < ((n1181 : Nat) : Int))))
            ((bcseven_fields_widen_read_c1_l2 F F x0 x1 x2 x3 x4 x5 x6 x7 x8 x9 x10 x11 x12 x13 x14 x15 x16 x17 x18 x19 x21 x20 x21 (List.take 4 (List.drop ((Int.toNat x21) * 4) x0)) (0 : Int)).bind fun r1283 =>
            let n1284 : Nat := ((List.length r1283.1) / 4)
            cond (r1283.2.2.2.2.2.2.1 == (0 : Int))
              (cond ((decide ((0 : Int) ≤ r1283.2.2.2.2.2.2.2.2.2.2.2.2.2.2.2.2.2.2.2.2.1)) && (decide (r1283.2.2.2.2.2.2.2.2.2.2.2.2.2.2.2.2.2.2.2.2.1 < ((n1284 : Nat) : Int))))
                (rec (List.set r1283.1 (3 + ((Int.toNat r1283.2.2.2.2.2.2.2.2.2.2.2.2.2.2.2.2.2.2.2.2.1) * 4)) (255 : Int)) r1283.2.1 r1283.2.2.1 r1283.2.2.2.1 r1283.2.2.2.2.1 r1283.2.2.2.2.2.1 r1283.2.2.2.2.2.2.1 r1283.2.2.2.2.2.2.2.1 r1283.2.2.2.2.2.2.2.2.1 r1283.2.2.2.2.2.2.2.2.2.1 r1283.2.2.2.2.2.2.2.2.2.2.1 r1283.2.2.2.2.2.2.2.2.2.2.2.1 r1283.2.2.2.2.2.2.2.2.2.2.2.2.1 r1283.2.2.2.2.2.2.2.2.2.2.2.2.2.1 r1283.2.2.2.2.2.2.2.2.2.2.2.2.2.2.1 r1283.2.2.2.2.2.2.2.2.2.2.2.2.2.2.2.1 r1283.2.2.2.2.2.2.2.2.2.2.2.2.2.2.2.2.1 r1283.2.2.2.2.2.2.2.2.2.2.2.2.2.2.2.2.2.1 r1283.2.2.2.2.2.2.2.2.2.2.2.2.2.2.2.2.2.2.1 r1283.2.2.2.2.2.2.2.2.2.2.2.2.2.2.2.2.2.2.2.1 r1283.2.2.2.2.2.2.2.2.2.2.2.2.2.2.2.2.2.2.2.2.2.1 (IntKind.wrap .i64 (r1283.2.2.2.2.2.2.2.2.2.2.2.2.2.2.2.2.2.2.2.2.2.2.1 + (1 : Int))))
                (none))
              (rec r1283.1 r1283.2.1 r1283.2.2.1 r1283.2.2.2.1 r1283.2.2.2.2.1 r1283.2.2.2.2.2.1 r1283.2.2.2.2.2.2.1 r1283.2.2.2.2.2.2.2.1 r1283.2.2.2.2.2.2.2.2.1 r1283.2.2.2.2.2.2.2.2.2.1 r1283.2.2.2.2.2.2.2.2.2.2.1 r1283.2.2.2.2.2.2.2.2.2.2.2.1 r1283.2.2.2.2.2.2.2.2.2.2.2.2.1 r1283.2.2.2.2.2.2.2.2.2.2.2.2.2.1 r1283.2.2.2.2.2.2.2.2.2.2.2.2.2.2.1 r1283.2.2.2.2.2.2.2.2.2.2.2.2.2.2.2.1 r1283.2.2.2.2.2.2.2.2.2.2.2.2.2.2.2.2.1 r1283.2.2.2.2.2.2.2.2.2.2.2.2.2.2.2.2.2.1 r1283.2.2.2.2.2.2.2.2.2.2.2.2.2.2.2.2.2.2.1 r1283.2.2.2.2.2.2.2.2.2.2.2.2.2.2.2.2.2.2.2.1 r1283.2.2.2.2.2.2.2.2.2.2.2.2.2.2.2.2.2.2.2.2.2.1 (IntKind.wrap .i64 (r1283.2.2.2.2.2.2.2.2.2.2.2.2.2.2.2.2.2.2.2.2.2.2.1 + (1 : Int)))))
            (none)))
        (cond ((decide ((0 : Int) ≤ x21)) && (decide (x21 < ((n1181 : Nat) : Int))))
          ((bcseven_fields_widen_read_c1_l2 F F x0 x1 x2 x3 x4 x5 x6 x7 x8 x9 x10 x11 x12 x13 x14 x15 x16 x17 x18 x19 x21 x20 x21 (List.take 4 (List.drop ((Int.toNat x21) * 4) x0)) (0 : Int)).bind fun r1312 =>
          let n1313 : Nat := ((List.length r1312.1) / 4)
          cond (r1312.2.2.2.2.2.2.1 == (0 : Int))
            (cond ((decide ((0 : Int) ≤ r1312.2.2.2.2.2.2.2.2.2.2.2.2.2.2.2.2.2.2.2.2.1)) && (decide (r1312.2.2.2.2.2.2.2.2.2.2.2.2.2.2.2.2.2.2.2.2.1 < ((n1313 : Nat) : Int))))
              (rec (List.set r1312.1 (3 + ((Int.toNat r1312.2.2.2.2.2.2.2.2.2.2.2.2.2.2.2.2.2.2.2.2.1) * 4)) (255 : Int)) r1312.2.1 r1312.2.2.1 r1312.2.2.2.1 r1312.2.2.2.2.1 r1312.2.2.2.2.2.1 r1312.2.2.2.2.2.2.1 r1312.2.2.2.2.2.2.2.1 r1312.2.2.2.2.2.2.2.2.1 r1312.2.2.2.2.2.2.2.2.2.1 r1312.2.2.2.2.2.2.2.2.2.2.1 r1312.2.2.2.2.2.2.2.2.2.2.2.1 r1312.2.2.2.2.2.2.2.2.2.2.2.2.1 r1312.2.2.2.2.2.2.2.2.2.2.2.2.2.1 r1312.2.2.2.2.2.2.2.2.2.2.2.2.2.2.1 r1312.2.2.2.2.2.2.2.2.2.2.2.2.2.2.2.1 r1312.2.2.2.2.2.2.2.2.2.2.2.2.2.2.2.2.1 r1312.2.2.2.2.2.2.2.2.2.2.2.2.2.2.2.2.2.1 r1312.2.2.2.2.2.2.2.2.2.2.2.2.2.2.2.2.2.2.1 r1312.2.2.2.2.2.2.2.2.2.2.2.2.2.2.2.2.2.2.2.1 r1312.2.2.2.2.2.2.2.2.2.2.2.2.2.2.2.2.2.2.2.2.2.1 (IntKind.wrap .i64 (r1312.2.2.2.2.2.2.2.2.2.2.2.2.2.2.2.2.2.2.2.2.2.2.1 + (1 : Int))))
              (none))
            (rec r1312.1 r1312.2.1 r1312.2.2.1 r1312.2.2.2.1 r1312.2.2.2.2.1 r1312.2.2.2.2.2.1 r1312.2.2.2.2.2.2.1 r1312.2.2.2.2.2.2.2.1 r1312.2.2.2.2.2.2.2.2.1 r1312.2.2.2.2.2.2.2.2.2.1 r1312.2.2.2.2.2.2.2.2.2.2.1 r1312.2.2.2.2.2.2.2.2.2.2.2.1 r1312.2.2.2.2.2.2.2.2.2.2.2.2.1 r1312.2.2.2.2.2.2.2.2.2.2.2.2.2.1 r1312.2.2.2.2.2.2.2.2.2.2.2.2.2.2.1 r1312.2.2.2.2.2.2.2.2.2.2.2.2.2.2.2.1 r1312.2.2.2.2.2.2.2.2.2.2.2.2.2.2.2.2.1 r1312.2.2.2.2.2.2.2.2.2.2.2.2.2.2.2.2.2.1 r1312.2.2.2.2.2.2.2.2.2.2.2.2.2.2.2.2.2.2.1 r1312.2.2.2.2.2.2.2.2.2.2.2.2.2.2.2.2.2.2.2.1 r1312.2.2.2.2.2.2.2.2.2.2.2.2.2.2.2.2.2.2.2.2.2.1 (IntKind.wrap .i64 (r1312.2.2.2.2.2.2.2.2.2.2.2.2.2.2.2.2.2.2.2.2.2.2.1 + (1 : Int)))))
          (none))))
    (some (x0, (x1, (x2, (x3, (x4, (x5, (x6, (x7, (x8, (x9, (x10, (x11, (x12, (x13, (x14, (x15, (x16, (x17, ())))))))))))))))))))
def bcseven_fields_widen_read_c1_l0 (F : Nat) : Nat → List Int → Int → Int → Int → Int → Int → Int → Int → Int → Int → Int → Int → Int → Int → List Int → List Int → List Int → Int → Int → Int → Int → Int → Option (List Int × (Int × (Int × (Int × (Int × (Int × (Int × (Int × (Int × (Int × (Int × (Int × (Int × (Int × (List Int × (List Int × (List Int × (Int × Unit))))))))))))))))))
  | 0, _, _, _, _, _, _, _, _, _, _, _, _, _, _, _, _, _, _, _, _, _, _ => none
  | k + 1, x0, x1, x2, x3, x4, x5, x6, x7, x8, x9, x10, x11, x12, x13, x14, x15, x16, x17, x18, x19, x20, x21 => bcseven_fields_widen_read_c1_l0S F (bcseven_fields_widen_read_c1_l0 F k) x0 x1 x2 x3 x4 x5 x6 x7 x8 x9 x10 x11 x12 x13 x14 x15 x16 x17 x18 x19 x20 x21
def bcseven_fields_widen_read_c1 (F : Nat) (a0 : List Int) (a1 : Int) (a2 : Int) (a3 : Int) (a4 : Int) (a5 : Int) (a6 : Int) (a7 : Int) (a8 : Int) (a9 : Int) (a10 : Int) (a11 : Int) (a12 : Int) (a13 : Int) (a14 : List Int) (a15 : List Int) (a16 : List Int) (a17 : Int) : Option (List Int × (Int × Unit)) :=
  (bcseven_fields_widen_read_c1_l0 F F a0 a1 a2 a3 a4 a5 a6 a7 a8 a9 a10 a11 a12 a13 a14 a15 a16 a17 (IntKind.wrap .i64 (a7 + a8)) (0 : Int) ((((List.length a0) / 4) : Nat) : Int) (0 : Int)).bind fun r1322 =>
  some (r1322.1, (r1322.2.2.2.2.2.2.2.2.2.2.2.2.2.2.2.2.2.1, ()))
def bcseven_fields_lacks_l0S (F : Nat) (rec : List Int → Int → Int → Int → Int → Int → Int → Int → Int → Int → Int → Int → Int → Int → List Int → List Int → Int → Bool → Int → Option (Bool × Unit)) (x0 : List Int) (x1 : Int) (x2 : Int) (x3 : Int) (x4 : Int) (x5 : Int) (x6 : Int) (x7 : Int) (x8 : Int) (x9 : Int) (x10 : Int) (x11 : Int) (x12 : Int) (x13 : Int) (x14 : List Int) (x15 : List Int) (x16 : Int) (x17 : Bool) (x18 : Int) : Option (Bool × Unit) :=
  cond (decide (x18 < x1))
    (cond x17
      (rec x0 x1 x2 x3 x4 x5 x6 x7 x8 x9 x10 x11 x12 x13 x14 x15 x16 true (IntKind.wrap .i64 (x18 + (1 : Int))))
      ((bctable_Anchor F x1 x11 x18).bind fun r1381 =>
      rec x0 x1 x2 x3 x4 x5 x6 x7 x8 x9 x10 x11 x12 x13 x14 x15 x16 (r1381.1 == x16) (IntKind.wrap .i64 (x18 + (1 : Int)))))
    (some (x17, ()))
def bcseven_fields_lacks_l0 (F : Nat) : Nat → List Int → Int → Int → Int → Int → Int → Int → Int → Int → Int → Int → Int → Int → Int → List Int → List Int → Int → Bool → Int → Option (Bool × Unit)
  | 0, _, _, _, _, _, _, _, _, _, _, _, _, _, _, _, _, _, _, _ => none
  | k + 1, x0, x1, x2, x3, x4, x5, x6, x7, x8, x9, x10, x11, x12, x13, x14, x15, x16, x17, x18 => bcseven_fields_lacks_l0S F (bcseven_fields_lacks_l0 F k) x0 x1 x2 x3 x4 x5 x6 x7 x8 x9 x10 x11 x12 x13 x14 x15 x16 x17 x18
def bcseven_fields_lacks (F : Nat) (a0 : List Int) (a1 : Int) (a2 : Int) (a3 : Int) (a4 : Int) (a5 : Int) (a6 : Int) (a7 : Int) (a8 : Int) (a9 : Int) (a10 : Int) (a11 : Int) (a12 : Int) (a13 : Int) (a14 : List Int) (a15 : List Int) (a16 : Int) : Option (Int × Unit) :=
  (bcseven_fields_lacks_l0 F F a0 a1 a2 a3 a4 a5 a6 a7 a8 a9 a10 a11 a12 a13 a14 a15 a16 (a16 == (0 : Int)) (1 : Int)).bind fun r1384 =>
  cond r1384.1
    (some ((1 : Int), ()))
    (some ((0 : Int), ()))
def bcseven_read_l2S (F : Nat) (rec : List Int → List Int → List Int → Int → Int → Int → Int → Int → Int → Int → Int → Int → Int → Int → Int → Int → List Int → List Int → List Int → Int → Int → Int → Int → Int → Option (List Int × (List Int × (List Int × (Int × (Int × (Int × (Int × (Int × (Int × (Int × (Int × (Int × (Int × (Int × (Int × (Int × (List Int × (List Int × (List Int × (Int × (Int × Unit)))))))))))))))))))))) (x0 : List Int) (x1 : List Int) (x2 : List Int) (x3 : Int) (x4 : Int) (x5 : Int) (x6 : Int) (x7 : Int) (x8 : Int) (x9 : Int) (x10 : Int) (x11 : Int) (x12 : Int) (x13 : Int) (x14 : Int) (x15 : Int) (x16 : List Int) (x17 : List Int) (x18 : List Int) (x19 : Int) (x20 : Int) (x21 : Int) (x22 : Int) (x23 : Int) : Option (List Int × (List Int × (List Int × (Int × (Int × (Int × (Int × (Int × (Int × (Int × (Int × (Int × (Int × (Int × (Int × (Int × (List Int × (List Int × (List Int × (Int × (Int × Unit))))))))))))))))))))) :=
  let n1542 : Nat := ((List.length x2) / 4)
  cond (decide (x23 < x22))
    (cond ((decide ((0 : Int) ≤ x23)) && (decide (x23 < ((n1542 : Nat) : Int))))
      ((bcseven_dealt F (x3, (x4, (x5, (x6, (x7, (x8, (x9, (x10, (x11, (x12, ())))))))))) x20).bind fun r1547 =>
      (bcseven_read_c1 F r1547.1 x18 x19).bind fun r1548 =>
      cond ((decide ((0 : Int) ≤ x20)) && (decide (x20 < (4 : Int))))
        (rec x0 x1 (List.set x2 (((Int.toNat x23) * 4) + (Int.toNat x20)) r1548.1) x3 x4 x5 x6 x7 x8 x9 x10 x11 x12 x13 x14 x15 x16 x17 x18 r1548.2.1 x20 x21 x22 (IntKind.wrap .i64 (x23 + (1 : Int))))
        (none))
      (none))
    (some (x0, (x1, (x2, (x3, (x4, (x5, (x6, (x7, (x8, (x9, (x10, (x11, (x12, (x13, (x14, (x15, (x16, (x17, (x18, (x19, (x21, ()))))))))))))))))))))))
def bcseven_read_l2 (F : Nat) : Nat → List Int → List Int → List Int → Int → Int → Int → Int → Int → Int → Int → Int → Int → Int → Int → Int → Int → List Int → List Int → List Int → Int → Int → Int → Int → Int → Option (List Int × (List Int × (List Int × (Int × (Int × (Int × (Int × (Int × (Int × (Int × (Int × (Int × (Int × (Int × (Int × (Int × (List Int × (List Int × (List Int × (Int × (Int × Unit)))))))))))))))))))))
  | 0, _, _, _, _, _, _, _, _, _, _, _, _, _, _, _, _, _, _, _, _, _, _, _, _ => none
  | k + 1, x0, x1, x2, x3, x4, x5, x6, x7, x8, x9, x10, x11, x12, x13, x14, x15, x16, x17, x18, x19, x20, x21, x22, x23 => bcseven_read_l2S F (bcseven_read_l2 F k) x0 x1 x2 x3 x4 x5 x6 x7 x8 x9 x10 x11 x12 x13 x14 x15 x16 x17 x18 x19 x20 x21 x22 x23
def bcseven_read_l0S (F : Nat) (rec : List Int → List Int → List Int → Int → Int → Int → Int → Int → Int → Int → Int → Int → Int → Int → Int → Int → List Int → List Int → List Int → Int → Int → Option (List Int × (List Int × (List Int × (Int × (Int × (Int × (Int × (Int × (Int × (Int × (Int × (Int × (Int × (Int × (Int × (Int × (List Int × (List Int × (List Int × (Int × Unit))))))))))))))))))))) (x0 : List Int) (x1 : List Int) (x2 : List Int) (x3 : Int) (x4 : Int) (x5 : Int) (x6 : Int) (x7 : Int) (x8 : Int) (x9 : Int) (x10 : Int) (x11 : Int) (x12 : Int) (x13 : Int) (x14 : Int) (x15 : Int) (x16 : List Int) (x17 : List Int) (x18 : List Int) (x19 : Int) (x20 : Int) : Option (List Int × (List Int × (List Int × (Int × (Int × (Int × (Int × (Int × (Int × (Int × (Int × (Int × (Int × (Int × (Int × (Int × (List Int × (List Int × (List Int × (Int × Unit)))))))))))))))))))) :=
  cond (decide (x20 < (4 : Int)))
    ((bcseven_read_l2 F F x0 x1 x2 x3 x4 x5 x6 x7 x8 x9 x10 x11 x12 x13 x14 x15 x16 x17 x18 x19 x20 x20 ((((List.length x2) / 4) : Nat) : Int) (0 : Int)).bind fun r1553 =>
    rec r1553.1 r1553.2.1 r1553.2.2.1 r1553.2.2.2.1 r1553.2.2.2.2.1 r1553.2.2.2.2.2.1 r1553.2.2.2.2.2.2.1 r1553.2.2.2.2.2.2.2.1 r1553.2.2.2.2.2.2.2.2.1 r1553.2.2.2.2.2.2.2.2.2.1 r1553.2.2.2.2.2.2.2.2.2.2.1 r1553.2.2.2.2.2.2.2.2.2.2.2.1 r1553.2.2.2.2.2.2.2.2.2.2.2.2.1 r1553.2.2.2.2.2.2.2.2.2.2.2.2.2.1 r1553.2.2.2.2.2.2.2.2.2.2.2.2.2.2.1 r1553.2.2.2.2.2.2.2.2.2.2.2.2.2.2.2.1 r1553.2.2.2.2.2.2.2.2.2.2.2.2.2.2.2.2.1 r1553.2.2.2.2.2.2.2.2.2.2.2.2.2.2.2.2.2.1 r1553.2.2.2.2.2.2.2.2.2.2.2.2.2.2.2.2.2.2.1 r1553.2.2.2.2.2.2.2.2.2.2.2.2.2.2.2.2.2.2.2.1 (IntKind.wrap .i64 (r1553.2.2.2.2.2.2.2.2.2.2.2.2.2.2.2.2.2.2.2.2.1 + (1 : Int))))
    (some (x0, (x1, (x2, (x3, (x4, (x5, (x6, (x7, (x8, (x9, (x10, (x11, (x12, (x13, (x14, (x15, (x16, (x17, (x18, (x19, ())))))))))))))))))))))
def bcseven_read_l0 (F : Nat) : Nat → List Int → List Int → List Int → Int → Int → Int → Int → Int → Int → Int → Int → Int → Int → Int → Int → Int → List Int → List Int → List Int → Int → Int → Option (List Int × (List Int × (List Int × (Int × (Int × (Int × (Int × (Int × (Int × (Int × (Int × (Int × (Int × (Int × (Int × (Int × (List Int × (List Int × (List Int × (Int × Unit))))))))))))))))))))
  | 0, _, _, _, _, _, _, _, _, _, _, _, _, _, _, _, _, _, _, _, _, _ => none
  | k + 1, x0, x1, x2, x3, x4, x5, x6, x7, x8, x9, x10, x11, x12, x13, x14, x15, x16, x17, x18, x19, x20 => bcseven_read_l0S F (bcseven_read_l0 F k) x0 x1 x2 x3 x4 x5 x6 x7 x8 x9 x10 x11 x12 x13 x14 x15 x16 x17 x18 x19 x20
def bcseven_read_l4S (F : Nat) (rec : List Int → List Int → List Int → Int → Int → Int → Int → Int → Int → Int → Int → Int → Int → Int → Int → Int → List Int → List Int → List Int → Int → Int → Option (List Int × (List Int × (List Int × (Int × (Int × (Int × (Int × (Int × (Int × (Int × (Int × (Int × (Int × (Int × (Int × (Int × (List Int × (List Int × (List Int × (Int × Unit))))))))))))))))))))) (x0 : List Int) (x1 : List Int) (x2 : List Int) (x3 : Int) (x4 : Int) (x5 : Int) (x6 : Int) (x7 : Int) (x8 : Int) (x9 : Int) (x10 : Int) (x11 : Int) (x12 : Int) (x13 : Int) (x14 : Int) (x15 : Int) (x16 : List Int) (x17 : List Int) (x18 : List Int) (x19 : Int) (x20 : Int) : Option (List Int × (List Int × (List Int × (Int × (Int × (Int × (Int × (Int × (Int × (Int × (Int × (Int × (Int × (Int × (Int × (Int × (List Int × (List Int × (List Int × (Int × Unit)))))))))))))))))))) :=
  cond (decide (x20 < (16 : Int)))
    ((bcseven_fields_lacks F x2 x3 x4 x5 x6 x7 x8 x9 x10 x11 x12 x13 x14 x15 x16 x17 x20).bind fun r1580 =>
    (bcseven_read_c1 F (IntKind.wrap .i64 (x11 - r1580.1)) x18 x19).bind fun r1582 =>
    cond ((decide ((0 : Int) ≤ x20)) && (decide (x20 < (16 : Int))))
      (rec x0 x1 x2 x3 x4 x5 x6 x7 x8 x9 x10 x11 x12 x13 x14 x15 (List.set x16 (Int.toNat x20) r1582.1) x17 x18 r1582.2.1 (IntKind.wrap .i64 (x20 + (1 : Int))))
      (none))
    (some (x0, (x1, (x2, (x3, (x4, (x5, (x6, (x7, (x8, (x9, (x10, (x11, (x12, (x13, (x14, (x15, (x16, (x17, (x18, (x19, ())))))))))))))))))))))
def bcseven_read_l4 (F : Nat) : Nat → List Int → List Int → List Int → Int → Int → Int → Int → Int → Int → Int → Int → Int → Int → Int → Int → Int → List Int → List Int → List Int → Int → Int → Option (List Int × (List Int × (List Int × (Int × (Int × (Int × (Int × (Int × (Int × (Int × (Int × (Int × (Int × (Int × (Int × (Int × (List Int × (List Int × (List Int × (Int × Unit))))))))))))))))))))
  | 0, _, _, _, _, _, _, _, _, _, _, _, _, _, _, _, _, _, _, _, _, _ => none
  | k + 1, x0, x1, x2, x3, x4, x5, x6, x7, x8, x9, x10, x11, x12, x13, x14, x15, x16, x17, x18, x19, x20 => bcseven_read_l4S F (bcseven_read_l4 F k) x0 x1 x2 x3 x4 x5 x6 x7 x8 x9 x10 x11 x12 x13 x14 x15 x16 x17 x18 x19 x20
def bcseven_read_l6S (F : Nat) (rec : List Int → List Int → List Int → Int → Int → Int → Int → Int → Int → Int → Int → Int → Int → Int → Int → Int → List Int → List Int → List Int → Int → Int → Option (List Int × (List Int × (List Int × (Int × (Int × (Int × (Int × (Int × (Int × (Int × (Int × (Int × (Int × (Int × (Int × (Int × (List Int × (List Int × Unit))))))))))))))))))) (x0 : List Int) (x1 : List Int) (x2 : List Int) (x3 : Int) (x4 : Int) (x5 : Int) (x6 : Int) (x7 : Int) (x8 : Int) (x9 : Int) (x10 : Int) (x11 : Int) (x12 : Int) (x13 : Int) (x14 : Int) (x15 : Int) (x16 : List Int) (x17 : List Int) (x18 : List Int) (x19 : Int) (x20 : Int) : Option (List Int × (List Int × (List Int × (Int × (Int × (Int × (Int × (Int × (Int × (Int × (Int × (Int × (Int × (Int × (Int × (Int × (List Int × (List Int × Unit)))))))))))))))))) :=
  cond (decide (x20 < (16 : Int)))
    (let v1610 : Int := (IntKind.wrap .i64 (x20 + (1 : Int)))
    cond (!(v1610 == (0 : Int)))
      ((bcseven_read_c1 F (IntKind.wrap .i64 (x12 - (IntKind.wrap .i64 (Int.tdiv (1 : Int) v1610)))) x18 x19).bind fun r1614 =>
      cond ((decide ((0 : Int) ≤ x20)) && (decide (x20 < (16 : Int))))
        (rec x0 x1 x2 x3 x4 x5 x6 x7 x8 x9 x10 x11 x12 x13 x14 x15 x16 (List.set x17 (Int.toNat x20) r1614.1) x18 r1614.2.1 v1610)
        (none))
      (none))
    (some (x0, (x1, (x2, (x3, (x4, (x5, (x6, (x7, (x8, (x9, (x10, (x11, (x12, (x13, (x14, (x15, (x16, (x17, ())))))))))))))))))))
def bcseven_read_l6 (F : Nat) : Nat → List Int → List Int → List Int → Int → Int → Int → Int → Int → Int → Int → Int → Int → Int → Int → Int → Int → List Int → List Int → List Int → Int → Int → Option (List Int × (List Int × (List Int × (Int × (Int × (Int × (Int × (Int × (Int × (Int × (Int × (Int × (Int × (Int × (Int × (Int × (List Int × (List Int × Unit))))))))))))))))))
  | 0, _, _, _, _, _, _, _, _, _, _, _, _, _, _, _, _, _, _, _, _, _ => none
  | k + 1, x0, x1, x2, x3, x4, x5, x6, x7, x8, x9, x10, x11, x12, x13, x14, x15, x16, x17, x18, x19, x20 => bcseven_read_l6S F (bcseven_read_l6 F k) x0 x1 x2 x3 x4 x5 x6 x7 x8 x9 x10 x11 x12 x13 x14 x15 x16 x17 x18 x19 x20
def bcseven_read (F : Nat) (a0 : List Int) (a1 : Int) : Option (Int × (Int × (Int × (Int × (Int × (Int × (Int × (Int × (Int × (Int × (Int × (Int × (Int × (List Int × (List Int × (List Int × Unit)))))))))))))))) :=
  (bctable_Modes F).bind fun r1443 =>
  let n1444 : Nat := ((List.length r1443.1) / 10)
  cond ((decide ((0 : Int) ≤ a1)) && (decide (a1 < ((n1444 : Nat) : Int))))
    (let l1447 : List Int := (List.take 10 (List.drop ((Int.toNat a1) * 10) r1443.1))
    let v1448 : Int := (List.getD l1447 0 (0 : Int))
    let v1449 : Int := (List.getD l1447 1 (0 : Int))
    let v1450 : Int := (List.getD l1447 2 (0 : Int))
    let v1451 : Int := (List.getD l1447 3 (0 : Int))
    (bcseven_read_c1 F v1449 a0 (IntKind.wrap .i64 (a1 + (1 : Int)))).bind fun r1459 =>
    (bcseven_read_c1 F v1450 a0 r1459.2.1).bind fun r1460 =>
    (bcseven_read_c1 F v1451 a0 r1460.2.1).bind fun r1461 =>
    let v1462 : Int := (IntKind.wrap .i64 ((2 : Int) * v1448))
    cond ((decide ((0 : Int) ≤ v1462)) && ((decide (v1462 ≤ (1099511627776 : Int))) && (decide (v1462 = v1462))))
      ((bcseven_read_l0 F F bcseven_SixT4 bcseven_SixT4 (List.replicate ((Int.toNat v1462) * 4) (0 : Int)) v1448 v1449 v1450 v1451 (List.getD l1447 4 (0 : Int)) (List.getD l1447 5 (0 : Int)) (List.getD l1447 6 (0 : Int)) (List.getD l1447 7 (0 : Int)) (List.getD l1447 8 (0 : Int)) (List.getD l1447 9 (0 : Int)) r1459.1 r1460.1 r1461.1 bcseven_SixT4 bcseven_SixT4 a0 r1461.2.1 (0 : Int)).bind fun r1557 =>
      (bcseven_fields_widen_read_c1 F r1557.2.2.1 r1557.2.2.2.1 r1557.2.2.2.2.1 r1557.2.2.2.2.2.1 r1557.2.2.2.2.2.2.1 r1557.2.2.2.2.2.2.2.1 r1557.2.2.2.2.2.2.2.2.1 r1557.2.2.2.2.2.2.2.2.2.1 r1557.2.2.2.2.2.2.2.2.2.2.1 r1557.2.2.2.2.2.2.2.2.2.2.2.1 r1557.2.2.2.2.2.2.2.2.2.2.2.2.1 r1557.2.2.2.2.2.2.2.2.2.2.2.2.2.1 r1557.2.2.2.2.2.2.2.2.2.2.2.2.2.2.1 r1557.2.2.2.2.2.2.2.2.2.2.2.2.2.2.2.1 r1557.2.2.2.2.2.2.2.2.2.2.2.2.2.2.2.2.1 r1557.2.2.2.2.2.2.2.2.2.2.2.2.2.2.2.2.2.1 r1557.2.2.2.2.2.2.2.2.2.2.2.2.2.2.2.2.2.2.1 r1557.2.2.2.2.2.2.2.2.2.2.2.2.2.2.2.2.2.2.2.1).bind fun r1560 =>
      (bcseven_read_l4 F F r1557.1 r1557.2.1 r1560.1 r1557.2.2.2.1 r1557.2.2.2.2.1 r1557.2.2.2.2.2.1 r1557.2.2.2.2.2.2.1 r1557.2.2.2.2.2.2.2.1 r1557.2.2.2.2.2.2.2.2.1 r1557.2.2.2.2.2.2.2.2.2.1 r1557.2.2.2.2.2.2.2.2.2.2.1 r1557.2.2.2.2.2.2.2.2.2.2.2.1 r1557.2.2.2.2.2.2.2.2.2.2.2.2.1 r1557.2.2.2.2.2.2.2.2.2.2.2.2.2.1 r1557.2.2.2.2.2.2.2.2.2.2.2.2.2.2.1 r1557.2.2.2.2.2.2.2.2.2.2.2.2.2.2.2.1 r1557.2.2.2.2.2.2.2.2.2.2.2.2.2.2.2.2.1 r1557.2.2.2.2.2.2.2.2.2.2.2.2.2.2.2.2.2.1 r1557.2.2.2.2.2.2.2.2.2.2.2.2.2.2.2.2.2.2.1 r1560.2.1 (0 : Int)).bind fun r1587 =>
      cond (decide ((0 : Int) < r1587.2.2.2.2.2.2.2.2.2.2.2.2.1))
        ((bcseven_read_l6 F F r1587.1 r1587.2.1 r1587.2.2.1 r1587.2.2.2.1 r1587.2.2.2.2.1 r1587.2.2.2.2.2.1 r1587.2.2.2.2.2.2.1 r1587.2.2.2.2.2.2.2.1 r1587.2.2.2.2.2.2.2.2.1 r1587.2.2.2.2.2.2.2.2.2.1 r1587.2.2.2.2.2.2.2.2.2.2.1 r1587.2.2.2.2.2.2.2.2.2.2.2.1 r1587.2.2.2.2.2.2.2.2.2.2.2.2.1 r1587.2.2.2.2.2.2.2.2.2.2.2.2.2.1 r1587.2.2.2.2.2.2.2.2.2.2.2.2.2.2.1 r1587.2.2.2.2.2.2.2.2.2.2.2.2.2.2.2.1 r1587.2.2.2.2.2.2.2.2.2.2.2.2.2.2.2.2.1 r1587.2.2.2.2.2.2.2.2.2.2.2.2.2.2.2.2.2.1 r1587.2.2.2.2.2.2.2.2.2.2.2.2.2.2.2.2.2.2.1 r1587.2.2.2.2.2.2.2.2.2.2.2.2.2.2.2.2.2.2.2.1 (0 : Int)).bind fun r1618 =>
        some (r1618.2.2.2.1, (r1618.2.2.2.2.1, (r1618.2.2.2.2.2.1, (r1618.2.2.2.2.2.2.1, (r1618.2.2.2.2.2.2.2.1, (r1618.2.2.2.2.2.2.2.2.1, (r1618.2.2.2.2.2.2.2.2.2.1, (r1618.2.2.2.2.2.2.2.2.2.2.1, (r1618.2.2.2.2.2.2.2.2.2.2.2.1, (r1618.2.2.2.2.2.2.2.2.2.2.2.2.1, (r1618.2.2.2.2.2.2.2.2.2.2.2.2.2.1, (r1618.2.2.2.2.2.2.2.2.2.2.2.2.2.2.1, (r1618.2.2.2.2.2.2.2.2.2.2.2.2.2.2.2.1, (r1618.2.2.1, (r1618.2.2.2.2.2.2.2.2.2.2.2.2.2.2.2.2.1, (r1618.2.2.2.2.2.2.2.2.2.2.2.2.2.2.2.2.2.1, ())))))))))))))))))
        (some (r1587.2.2.2.1, (r1587.2.2.2.2.1, (r1587.2.2.2.2.2.1, (r1587.2.2.2.2.2.2.1, (r1587.2.2.2.2.2.2.2.1, (r1587.2.2.2.2.2.2.2.2.1, (r1587.2.2.2.2.2.2.2.2.2.1, (r1587.2.2.2.2.2.2.2.2.2.2.1, (r1587.2.2.2.2.2.2.2.2.2.2.2.1, (r1587.2.2.2.2.2.2.2.2.2.2.2.2.1, (r1587.2.2.2.2.2.2.2.2.2.2.2.2.2.1, (r1587.2.2.2.2.2.2.2.2.2.2.2.2.2.2.1, (r1587.2.2.2.2.2.2.2.2.2.2.2.2.2.2.2.1, (r1587.2.2.1, (r1587.2.2.2.2.2.2.2.2.2.2.2.2.2.2.2.2.1, (r1587.2.2.2.2.2.2.2.2.2.2.2.2.2.2.2.2.2.1, ()))))))))))))))))))
      (none))
    (none)
def bcseven_mix (F : Nat) (a0 : Int) (a1 : Int) (a2 : Int) (a3 : Int) : Option (Int × Unit) :=
  (bctable_Weights F a3).bind fun r1671 =>
  let n1672 : Nat := (List.length r1671.1)
  cond ((decide ((0 : Int) ≤ a2)) && (decide (a2 < ((n1672 : Nat) : Int))))
    ((level_Mix F a0 a1 (List.getD r1671.1 (Int.toNat a2) (0 : Int)) (64 : Int) (32 : Int)).bind fun r1687 =>
    some (r1687.1, ()))
    (none)
def bcseven_fields_texel_l0S (F : Nat) (rec : List Int → Int → Int → Int → Int → Int → Int → Int → Int → Int → Int → Int → Int → Int → List Int → List Int → List Int → List Int → List Int → Int → Int → Int → Int → List Int → Int → Option (List Int × (Int × (Int × (Int × (Int × (Int × (Int × (Int × (Int × (Int × (Int × (Int × (Int × (Int × (List Int × (List Int × (List Int × (List Int × (List Int × (Int × (Int × (List Int × Unit))))))))))))))))))))))) (x0 : List Int) (x1 : Int) (x2 : Int) (x3 : Int) (x4 : Int) (x5 : Int) (x6 : Int) (x7 : Int) (x8 : Int) (x9 : Int) (x10 : Int) (x11 : Int) (x12 : Int) (x13 : Int) (x14 : List Int) (x15 : List Int) (x16 : List Int) (x17 : List Int) (x18 : List Int) (x19 : Int) (x20 : Int) (x21 : Int) (x22 : Int) (x23 : List Int) (x24 : Int) : Option (List Int × (Int × (Int × (Int × (Int × (Int × (Int × (Int × (Int × (Int × (Int × (Int × (Int × (Int × (List Int × (List Int × (List Int × (List Int × (List Int × (Int × (Int × (List Int × Unit)))))))))))))))))))))) :=
  cond (decide (x24 < (3 : Int)))
    (let b1824 : Bool := ((decide ((0 : Int) ≤ x24)) && (decide (x24 < (4 : Int))))
    cond b1824
      (cond b1824
        ((bcseven_mix F (List.getD x17 (Int.toNat x24) (0 : Int)) (List.getD x18 (Int.toNat x24) (0 : Int)) x19 x20).bind fun r1828 =>
        cond b1824
          (rec x0 x1 x2 x3 x4 x5 x6 x7 x8 x9 x10 x11 x12 x13 x14 x15 x16 x17 x18 x19 x20 x21 x22 (List.set x23 (Int.toNat x24) r1828.1) (IntKind.wrap .i64 (x24 + (1 : Int))))
          (none))
        (none))
      (none))
    (some (x0, (x1, (x2, (x3, (x4, (x5, (x6, (x7, (x8, (x9, (x10, (x11, (x12, (x13, (x14, (x15, (x16, (x17, (x18, (x21, (x22, (x23, ())))))))))))))))))))))))
def bcseven_fields_texel_l0 (F : Nat) : Nat → List Int → Int → Int → Int → Int → Int → Int → Int → Int → Int → Int → Int → Int → Int → List Int → List Int → List Int → List Int → List Int → Int → Int → Int → Int → List Int → Int → Option (List Int × (Int × (Int × (Int × (Int × (Int × (Int × (Int × (Int × (Int × (Int × (Int × (Int × (Int × (List Int × (List Int × (List Int × (List Int × (List Int × (Int × (Int × (List Int × Unit))))))))))))))))))))))
  | 0, _, _, _, _, _, _, _, _, _, _, _, _, _, _, _, _, _, _, _, _, _, _, _, _, _ => none
  | k + 1, x0, x1, x2, x3, x4, x5, x6, x7, x8, x9, x10, x11, x12, x13, x14, x15, x16, x17, x18, x19, x20, x21, x22, x23, x24 => bcseven_fields_texel_l0S F (bcseven_fields_texel_l0 F k) x0 x1 x2 x3 x4 x5 x6 x7 x8 x9 x10 x11 x12 x13 x14 x15 x16 x17 x18 x19 x20 x21 x22 x23 x24
def bcseven_fields_texel (F : Nat) (a0 : List Int) (a1 : Int) (a2 : Int) (a3 : Int) (a4 : Int) (a5 : Int) (a6 : Int) (a7 : Int) (a8 : Int) (a9 : Int) (a10 : Int) (a11 : Int) (a12 : Int) (a13 : Int) (a14 : List Int) (a15 : List Int) (a16 : Int) : Option (List Int × Unit) :=
  let n1792 : Nat := ((List.length a0) / 4)
  (bctable_Part F a1 a11 a16).bind fun r1793 =>
  let v1794 : Int := (IntKind.wrap .i64 ((2 : Int) * r1793.1))
  let v1795 : Int := (IntKind.wrap .i64 (v1794 + (1 : Int)))
  cond ((decide ((0 : Int) ≤ v1794)) && (decide (v1794 < ((n1792 : Nat) : Int))))
    (let l1798 : List Int := (List.take 4 (List.drop ((Int.toNat v1794) * 4) a0))
    cond ((decide ((0 : Int) ≤ v1795)) && (decide (v1795 < ((n1792 : Nat) : Int))))
      (let l1801 : List Int := (List.take 4 (List.drop ((Int.toNat v1795) * 4) a0))
      let b1802 : Bool := ((decide ((0 : Int) ≤ a16)) && (decide (a16 < (16 : Int))))
      cond b1802
        (let v1804 : Int := (List.getD a14 (Int.toNat a16) (0 : Int))
        cond (decide ((0 : Int) < a10))
          (cond b1802
            (let v1806 : Int := (List.getD a15 (Int.toNat a16) (0 : Int))
            cond (a13 == (1 : Int))
              ((bcseven_fields_texel_l0 F F a0 a1 a2 a3 a4 a5 a6 a7 a8 a9 a10 a11 a12 a13 a14 a15 [(0 : Int), (0 : Int), (0 : Int), (0 : Int)] l1798 l1801 v1806 a10 v1804 a9 [(0 : Int), (0 : Int), (0 : Int), (0 : Int)] (0 : Int)).bind fun r1831 =>
              (bcseven_mix F (List.getD r1831.2.2.2.2.2.2.2.2.2.2.2.2.2.2.2.2.2.1 3 (0 : Int)) (List.getD r1831.2.2.2.2.2.2.2.2.2.2.2.2.2.2.2.2.2.2.1 3 (0 : Int)) r1831.2.2.2.2.2.2.2.2.2.2.2.2.2.2.2.2.2.2.2.1 r1831.2.2.2.2.2.2.2.2.2.2.2.2.2.2.2.2.2.2.2.2.1).bind fun r1835 =>
              let l1836 : List Int := (List.set r1831.2.2.2.2.2.2.2.2.2.2.2.2.2.2.2.2.2.2.2.2.2.1 3 r1835.1)
              cond (decide ((0 : Int) < r1831.2.2.2.2.2.2.2.2.2.2.2.2.1))
                (let v1838 : Int := (IntKind.wrap .i64 (r1831.2.2.2.2.2.2.2.2.2.2.2.2.1 - (1 : Int)))
                let b1839 : Bool := ((decide ((0 : Int) ≤ v1838)) && (decide (v1838 < (4 : Int))))
                cond b1839
                  (cond b1839
                    (some ((List.set (List.set l1836 3 (List.getD l1836 (Int.toNat v1838) (0 : Int))) (Int.toNat v1838) (List.getD l1836 3 (0 : Int))), ()))
                    (none))
                  (none))
                (some (l1836, ())))
              ((bcseven_fields_texel_l0 F F a0 a1 a2 a3 a4 a5 a6 a7 a8 a9 a10 a11 a12 a13 a14 a15 [(0 : Int), (0 : Int), (0 : Int), (0 : Int)] l1798 l1801 v1804 a9 v1806 a10 [(0 : Int), (0 : Int), (0 : Int), (0 : Int)] (0 : Int)).bind fun r1854 =>
              (bcseven_mix F (List.getD r1854.2.2.2.2.2.2.2.2.2.2.2.2.2.2.2.2.2.1 3 (0 : Int)) (List.getD r1854.2.2.2.2.2.2.2.2.2.2.2.2.2.2.2.2.2.2.1 3 (0 : Int)) r1854.2.2.2.2.2.2.2.2.2.2.2.2.2.2.2.2.2.2.2.1 r1854.2.2.2.2.2.2.2.2.2.2.2.2.2.2.2.2.2.2.2.2.1).bind fun r1858 =>
              let l1859 : List Int := (List.set r1854.2.2.2.2.2.2.2.2.2.2.2.2.2.2.2.2.2.2.2.2.2.1 3 r1858.1)
              cond (decide ((0 : Int) < r1854.2.2.2.2.2.2.2.2.2.2.2.2.1))
                (let v1861 : Int := (IntKind.wrap .i64 (r1854.2.2.2.2.2.2.2.2.2.2.2.2.1 - (1 : Int)))
                let b1862 : Bool := ((decide ((0 : Int) ≤ v1861)) && (decide (v1861 < (4 : Int))))
                cond b1862
                  (cond b1862
                    (some ((List.set (List.set l1859 3 (List.getD l1859 (Int.toNat v1861) (0 : Int))) (Int.toNat v1861) (List.getD l1859 3 (0 : Int))), ()))
                    (none))
                  (none))
                (some (l1859, ()))))
            (none))
          (cond (a13 == (1 : Int))
            ((bcseven_fields_texel_l0 F F a0 a1 a2 a3 a4 a5 a6 a7 a8 a9 a10 a11 a12 a13 a14 a15 [(0 : Int), (0 : Int), (0 : Int), (0 : Int)] l1798 l1801 v1804 a9 v1804 a9 [(0 : Int), (0 : Int), (0 : Int), (0 : Int)] (0 : Int)).bind fun r1878 =>
            (bcseven_mix F (List.getD r1878.2.2.2.2.2.2.2.2.2.2.2.2.2.2.2.2.2.1 3 (0 : Int)) (List.getD r1878.2.2.2.2.2.2.2.2.2.2.2.2.2.2.2.2.2.2.1 3 (0 : Int)) r1878.2.2.2.2.2.2.2.2.2.2.2.2.2.2.2.2.2.2.2.1 r1878.2.2.2.2.2.2.2.2.2.2.2.2.2.2.2.2.2.2.2.2.1).bind fun r1882 =>
            let l1883 : List Int := (List.set r1878.2.2.2.2.2.2.2.2.2.2.2.2.2.2.2.2.2.2.2.2.2.1 3 r1882.1)
            cond (decide ((0 : Int) < r1878.2.2.2.2.2.2.2.2.2.2.2.2.1))
              (let v1885 : Int := (IntKind.wrap .i64 (r1878.2.2.2.2.2.2.2.2.2.2.2.2.1 - (1 : Int)))
              let b1886 : Bool := ((decide ((0 : Int) ≤ v1885)) && (decide (v1885 < (4 : Int))))
              cond b1886
                (cond b1886
                  (some ((List.set (List.set l1883 3 (List.getD l1883 (Int.toNat v1885) (0 : Int))) (Int.toNat v1885) (List.getD l1883 3 (0 : Int))), ()))
                  (none))
                (none))
              (some (l1883, ())))
            ((bcseven_fields_texel_l0 F F a0 a1 a2 a3 a4 a5 a6 a7 a8 a9 a10 a11 a12 a13 a14 a15 [(0 : Int), (0 : Int), (0 : Int), (0 : Int)] l1798 l1801 v1804 a9 v1804 a9 [(0 : Int), (0 : Int), (0 : Int), (0 : Int)] (0 : Int)).bind fun r1901 =>
            (bcseven_mix F (List.getD r1901.2.2.2.2.2.2.2.2.2.2.2.2.2.2.2.2.2.1 3 (0 : Int)) (List.getD r1901.2.2.2.2.2.2.2.2.2.2.2.2.2.2.2.2.2.2.1 3 (0 : Int)) r1901.2.2.2.2.2.2.2.2.2.2.2.2.2.2.2.2.2.2.2.1 r1901.2.2.2.2.2.2.2.2.2.2.2.2.2.2.2.2.2.2.2.2.1).bind fun r1905 =>
            let l1906 : List Int := (List.set r1901.2.2.2.2.2.2.2.2.2.2.2.2.2.2.2.2.2.2.2.2.2.1 3 r1905.1)
            cond (decide ((0 : Int) < r1901.2.2.2.2.2.2.2.2.2.2.2.2.1))
              (let v1908 : Int := (IntKind.wrap .i64 (r1901.2.2.2.2.2.2.2.2.2.2.2.2.1 - (1 : Int)))
              let b1909 : Bool := ((decide ((0 : Int) ≤ v1908)) && (decide (v1908 < (4 : Int))))
              cond b1909
                (cond b1909
                  (some ((List.set (List.set l1906 3 (List.getD l1906 (Int.toNat v1908) (0 : Int))) (Int.toNat v1908) (List.getD l1906 3 (0 : Int))), ()))
                  (none))
                (none))
              (some (l1906, ())))))
        (none))
      (none))
    (none)
def bcseven_Decode_l0S (F : Nat) (rec : List Int → List Int → List Int → Int → Int → Int → Int → Int → Int → Int → Int → Int → Int → Int → Int → Int → List Int → List Int → Int → Option (List Int × (List Int × Unit))) (x0 : List Int) (x1 : List Int) (x2 : List Int) (x3 : Int) (x4 : Int) (x5 : Int) (x6 : Int) (x7 : Int) (x8 : Int) (x9 : Int) (x10 : Int) (x11 : Int) (x12 : Int) (x13 : Int) (x14 : Int) (x15 : Int) (x16 : List Int) (x17 : List Int) (x18 : Int) : Option (List Int × (List Int × Unit)) :=
  cond (decide (x18 < (16 : Int)))
    ((bcseven_fields_texel F x2 x3 x4 x5 x6 x7 x8 x9 x10 x11 x12 x13 x14 x15 x16 x17 x18).bind fun r1926 =>
    cond ((decide ((0 : Int) ≤ x18)) && (decide (x18 < (16 : Int))))
      (let n1928 : Nat := ((Int.toNat x18) * 4)
      rec x0 (((List.take n1928 x1) ++ r1926.1) ++ (List.drop (n1928 + 4) x1)) x2 x3 x4 x5 x6 x7 x8 x9 x10 x11 x12 x13 x14 x15 x16 x17 (IntKind.wrap .i64 (x18 + (1 : Int))))
      (none))
    (some (x0, (x1, ())))
def bcseven_Decode_l0 (F : Nat) : Nat → List Int → List Int → List Int → Int → Int → Int → Int → Int → Int → Int → Int → Int → Int → Int → Int → Int → List Int → List Int → Int → Option (List Int × (List Int × Unit))
  | 0, _, _, _, _, _, _, _, _, _, _, _, _, _, _, _, _, _, _, _ => none
  | k + 1, x0, x1, x2, x3, x4, x5, x6, x7, x8, x9, x10, x11, x12, x13, x14, x15, x16, x17, x18 => bcseven_Decode_l0S F (bcseven_Decode_l0 F k) x0 x1 x2 x3 x4 x5 x6 x7 x8 x9 x10 x11 x12 x13 x14 x15 x16 x17 x18
def bcseven_Decode (F : Nat) (a0 : List Int) : Option (List Int × (Int × Unit)) :=
  cond ((((List.length a0) : Nat) : Int) != (16 : Int))
    (some (bcseven_DecodeT283, ((1 : Int), ())))
    ((bcseven_Mode F a0).bind fun r295 =>
    cond (r295.1 == (8 : Int))
      (some (bcseven_DecodeT283, ((0 : Int), ())))
      ((bcseven_read F a0 r295.1).bind fun r1620 =>
      (bcseven_Decode_l0 F F bcseven_DecodeT283 bcseven_DecodeT283 r1620.2.2.2.2.2.2.2.2.2.2.2.2.2.1 r1620.1 r1620.2.1 r1620.2.2.1 r1620.2.2.2.1 r1620.2.2.2.2.1 r1620.2.2.2.2.2.1 r1620.2.2.2.2.2.2.1 r1620.2.2.2.2.2.2.2.1 r1620.2.2.2.2.2.2.2.2.1 r1620.2.2.2.2.2.2.2.2.2.1 r1620.2.2.2.2.2.2.2.2.2.2.1 r1620.2.2.2.2.2.2.2.2.2.2.2.1 r1620.2.2.2.2.2.2.2.2.2.2.2.2.1 r1620.2.2.2.2.2.2.2.2.2.2.2.2.2.2.1 r1620.2.2.2.2.2.2.2.2.2.2.2.2.2.2.2.1 (0 : Int)).bind fun r1931 =>
      some (r1931.2.1, ((0 : Int), ()))))
end Go.AE.Gn
set_option linter.unusedSimpArgs false
set_option linter.unusedVariables false
namespace Go.AE.Gn
open Go Go.AE
def etctwo_LayT192 : List Int := [7, 9, 10, 11, 12, 13, 14]
def etctwo_LayT315 : List Int := [15, 19, 20, 22, 23, 24]
def etctwo_LayT319 : List Int := [25, 26, 27, 28, 29, 31]
def etctwo_LayT520 : List Int := [0, 0, 0, 0, 0, 0, 0, 0, 0, 0, 0, 0, 0, 0, 0, 0]
def etctwo_block_run (F : Nat) (a0 : List Int) (a1 : Bool) (a2 : Bool) (a3 : List Int) (a4 : List Int) (a5 : List Int) (a6 : List Int) (a7 : Bool) (a8 : Int) (a9 : Int) : Option (Int × Unit) :=
  (bits_High F a0 a8 (IntKind.wrap .i64 ((IntKind.wrap .i64 (a9 - a8)) + (1 : Int)))).bind fun r577 =>
  some ((IntKind.wrap .i64 r577.1), ())
def etctwo_DecodeT711 : List Int := [0, 0, 0, 0, 0, 0, 0, 0, 0, 0, 0, 0, 0, 0, 0, 0, 0, 0, 0, 0, 0, 0, 0, 0, 0, 0, 0, 0, 0, 0, 0, 0, 0, 0, 0, 0, 0, 0, 0, 0, 0, 0, 0, 0, 0, 0, 0, 0, 0, 0, 0, 0, 0, 0, 0, 0, 0, 0, 0, 0, 0, 0, 0, 0]
def etctwo_block_get_l0S (F : Nat) (rec : List Int → Bool → Bool → List Int → List Int → List Int → List Int → Bool → Int → List Int → Int → Int → Option (Int × Unit)) (x0 : List Int) (x1 : Bool) (x2 : Bool) (x3 : List Int) (x4 : List Int) (x5 : List Int) (x6 : List Int) (x7 : Bool) (x8 : Int) (x9 : List Int) (x10 : Int) (x11 : Int) : Option (Int × Unit) :=
  cond (decide (x11 < x10))
    (cond ((decide ((0 : Int) ≤ x11)) && (decide (x11 < (((List.length x9) : Nat) : Int))))
      ((bits_High F x0 (List.getD x9 (Int.toNat x11) (0 : Int)) (1 : Int)).bind fun r782 =>
      rec x0 x1 x2 x3 x4 x5 x6 x7 (ior .i64 (ishl .i64 x8 (1 : Int)) (IntKind.wrap .i64 r782.1)) x9 x10 (IntKind.wrap .i64 (x11 + (1 : Int))))
      (none))
    (some (x8, ()))
def etctwo_block_get_l0 (F : Nat) : Nat → List Int → Bool → Bool → List Int → List Int → List Int → List Int → Bool → Int → List Int → Int → Int → Option (Int × Unit)
  | 0, _, _, _, _, _, _, _, _, _, _, _, _ => none
  | k + 1, x0, x1, x2, x3, x4, x5, x6, x7, x8, x9, x10, x11 => etctwo_block_get_l0S F (etctwo_block_get_l0 F k) x0 x1 x2 x3 x4 x5 x6 x7 x8 x9 x10 x11
def etctwo_block_get (F : Nat) (a0 : List Int) (a1 : Bool) (a2 : Bool) (a3 : List Int) (a4 : List Int) (a5 : List Int) (a6 : List Int) (a7 : Bool) (a8 : List Int) : Option (Int × Unit) :=
  (etctwo_block_get_l0 F F a0 a1 a2 a3 a4 a5 a6 a7 (0 : Int) a8 (((List.length a8) : Nat) : Int) (0 : Int)).bind fun r787 =>
  some (r787.1, ())
def etctwo_read (F : Nat) (a0 : List Int) (a1 : Bool) : Option (List Int × (Bool × (Bool × (List Int × (List Int × (List Int × (List Int × (Bool × Unit)))))))) :=
  cond (!a1)
    (cond a1
      ((bits_SetHigh F a0 (30 : Int) (1 : Int) (1 : Int)).bind fun r796 =>
      (etcone_Parts F r796.1).bind fun r798 =>
      some (a0, (r798.1.1, (r798.1.2.1, (r798.1.2.2.1, (r798.1.2.2.2.1, (r798.1.2.2.2.2.1, (r798.1.2.2.2.2.2.1, (true, ())))))))))
      ((etcone_Parts F a0).bind fun r799 =>
      some (a0, (r799.1.1, (r799.1.2.1, (r799.1.2.2.1, (r799.1.2.2.2.1, (r799.1.2.2.2.2.1, (r799.1.2.2.2.2.2.1, (true, ()))))))))))
    ((etctwo_block_get F a0 false false [(0 : Int), (0 : Int), (0 : Int)] [(0 : Int), (0 : Int), (0 : Int)] [(0 : Int), (0 : Int)] etctwo_LayT520 false [(30 : Int)]).bind fun r800 =>
    let b801 : Bool := (r800.1 == (1 : Int))
    cond a1
      ((bits_SetHigh F a0 (30 : Int) (1 : Int) (1 : Int)).bind fun r802 =>
      (etcone_Parts F r802.1).bind fun r804 =>
      some (a0, (r804.1.1, (r804.1.2.1, (r804.1.2.2.1, (r804.1.2.2.2.1, (r804.1.2.2.2.2.1, (r804.1.2.2.2.2.2.1, (b801, ())))))))))
      ((etcone_Parts F a0).bind fun r805 =>
      some (a0, (r805.1.1, (r805.1.2.1, (r805.1.2.2.1, (r805.1.2.2.2.1, (r805.1.2.2.2.2.1, (r805.1.2.2.2.2.2.1, (b801, ()))))))))))
def etctwo_block_kind (F : Nat) (a0 : List Int) (a1 : Bool) (a2 : Bool) (a3 : List Int) (a4 : List Int) (a5 : List Int) (a6 : List Int) (a7 : Bool) : Option (Int × Unit) :=
  (etcone_Bases F (a1, (a2, (a3, (a4, (a5, (a6, ()))))))).bind fun r946 =>
  cond (r946.2.1 == (3 : Int))
    (some ((0 : Int), ()))
    (some ((IntKind.wrap .i64 ((1 : Int) + r946.2.1)), ()))
def etctwo_block_halves_l0S (F : Nat) (rec : List Int → Bool → Bool → List Int → List Int → List Int → List Int → Bool → List Int → List Int → List Int → List Int → Int → Option (List Int × (List Int × Unit))) (x0 : List Int) (x1 : Bool) (x2 : Bool) (x3 : List Int) (x4 : List Int) (x5 : List Int) (x6 : List Int) (x7 : Bool) (x8 : List Int) (x9 : List Int) (x10 : List Int) (x11 : List Int) (x12 : Int) : Option (List Int × (List Int × Unit)) :=
  cond (decide (x12 < (16 : Int)))
    (let b1178 : Bool := ((decide ((0 : Int) ≤ x12)) && (decide (x12 < (16 : Int))))
    cond b1178
      (cond (!x7)
        (cond ((List.getD x11 (Int.toNat x12) (0 : Int)) == (0 : Int))
          ((etcone_Half F x2 x12).bind fun r1182 =>
          cond ((decide ((0 : Int) ≤ r1182.1)) && (decide (r1182.1 < (2 : Int))))
            (cond b1178
              (let n1186 : Nat := ((Int.toNat x12) * 4)
              rec x0 x1 x2 x3 x4 x5 x6 x7 x8 (((List.take n1186 x9) ++ (List.take 4 (List.drop ((Int.toNat r1182.1) * 4) x10))) ++ (List.drop (n1186 + 4) x9)) x10 x11 (IntKind.wrap .i64 (x12 + (1 : Int))))
              (none))
            (none))
          (rec x0 x1 x2 x3 x4 x5 x6 x7 x8 x9 x10 x11 (IntKind.wrap .i64 (x12 + (1 : Int)))))
        (rec x0 x1 x2 x3 x4 x5 x6 x7 x8 x9 x10 x11 (IntKind.wrap .i64 (x12 + (1 : Int)))))
      (none))
    (some (x8, (x9, ())))
def etctwo_block_halves_l0 (F : Nat) : Nat → List Int → Bool → Bool → List Int → List Int → List Int → List Int → Bool → List Int → List Int → List Int → List Int → Int → Option (List Int × (List Int × Unit))
  | 0, _, _, _, _, _, _, _, _, _, _, _, _, _ => none
  | k + 1, x0, x1, x2, x3, x4, x5, x6, x7, x8, x9, x10, x11, x12 => etctwo_block_halves_l0S F (etctwo_block_halves_l0 F k) x0 x1 x2 x3 x4 x5 x6 x7 x8 x9 x10 x11 x12
def etctwo_block_halves (F : Nat) (a0 : List Int) (a1 : Bool) (a2 : Bool) (a3 : List Int) (a4 : List Int) (a5 : List Int) (a6 : List Int) (a7 : Bool) : Option (List Int × Unit) :=
  (etcone_Paint F (a1, (a2, (a3, (a4, (a5, (a6, ()))))))).bind fun r1150 =>
  (etcone_Bases F (a1, (a2, (a3, (a4, (a5, (a6, ()))))))).bind fun r1151 =>
  (etctwo_block_halves_l0 F F a0 a1 a2 a3 a4 a5 a6 a7 etctwo_DecodeT711 r1150.1 r1151.1 a6 (0 : Int)).bind fun r1191 =>
  some (r1191.2.1, ())
def etctwo_wide_l0S (F : Nat) (rec : List Int → List Int → List Int → List Int → Int → Option (List Int × (List Int × Unit))) (x0 : List Int) (x1 : List Int) (x2 : List Int) (x3 : List Int) (x4 : Int) : Option (List Int × (List Int × Unit)) :=
  cond (decide (x4 < (3 : Int)))
    (let b1245 : Bool := ((decide ((0 : Int) ≤ x4)) && (decide (x4 < (3 : Int))))
    cond b1245
      (cond b1245
        ((level_Wide F (List.getD x3 (Int.toNat x4) (0 : Int)) (List.getD x0 (Int.toNat x4) (0 : Int))).bind fun r1249 =>
        cond ((decide ((0 : Int) ≤ x4)) && (decide (x4 < (4 : Int))))
          (rec x0 x1 (List.set x2 (Int.toNat x4) r1249.1) x3 (IntKind.wrap .i64 (x4 + (1 : Int))))
          (none))
        (none))
      (none))
    (some (x1, (x2, ())))
def etctwo_wide_l0 (F : Nat) : Nat → List Int → List Int → List Int → List Int → Int → Option (List Int × (List Int × Unit))
  | 0, _, _, _, _, _ => none
  | k + 1, x0, x1, x2, x3, x4 => etctwo_wide_l0S F (etctwo_wide_l0 F k) x0 x1 x2 x3 x4
def etctwo_wide (F : Nat) (a0 : List Int) (a1 : List Int) : Option (List Int × Unit) :=
  (etctwo_wide_l0 F F a1 [(0 : Int), (0 : Int), (0 : Int), (0 : Int)] [(0 : Int), (0 : Int), (0 : Int), (255 : Int)] a0 (0 : Int)).bind fun r1253 =>
  some (r1253.2.1, ())
def etctwo_plain (F : Nat) (a0 : List Int) : Option (List Int × Unit) :=
  (etctwo_wide F a0 [(4 : Int), (4 : Int), (4 : Int)]).bind fun r1254 =>
  some (r1254.1, ())
def etctwo_DistanceT1261 : List Int := [3, 6, 11, 16, 23, 32, 41, 64]
def etctwo_Distance (F : Nat) (a0 : Int) : Option (Int × Unit) :=
  let v1262 : Int := (iand .i64 a0 (7 : Int))
  cond ((decide ((0 : Int) ≤ v1262)) && (decide (v1262 < (8 : Int))))
    (some ((List.getD etctwo_DistanceT1261 (Int.toNat v1262) (0 : Int)), ()))
    (none)
def etctwo_moved_l0S (F : Nat) (rec : Int → List Int → List Int → Int → Option (List Int × (List Int × Unit))) (x0 : Int) (x1 : List Int) (x2 : List Int) (x3 : Int) : Option (List Int × (List Int × Unit)) :=
  cond (decide (x3 < (3 : Int)))
    (let b1279 : Bool := ((decide ((0 : Int) ≤ x3)) && (decide (x3 < (4 : Int))))
    cond b1279
      ((level_Clamp F (IntKind.wrap .i64 ((List.getD x1 (Int.toNat x3) (0 : Int)) + x0)) (255 : Int)).bind fun r1283 =>
      cond b1279
        (rec x0 (List.set x1 (Int.toNat x3) r1283.1) x2 (IntKind.wrap .i64 (x3 + (1 : Int))))
        (none))
      (none))
    (some (x1, (x2, ())))
def etctwo_moved_l0 (F : Nat) : Nat → Int → List Int → List Int → Int → Option (List Int × (List Int × Unit))
  | 0, _, _, _, _ => none
  | k + 1, x0, x1, x2, x3 => etctwo_moved_l0S F (etctwo_moved_l0 F k) x0 x1 x2 x3
def etctwo_moved (F : Nat) (a0 : List Int) (a1 : Int) : Option (List Int × Unit) :=
  (etctwo_moved_l0 F F a1 a0 [(0 : Int), (0 : Int), (0 : Int), (0 : Int)] (0 : Int)).bind fun r1286 =>
  some (r1286.1, ())
def etctwo_block_four_l0S (F : Nat) (rec : List Int → List Int → List Int → List Int → Int → Option (List Int × (List Int × Unit))) (x0 : List Int) (x1 : List Int) (x2 : List Int) (x3 : List Int) (x4 : Int) : Option (List Int × (List Int × Unit)) :=
  cond (decide (x4 < (16 : Int)))
    (let b1332 : Bool := ((decide ((0 : Int) ≤ x4)) && (decide (x4 < (16 : Int))))
    cond b1332
      (let v1333 : Int := (List.getD x3 (Int.toNat x4) (0 : Int))
      cond ((decide ((0 : Int) ≤ v1333)) && (decide (v1333 < (4 : Int))))
        (cond b1332
          (let n1337 : Nat := ((Int.toNat x4) * 4)
          rec x0 x1 (((List.take n1337 x2) ++ (List.take 4 (List.drop ((Int.toNat v1333) * 4) x0))) ++ (List.drop (n1337 + 4) x2)) x3 (IntKind.wrap .i64 (x4 + (1 : Int))))
          (none))
        (none))
      (none))
    (some (x1, (x2, ())))
def etctwo_block_four_l0 (F : Nat) : Nat → List Int → List Int → List Int → List Int → Int → Option (List Int × (List Int × Unit))
  | 0, _, _, _, _, _ => none
  | k + 1, x0, x1, x2, x3, x4 => etctwo_block_four_l0S F (etctwo_block_four_l0 F k) x0 x1 x2 x3 x4
def etctwo_block_four (F : Nat) (a0 : List Int) (a1 : Bool) (a2 : Bool) (a3 : List Int) (a4 : List Int) (a5 : List Int) (a6 : List Int) (a7 : Bool) (a8 : List Int) : Option (List Int × Unit) :=
  (etctwo_block_four_l0 F F a8 etctwo_DecodeT711 etctwo_DecodeT711 a6 (0 : Int)).bind fun r1340 =>
  some (r1340.2.1, ())
def etctwo_block_ofT (F : Nat) (a0 : List Int) (a1 : Bool) (a2 : Bool) (a3 : List Int) (a4 : List Int) (a5 : List Int) (a6 : List Int) (a7 : Bool) : Option (List Int × Unit) :=
  (etctwo_block_get F a0 a1 a2 a3 a4 a5 a6 a7 [(3 : Int), (4 : Int), (6 : Int), (7 : Int)]).bind fun r1343 =>
  (etctwo_block_run F a0 a1 a2 a3 a4 a5 a6 a7 (8 : Int) (11 : Int)).bind fun r1344 =>
  (etctwo_block_run F a0 a1 a2 a3 a4 a5 a6 a7 (12 : Int) (15 : Int)).bind fun r1345 =>
  (etctwo_plain F [r1343.1, r1344.1, r1345.1]).bind fun r1346 =>
  (etctwo_block_run F a0 a1 a2 a3 a4 a5 a6 a7 (16 : Int) (19 : Int)).bind fun r1347 =>
  (etctwo_block_run F a0 a1 a2 a3 a4 a5 a6 a7 (20 : Int) (23 : Int)).bind fun r1348 =>
  (etctwo_block_run F a0 a1 a2 a3 a4 a5 a6 a7 (24 : Int) (27 : Int)).bind fun r1349 =>
  (etctwo_plain F [r1347.1, r1348.1, r1349.1]).bind fun r1350 =>
  (etctwo_block_get F a0 a1 a2 a3 a4 a5 a6 a7 [(28 : Int), (29 : Int), (31 : Int)]).bind fun r1351 =>
  (etctwo_Distance F r1351.1).bind fun r1352 =>
  (etctwo_moved F r1350.1 r1352.1).bind fun r1353 =>
  (etctwo_moved F r1350.1 (IntKind.wrap .i64 ((0 : Int) - r1352.1))).bind fun r1355 =>
  (etctwo_block_four F a0 a1 a2 a3 a4 a5 a6 a7 (r1346.1 ++ (r1353.1 ++ (r1350.1 ++ r1355.1)))).bind fun r1357 =>
  some (r1357.1, ())
def etctwo_block_ofHT1383 : List Int := [1, 2, 3, 4, 5, 6, 7, 11, 12, 14, 15, 16]
def etctwo_block_ofH (F : Nat) (a0 : List Int) (a1 : Bool) (a2 : Bool) (a3 : List Int) (a4 : List Int) (a5 : List Int) (a6 : List Int) (a7 : Bool) : Option (List Int × Unit) :=
  (etctwo_block_run F a0 a1 a2 a3 a4 a5 a6 a7 (1 : Int) (4 : Int)).bind fun r1409 =>
  (etctwo_block_get F a0 a1 a2 a3 a4 a5 a6 a7 [(5 : Int), (6 : Int), (7 : Int), (11 : Int)]).bind fun r1410 =>
  (etctwo_block_get F a0 a1 a2 a3 a4 a5 a6 a7 [(12 : Int), (14 : Int), (15 : Int), (16 : Int)]).bind fun r1411 =>
  (etctwo_block_run F a0 a1 a2 a3 a4 a5 a6 a7 (17 : Int) (20 : Int)).bind fun r1412 =>
  (etctwo_block_run F a0 a1 a2 a3 a4 a5 a6 a7 (21 : Int) (24 : Int)).bind fun r1413 =>
  (etctwo_block_run F a0 a1 a2 a3 a4 a5 a6 a7 (25 : Int) (28 : Int)).bind fun r1414 =>
  (etctwo_block_get F a0 a1 a2 a3 a4 a5 a6 a7 [(29 : Int), (31 : Int)]).bind fun r1415 =>
  let v1416 : Int := (ishl .i64 r1415.1 (1 : Int))
  (etctwo_block_get F a0 a1 a2 a3 a4 a5 a6 a7 etctwo_block_ofHT1383).bind fun r1417 =>
  (etctwo_block_run F a0 a1 a2 a3 a4 a5 a6 a7 (17 : Int) (28 : Int)).bind fun r1418 =>
  cond (decide (r1418.1 ≤ r1417.1))
    ((etctwo_plain F [r1409.1, r1410.1, r1411.1]).bind fun r1421 =>
    (etctwo_plain F [r1412.1, r1413.1, r1414.1]).bind fun r1422 =>
    (etctwo_Distance F (IntKind.wrap .i64 (v1416 + (1 : Int)))).bind fun r1423 =>
    (etctwo_moved F r1421.1 r1423.1).bind fun r1424 =>
    let v1425 : Int := (IntKind.wrap .i64 ((0 : Int) - r1423.1))
    (etctwo_moved F r1421.1 v1425).bind fun r1426 =>
    (etctwo_moved F r1422.1 r1423.1).bind fun r1427 =>
    (etctwo_moved F r1422.1 v1425).bind fun r1428 =>
    (etctwo_block_four F a0 a1 a2 a3 a4 a5 a6 a7 (r1424.1 ++ (r1426.1 ++ (r1427.1 ++ r1428.1)))).bind fun r1430 =>
    some (r1430.1, ()))
    ((etctwo_plain F [r1409.1, r1410.1, r1411.1]).bind fun r1431 =>
    (etctwo_plain F [r1412.1, r1413.1, r1414.1]).bind fun r1432 =>
    (etctwo_Distance F v1416).bind fun r1433 =>
    (etctwo_moved F r1431.1 r1433.1).bind fun r1434 =>
    let v1435 : Int := (IntKind.wrap .i64 ((0 : Int) - r1433.1))
    (etctwo_moved F r1431.1 v1435).bind fun r1436 =>
    (etctwo_moved F r1432.1 r1433.1).bind fun r1437 =>
    (etctwo_moved F r1432.1 v1435).bind fun r1438 =>
    (etctwo_block_four F a0 a1 a2 a3 a4 a5 a6 a7 (r1434.1 ++ (r1436.1 ++ (r1437.1 ++ r1438.1)))).bind fun r1440 =>
    some (r1440.1, ()))
def etctwo_plane (F : Nat) (a0 : List Int) : Option (List Int × Unit) :=
  (etctwo_wide F a0 [(6 : Int), (7 : Int), (6 : Int)]).bind fun r1467 =>
  some (r1467.1, ())
def etctwo_Plane_l2S (F : Nat) (rec : List Int → List Int → List Int → List Int → List Int → Int → Int → Int → Option (List Int × (List Int × (List Int × (List Int × (List Int × (Int × Unit))))))) (x0 : List Int) (x1 : List Int) (x2 : List Int) (x3 : List Int) (x4 : List Int) (x5 : Int) (x6 : Int) (x7 : Int) : Option (List Int × (List Int × (List Int × (List Int × (List Int × (Int × Unit)))))) :=
  cond (decide (x7 < (3 : Int)))
    (let b1606 : Bool := ((decide ((0 : Int) ≤ x7)) && (decide (x7 < (4 : Int))))
    cond b1606
      (cond b1606
        (let v1609 : Int := (List.getD x0 (Int.toNat x7) (0 : Int))
        cond b1606
          (cond b1606
            (cond b1606
              ((level_Clamp F (ishr .i64 (IntKind.wrap .i64 ((IntKind.wrap .i64 ((IntKind.wrap .i64 ((IntKind.wrap .i64 ((Int.tmod x5 (4 : Int)) * (IntKind.wrap .i64 ((List.getD x1 (Int.toNat x7) (0 : Int)) - v1609)))) + (IntKind.wrap .i64 ((IntKind.wrap .i64 (Int.tdiv x5 (4 : Int))) * (IntKind.wrap .i64 ((List.getD x2 (Int.toNat x7) (0 : Int)) - v1609)))))) + (IntKind.wrap .i64 ((4 : Int) * v1609)))) + (2 : Int))) (2 : Int)) (255 : Int)).bind fun r1621 =>
              cond ((decide ((0 : Int) ≤ x5)) && (decide (x5 < (16 : Int))))
                (cond b1606
                  (rec x0 x1 x2 x3 (List.set x4 (((Int.toNat x5) * 4) + (Int.toNat x7)) r1621.1) x5 x6 (IntKind.wrap .i64 (x7 + (1 : Int))))
                  (none))
                (none))
              (none))
            (none))
          (none))
        (none))
      (none))
    (some (x0, (x1, (x2, (x3, (x4, (x6, ())))))))
def etctwo_Plane_l2 (F : Nat) : Nat → List Int → List Int → List Int → List Int → List Int → Int → Int → Int → Option (List Int × (List Int × (List Int × (List Int × (List Int × (Int × Unit))))))
  | 0, _, _, _, _, _, _, _, _ => none
  | k + 1, x0, x1, x2, x3, x4, x5, x6, x7 => etctwo_Plane_l2S F (etctwo_Plane_l2 F k) x0 x1 x2 x3 x4 x5 x6 x7
def etctwo_Plane_l0S (F : Nat) (rec : List Int → List Int → List Int → List Int → List Int → Int → Option (List Int × (List Int × Unit))) (x0 : List Int) (x1 : List Int) (x2 : List Int) (x3 : List Int) (x4 : List Int) (x5 : Int) : Option (List Int × (List Int × Unit)) :=
  cond (decide (x5 < (16 : Int)))
    (cond ((decide ((0 : Int) ≤ x5)) && (decide (x5 < (16 : Int))))
      ((etctwo_Plane_l2 F F x0 x1 x2 x3 (List.set x4 (3 + ((Int.toNat x5) * 4)) (255 : Int)) x5 x5 (0 : Int)).bind fun r1627 =>
      rec r1627.1 r1627.2.1 r1627.2.2.1 r1627.2.2.2.1 r1627.2.2.2.2.1 (IntKind.wrap .i64 (r1627.2.2.2.2.2.1 + (1 : Int))))
      (none))
    (some (x3, (x4, ())))
def etctwo_Plane_l0 (F : Nat) : Nat → List Int → List Int → List Int → List Int → List Int → Int → Option (List Int × (List Int × Unit))
  | 0, _, _, _, _, _, _ => none
  | k + 1, x0, x1, x2, x3, x4, x5 => etctwo_Plane_l0S F (etctwo_Plane_l0 F k) x0 x1 x2 x3 x4 x5
def etctwo_Plane (F : Nat) (a0 : List Int) (a1 : List Int) (a2 : List Int) : Option (List Int × Unit) :=
  (etctwo_Plane_l0 F F a0 a1 a2 etctwo_DecodeT711 etctwo_DecodeT711 (0 : Int)).bind fun r1629 =>
  some (r1629.2.1, ())
def etctwo_block_planar (F : Nat) (a0 : List Int) (a1 : Bool) (a2 : Bool) (a3 : List Int) (a4 : List Int) (a5 : List Int) (a6 : List Int) (a7 : Bool) : Option (List Int × Unit) :=
  (etctwo_block_run F a0 a1 a2 a3 a4 a5 a6 a7 (1 : Int) (6 : Int)).bind fun r1632 =>
  (etctwo_block_get F a0 a1 a2 a3 a4 a5 a6 a7 etctwo_LayT192).bind fun r1633 =>
  (etctwo_block_get F a0 a1 a2 a3 a4 a5 a6 a7 etctwo_LayT315).bind fun r1634 =>
  (etctwo_block_get F a0 a1 a2 a3 a4 a5 a6 a7 etctwo_LayT319).bind fun r1635 =>
  (etctwo_block_run F a0 a1 a2 a3 a4 a5 a6 a7 (32 : Int) (38 : Int)).bind fun r1636 =>
  (etctwo_block_run F a0 a1 a2 a3 a4 a5 a6 a7 (39 : Int) (44 : Int)).bind fun r1637 =>
  (etctwo_block_run F a0 a1 a2 a3 a4 a5 a6 a7 (45 : Int) (50 : Int)).bind fun r1638 =>
  (etctwo_block_run F a0 a1 a2 a3 a4 a5 a6 a7 (51 : Int) (57 : Int)).bind fun r1639 =>
  (etctwo_block_run F a0 a1 a2 a3 a4 a5 a6 a7 (58 : Int) (63 : Int)).bind fun r1640 =>
  (etctwo_plane F [r1632.1, r1633.1, r1634.1]).bind fun r1641 =>
  (etctwo_plane F [r1635.1, r1636.1, r1637.1]).bind fun r1642 =>
  (etctwo_plane F [r1638.1, r1639.1, r1640.1]).bind fun r1643 =>
  (etctwo_Plane F r1641.1 r1642.1 r1643.1).bind fun r1644 =>
  some (r1644.1, ())
def etctwo_Decode_l0S (F : Nat) (rec : List Int → List Int → Bool → Bool → List Int → List Int → List Int → List Int → Bool → Int → List Int → List Int → Int → Option (List Int × (List Int × Unit))) (x0 : List Int) (x1 : List Int) (x2 : Bool) (x3 : Bool) (x4 : List Int) (x5 : List Int) (x6 : List Int) (x7 : List Int) (x8 : Bool) (x9 : Int) (x10 : List Int) (x11 : List Int) (x12 : Int) : Option (List Int × (List Int × Unit)) :=
  cond (decide (x12 < (16 : Int)))
    (let b1214 : Bool := ((decide ((0 : Int) ≤ x12)) && (decide (x12 < (16 : Int))))
    cond b1214
      (cond (!x8)
        (cond (x9 != (3 : Int))
          (cond ((List.getD x11 (Int.toNat x12) (0 : Int)) == (2 : Int))
            (cond b1214
              (let n1219 : Nat := ((Int.toNat x12) * 4)
              rec x0 x1 x2 x3 x4 x5 x6 x7 x8 x9 (((List.take n1219 x10) ++ [(0 : Int), (0 : Int), (0 : Int), (0 : Int)]) ++ (List.drop (n1219 + 4) x10)) x11 (IntKind.wrap .i64 (x12 + (1 : Int))))
              (none))
            (rec x0 x1 x2 x3 x4 x5 x6 x7 x8 x9 x10 x11 (IntKind.wrap .i64 (x12 + (1 : Int)))))
          (rec x0 x1 x2 x3 x4 x5 x6 x7 x8 x9 x10 x11 (IntKind.wrap .i64 (x12 + (1 : Int)))))
        (rec x0 x1 x2 x3 x4 x5 x6 x7 x8 x9 x10 x11 (IntKind.wrap .i64 (x12 + (1 : Int)))))
      (none))
    (some (x0, (x10, ())))
def etctwo_Decode_l0 (F : Nat) : Nat → List Int → List Int → Bool → Bool → List Int → List Int → List Int → List Int → Bool → Int → List Int → List Int → Int → Option (List Int × (List Int × Unit))
  | 0, _, _, _, _, _, _, _, _, _, _, _, _, _ => none
  | k + 1, x0, x1, x2, x3, x4, x5, x6, x7, x8, x9, x10, x11, x12 => etctwo_Decode_l0S F (etctwo_Decode_l0 F k) x0 x1 x2 x3 x4 x5 x6 x7 x8 x9 x10 x11 x12
def etctwo_Decode (F : Nat) (a0 : List Int) (a1 : Bool) : Option (List Int × (Int × Unit)) :=
  cond ((((List.length a0) : Nat) : Int) != (8 : Int))
    (some (etctwo_DecodeT711, ((1 : Int), ())))
    ((etctwo_read F a0 a1).bind fun r806 =>
    (etctwo_block_kind F r806.1 r806.2.1 r806.2.2.1 r806.2.2.2.1 r806.2.2.2.2.1 r806.2.2.2.2.2.1 r806.2.2.2.2.2.2.1 r806.2.2.2.2.2.2.2.1).bind fun r949 =>
    cond (r949.1 == (0 : Int))
      ((etctwo_block_halves F r806.1 r806.2.1 r806.2.2.1 r806.2.2.2.1 r806.2.2.2.2.1 r806.2.2.2.2.2.1 r806.2.2.2.2.2.2.1 r806.2.2.2.2.2.2.2.1).bind fun r1192 =>
      (etctwo_Decode_l0 F F etctwo_DecodeT711 r806.1 r806.2.1 r806.2.2.1 r806.2.2.2.1 r806.2.2.2.2.1 r806.2.2.2.2.2.1 r806.2.2.2.2.2.2.1 r806.2.2.2.2.2.2.2.1 r949.1 r1192.1 r806.2.2.2.2.2.2.1 (0 : Int)).bind fun r1225 =>
      some (r1225.2.1, ((0 : Int), ())))
      (cond (r949.1 == (1 : Int))
        ((etctwo_block_ofT F r806.1 r806.2.1 r806.2.2.1 r806.2.2.2.1 r806.2.2.2.2.1 r806.2.2.2.2.2.1 r806.2.2.2.2.2.2.1 r806.2.2.2.2.2.2.2.1).bind fun r1358 =>
        (etctwo_Decode_l0 F F etctwo_DecodeT711 r806.1 r806.2.1 r806.2.2.1 r806.2.2.2.1 r806.2.2.2.2.1 r806.2.2.2.2.2.1 r806.2.2.2.2.2.2.1 r806.2.2.2.2.2.2.2.1 r949.1 r1358.1 r806.2.2.2.2.2.2.1 (0 : Int)).bind fun r1372 =>
        some (r1372.2.1, ((0 : Int), ())))
        (cond (r949.1 == (2 : Int))
          ((etctwo_block_ofH F r806.1 r806.2.1 r806.2.2.1 r806.2.2.2.1 r806.2.2.2.2.1 r806.2.2.2.2.2.1 r806.2.2.2.2.2.2.1 r806.2.2.2.2.2.2.2.1).bind fun r1441 =>
          (etctwo_Decode_l0 F F etctwo_DecodeT711 r806.1 r806.2.1 r806.2.2.1 r806.2.2.2.1 r806.2.2.2.2.1 r806.2.2.2.2.2.1 r806.2.2.2.2.2.2.1 r806.2.2.2.2.2.2.2.1 r949.1 r1441.1 r806.2.2.2.2.2.2.1 (0 : Int)).bind fun r1455 =>
          some (r1455.2.1, ((0 : Int), ())))
          (cond (r949.1 == (3 : Int))
            ((etctwo_block_planar F r806.1 r806.2.1 r806.2.2.1 r806.2.2.2.1 r806.2.2.2.2.1 r806.2.2.2.2.2.1 r806.2.2.2.2.2.2.1 r806.2.2.2.2.2.2.2.1).bind fun r1645 =>
            (etctwo_Decode_l0 F F etctwo_DecodeT711 r806.1 r806.2.1 r806.2.2.1 r806.2.2.2.1 r806.2.2.2.2.1 r806.2.2.2.2.2.1 r806.2.2.2.2.2.2.1 r806.2.2.2.2.2.2.2.1 r949.1 r1645.1 r806.2.2.2.2.2.2.1 (0 : Int)).bind fun r1659 =>
            some (r1659.2.1, ((0 : Int), ())))
            (none)))))
end Go.AE.Gn
set_option linter.unusedSimpArgs false
set_option linter.unusedVariables false
namespace Go.AE.Gn
open Go Go.AE
def eac_at (F : Nat) (a0 : Int) : Option (Int × Unit) :=
  some ((IntKind.wrap .i64 ((16 : Int) + (IntKind.wrap .i64 ((3 : Int) * (IntKind.wrap .i64 ((IntKind.wrap .i64 ((4 : Int) * (Int.tmod a0 (4 : Int)))) + (IntKind.wrap .i64 (Int.tdiv a0 (4 : Int))))))))), ())
def eac_JoinT0 : List Int := [0, 0, 0, 0, 0, 0, 0, 0]
def eac_Parts_c1 (F : Nat) (a0 : Int) (a1 : Int) (a2 : List Int) : Option (Int × Unit) :=
  (bits_High F a2 a0 a1).bind fun r85 =>
  some ((IntKind.wrap .i64 r85.1), ())
def eac_PartsT1 : List Int := [0, 0, 0, 0, 0, 0, 0, 0, 0, 0, 0, 0, 0, 0, 0, 0]
def eac_Parts_l0S (F : Nat) (rec : List Int → List Int → List Int → Int → Option (List Int × (List Int × (List Int × Unit)))) (x0 : List Int) (x1 : List Int) (x2 : List Int) (x3 : Int) : Option (List Int × (List Int × (List Int × Unit))) :=
  cond (decide (x3 < (16 : Int)))
    ((eac_at F x3).bind fun r100 =>
    (eac_Parts_c1 F r100.1 (3 : Int) x2).bind fun r101 =>
    cond ((decide ((0 : Int) ≤ x3)) && (decide (x3 < (16 : Int))))
      (rec x0 (List.set x1 (Int.toNat x3) r101.1) x2 (IntKind.wrap .i64 (x3 + (1 : Int))))
      (none))
    (some (x0, (x1, (x2, ()))))
def eac_Parts_l0 (F : Nat) : Nat → List Int → List Int → List Int → Int → Option (List Int × (List Int × (List Int × Unit)))
  | 0, _, _, _, _ => none
  | k + 1, x0, x1, x2, x3 => eac_Parts_l0S F (eac_Parts_l0 F k) x0 x1 x2 x3
def eac_Parts (F : Nat) (a0 : List Int) : Option (Int × (Int × (Int × (List Int × (Int × Unit))))) :=
  cond ((((List.length a0) : Nat) : Int) != (8 : Int))
    (some ((0 : Int), ((0 : Int), ((0 : Int), (eac_PartsT1, ((1 : Int), ()))))))
    ((eac_Parts_l0 F F eac_PartsT1 eac_PartsT1 a0 (0 : Int)).bind fun r106 =>
    (eac_Parts_c1 F (0 : Int) (8 : Int) r106.2.2.1).bind fun r108 =>
    (eac_Parts_c1 F (8 : Int) (4 : Int) r106.2.2.1).bind fun r109 =>
    (eac_Parts_c1 F (12 : Int) (4 : Int) r106.2.2.1).bind fun r110 =>
    some (r108.1, (r109.1, (r110.1, (r106.2.1, ((0 : Int), ()))))))
def eac_TableT18 : List Int := [-3, -6, -9, -15, 2, 5, 8, 14, -3, -7, -10, -13, 2, 6, 9, 12, -2, -5, -8, -13, 1, 4, 7, 12, -2, -4, -6, -13, 1, 3, 5, 12, -3, -6, -8, -12, 2, 5, 7, 11, -3, -7, -9, -11, 2, 6, 8, 10, -4, -7, -8, -11, 3, 6, 7, 10, -3, -5, -8, -11, 2, 4, 7, 10, -2, -6, -8, -10, 1, 5, 7, 9, -2, -5, -8, -10, 1, 4, 7, 9, -2, -4, -8, -10, 1, 3, 7, 9, -2, -5, -7, -10, 1, 4, 6, 9, -3, -4, -7, -10, 2, 3, 6, 9, -1, -2, -3, -10, 0, 1, 2, 9, -4, -6, -8, -9, 3, 5, 7, 8, -3, -5, -7, -9, 2, 4, 6, 8]
def eac_Table (F : Nat) (a0 : Int) : Option (List Int × Unit) :=
  let v118 : Int := (iand .i64 a0 (15 : Int))
  cond ((decide ((0 : Int) ≤ v118)) && (decide (v118 < (16 : Int))))
    (let l121 : List Int := (List.take 8 (List.drop ((Int.toNat v118) * 8) eac_TableT18))
    let l122 : List Int := (if ((0 = 0) ∧ (8 = 8)) then l121 else (((List.take 0 eac_JoinT0) ++ l121) ++ (List.drop 8 eac_JoinT0)))
    some ((if ((0 = 0) ∧ (8 = 8)) then l122 else (List.take 8 (List.drop 0 l122))), ()))
    (none)
def eac_Value (F : Nat) (a0 : Int) (a1 : Int) (a2 : Int) (a3 : Bool) : Option (Int × Unit) :=
  cond (!a3)
    ((level_Clamp F (IntKind.wrap .i64 (a0 + (IntKind.wrap .i64 (a2 * a1)))) (255 : Int)).bind fun r129 =>
    some (r129.1, ()))
    (cond (a1 == (0 : Int))
      ((level_Clamp F (IntKind.wrap .i64 ((IntKind.wrap .i64 ((IntKind.wrap .i64 ((8 : Int) * a0)) + (4 : Int))) + a2)) (2047 : Int)).bind fun r134 =>
      some (r134.1, ()))
      ((level_Clamp F (IntKind.wrap .i64 ((IntKind.wrap .i64 ((8 : Int) * (IntKind.wrap .i64 (a0 + (IntKind.wrap .i64 (a2 * a1)))))) + (4 : Int))) (2047 : Int)).bind fun r139 =>
      some (r139.1, ())))
def eac_Decode_l0S (F : Nat) (rec : Bool → List Int → Int → Int → List Int → List Int → List Int → Int → Option (List Int × (List Int × Unit))) (x0 : Bool) (x1 : List Int) (x2 : Int) (x3 : Int) (x4 : List Int) (x5 : List Int) (x6 : List Int) (x7 : Int) : Option (List Int × (List Int × Unit)) :=
  cond (decide (x7 < (16 : Int)))
    (let b167 : Bool := ((decide ((0 : Int) ≤ x7)) && (decide (x7 < (16 : Int))))
    cond b167
      (let v168 : Int := (List.getD x6 (Int.toNat x7) (0 : Int))
      cond ((decide ((0 : Int) ≤ v168)) && (decide (v168 < (8 : Int))))
        ((eac_Value F x2 x3 (List.getD x5 (Int.toNat v168) (0 : Int)) x0).bind fun r172 =>
        cond b167
          (rec x0 x1 x2 x3 (List.set x4 (Int.toNat x7) r172.1) x5 x6 (IntKind.wrap .i64 (x7 + (1 : Int))))
          (none))
        (none))
      (none))
    (some (x1, (x4, ())))
def eac_Decode_l0 (F : Nat) : Nat → Bool → List Int → Int → Int → List Int → List Int → List Int → Int → Option (List Int × (List Int × Unit))
  | 0, _, _, _, _, _, _, _, _ => none
  | k + 1, x0, x1, x2, x3, x4, x5, x6, x7 => eac_Decode_l0S F (eac_Decode_l0 F k) x0 x1 x2 x3 x4 x5 x6 x7
def eac_Decode (F : Nat) (a0 : List Int) (a1 : Bool) : Option (List Int × (Int × Unit)) :=
  (eac_Parts F a0).bind fun r141 =>
  let l142 : List Int := (if ((0 = 0) ∧ (16 = 16)) then r141.2.2.2.1 else (((List.take 0 eac_PartsT1) ++ r141.2.2.2.1) ++ (List.drop 16 eac_PartsT1)))
  cond (r141.2.2.2.2.1 != (0 : Int))
    (let l144 : List Int := (if ((0 = 0) ∧ (16 = 16)) then l142 else (List.take 16 (List.drop 0 l142)))
    let l145 : List Int := (if ((0 = 0) ∧ (16 = 16)) then l144 else (((List.take 0 eac_PartsT1) ++ l144) ++ (List.drop 16 eac_PartsT1)))
    some ((if ((0 = 0) ∧ (16 = 16)) then l145 else (List.take 16 (List.drop 0 l145))), (r141.2.2.2.2.1, ())))
    ((eac_Table F r141.2.2.1).bind fun r147 =>
    (eac_Decode_l0 F F a1 eac_PartsT1 r141.1 r141.2.1 l142 (if ((0 = 0) ∧ (8 = 8)) then r147.1 else (((List.take 0 eac_JoinT0) ++ r147.1) ++ (List.drop 8 eac_JoinT0))) (if ((0 = 0) ∧ (16 = 16)) then l142 else (List.take 16 (List.drop 0 l142))) (0 : Int)).bind fun r176 =>
    let l177 : List Int := (if ((0 = 0) ∧ (16 = 16)) then r176.2.1 else (List.take 16 (List.drop 0 r176.2.1)))
    let l178 : List Int := (if ((0 = 0) ∧ (16 = 16)) then l177 else (((List.take 0 r176.1) ++ l177) ++ (List.drop 16 r176.1)))
    some ((if ((0 = 0) ∧ (16 = 16)) then l178 else (List.take 16 (List.drop 0 l178))), ((0 : Int), ())))
end Go.AE.Gn
set_option linter.unusedSimpArgs false
set_option linter.unusedVariables false
namespace Go.AE.Gn
open Go Go.AE
def format_Of (F : Nat) (a0 : Int) : Option ((Int × (Int × (Bool × Unit))) × (Int × Unit)) :=
  cond (a0 == (1 : Int))
    (some (((8 : Int), ((7 : Int), (false, ()))), ((0 : Int), ())))
    (cond (a0 == (7 : Int))
      (some (((8 : Int), ((7 : Int), (false, ()))), ((0 : Int), ())))
      (cond (a0 == (8 : Int))
        (some (((8 : Int), ((7 : Int), (false, ()))), ((0 : Int), ())))
        (cond (a0 == (2 : Int))
          (some (((16 : Int), ((15 : Int), (false, ()))), ((0 : Int), ())))
          (cond (a0 == (3 : Int))
            (some (((16 : Int), ((15 : Int), (false, ()))), ((0 : Int), ())))
            (cond (a0 == (6 : Int))
              (some (((16 : Int), ((15 : Int), (false, ()))), ((0 : Int), ())))
              (cond (a0 == (10 : Int))
                (some (((16 : Int), ((15 : Int), (false, ()))), ((0 : Int), ())))
                (cond (a0 == (9 : Int))
                  (some (((8 : Int), ((15 : Int), (false, ()))), ((0 : Int), ())))
                  (cond (a0 == (4 : Int))
                    (some (((8 : Int), ((1 : Int), ((a0 == (11 : Int)), ()))), ((0 : Int), ())))
                    (let b12 : Bool := (a0 == (11 : Int))
                    cond b12
                      (some (((8 : Int), ((1 : Int), (b12, ()))), ((0 : Int), ())))
                      (cond (a0 == (5 : Int))
                        (some (((16 : Int), ((3 : Int), ((a0 == (12 : Int)), ()))), ((0 : Int), ())))
                        (let b15 : Bool := (a0 == (12 : Int))
                        cond b15
                          (some (((16 : Int), ((3 : Int), (b15, ()))), ((0 : Int), ())))
                          (some (((0 : Int), ((0 : Int), (false, ()))), ((5 : Int), ()))))))))))))))
def law13_awakeT17 : List Int := [9, 9, 0, 0, 0, 0, 0, 0, 255, 255, 0, 0, 0, 0, 0, 0]
def format_DecodeT19 : List Int := [0, 0, 0, 0, 0, 0, 0, 0, 0, 0, 0, 0, 0, 0, 0, 0, 0, 0, 0, 0, 0, 0, 0, 0, 0, 0, 0, 0, 0, 0, 0, 0, 0, 0, 0, 0, 0, 0, 0, 0, 0, 0, 0, 0, 0, 0, 0, 0, 0, 0, 0, 0, 0, 0, 0, 0, 0, 0, 0, 0, 0, 0, 0, 0]
def format_decodeT239 : List Int := [0, 0, 0, 0, 0, 0, 0, 0, 0, 0, 0, 0, 0, 0, 0, 0]
def format_plain (F : Nat) (a0 : List Int) (a1 : Int) : Option (List Int × Unit) :=
  some (a0, ())
def format_with_l0S (F : Nat) (rec : Int → List Int → List Int → List Int → Int → Option (List Int × (List Int × Unit))) (x0 : Int) (x1 : List Int) (x2 : List Int) (x3 : List Int) (x4 : Int) : Option (List Int × (List Int × Unit)) :=
  cond (decide (x4 < (16 : Int)))
    (let b344 : Bool := ((decide ((0 : Int) ≤ x4)) && (decide (x4 < (16 : Int))))
    cond b344
      (cond b344
        (cond ((decide ((0 : Int) ≤ x0)) && (decide (x0 < (4 : Int))))
          (rec x0 (List.set x1 (((Int.toNat x4) * 4) + (Int.toNat x0)) (List.getD x3 (Int.toNat x4) (0 : Int))) x2 x3 (IntKind.wrap .i64 (x4 + (1 : Int))))
          (none))
        (none))
      (none))
    (some (x1, (x2, ())))
def format_with_l0 (F : Nat) : Nat → Int → List Int → List Int → List Int → Int → Option (List Int × (List Int × Unit))
  | 0, _, _, _, _, _ => none
  | k + 1, x0, x1, x2, x3, x4 => format_with_l0S F (format_with_l0 F k) x0 x1 x2 x3 x4
def format_with (F : Nat) (a0 : List Int) (a1 : Int) (a2 : List Int) (a3 : Int) : Option (List Int × Unit) :=
  (format_with_l0 F F a1 a0 format_DecodeT19 a2 (0 : Int)).bind fun r351 =>
  some (r351.1, ())
def format_decode_c1 (F : Nat) (a0 : List Int) (a1 : Int) (a2 : Int) (a3 : Bool) : Option (List Int × (Int × Unit)) :=
  cond a3
    ((eac_Decode F a0 true).bind fun r598 =>
    some (r598.1, (r598.2.1, ())))
    ((bcfour_Decode F a0).bind fun r599 =>
    some (r599.1, (r599.2.1, ())))
def format_decode_c2 (F : Nat) (a0 : List Int) (a1 : Int) (a2 : List Int) (a3 : Int) (a4 : Int) (a5 : Bool) : Option (List Int × Unit) :=
  (format_decode_c1 F a2 a3 a4 a5).bind fun r603 =>
  (format_with F a0 a1 r603.1 r603.2.1).bind fun r604 =>
  some (r604.1, ())
def format_blank_l0S (F : Nat) (rec : Bool → List Int → List Int → Int → Option (List Int × (List Int × Unit))) (x0 : Bool) (x1 : List Int) (x2 : List Int) (x3 : Int) : Option (List Int × (List Int × Unit)) :=
  cond (decide (x3 < (16 : Int)))
    (let b618 : Bool := ((decide ((0 : Int) ≤ x3)) && (decide (x3 < (16 : Int))))
    cond b618
      (let n620 : Nat := (3 + ((Int.toNat x3) * 4))
      let l621 : List Int := (List.set x2 n620 (255 : Int))
      cond x0
        (cond b618
          (rec x0 x1 (List.set l621 n620 (2047 : Int)) (IntKind.wrap .i64 (x3 + (1 : Int))))
          (none))
        (rec x0 x1 l621 (IntKind.wrap .i64 (x3 + (1 : Int)))))
      (none))
    (some (x1, (x2, ())))
def format_blank_l0 (F : Nat) : Nat → Bool → List Int → List Int → Int → Option (List Int × (List Int × Unit))
  | 0, _, _, _, _ => none
  | k + 1, x0, x1, x2, x3 => format_blank_l0S F (format_blank_l0 F k) x0 x1 x2 x3
def format_blank (F : Nat) (a0 : Bool) : Option (List Int × Unit) :=
  (format_blank_l0 F F a0 format_DecodeT19 format_DecodeT19 (0 : Int)).bind fun r625 =>
  some (r625.2.1, ())
def format_decode (F : Nat) (a0 : Int) (a1 : (Int × (Int × (Bool × Unit)))) (a2 : List Int) (a3 : List Int) (a4 : List Int) : Option (List Int × (Int × Unit)) :=
  cond (a0 == (2 : Int))
    ((bcfour_Fours F a2).bind fun r238 =>
    (bcone_Decode F a3 true).bind fun r329 =>
    (format_plain F r329.1 r329.2.1).bind fun r330 =>
    (format_with F r330.1 (3 : Int) r238.1 r238.2.1).bind fun r352 =>
    some (r352.1, (r238.2.1, ())))
    (cond (a0 == (3 : Int))
      ((bcone_Decode F a3 true).bind fun r354 =>
      (format_plain F r354.1 r354.2.1).bind fun r355 =>
      (format_decode_c2 F r355.1 (3 : Int) a2 a1.1 a1.2.1 a1.2.2.1).bind fun r605 =>
      some (r605.1, ((0 : Int), ())))
      (cond (a0 == (4 : Int))
        ((format_blank F a1.2.2.1).bind fun r626 =>
        (format_decode_c2 F r626.1 (0 : Int) a2 a1.1 a1.2.1 a1.2.2.1).bind fun r627 =>
        some (r627.1, ((0 : Int), ())))
        (cond (a0 == (11 : Int))
          ((format_blank F a1.2.2.1).bind fun r629 =>
          (format_decode_c2 F r629.1 (0 : Int) a2 a1.1 a1.2.1 a1.2.2.1).bind fun r630 =>
          some (r630.1, ((0 : Int), ())))
          (cond (a0 == (5 : Int))
            ((format_blank F a1.2.2.1).bind fun r632 =>
            (format_decode_c2 F r632.1 (0 : Int) a2 a1.1 a1.2.1 a1.2.2.1).bind fun r633 =>
            (format_decode_c2 F r633.1 (1 : Int) a3 a1.1 a1.2.1 a1.2.2.1).bind fun r634 =>
            some (r634.1, ((0 : Int), ())))
            (cond (a0 == (12 : Int))
              ((format_blank F a1.2.2.1).bind fun r636 =>
              (format_decode_c2 F r636.1 (0 : Int) a2 a1.1 a1.2.1 a1.2.2.1).bind fun r637 =>
              (format_decode_c2 F r637.1 (1 : Int) a3 a1.1 a1.2.1 a1.2.2.1).bind fun r638 =>
              some (r638.1, ((0 : Int), ())))
              (cond (a0 == (6 : Int))
                ((bcseven_Decode F a4).bind fun r2195 =>
                some (r2195.1, (r2195.2.1, ())))
                (cond (a0 == (7 : Int))
                  ((etcone_Decode F a4).bind fun r2588 =>
                  some (r2588.1, (r2588.2.1, ())))
                  (cond (a0 == (8 : Int))
                    ((etctwo_Decode F a4 (a0 == (9 : Int))).bind fun r3387 =>
                    some (r3387.1, (r3387.2.1, ())))
                    (let b3388 : Bool := (a0 == (9 : Int))
                    cond b3388
                      ((etctwo_Decode F a4 b3388).bind fun r3389 =>
                      some (r3389.1, (r3389.2.1, ())))
                      (cond (a0 == (10 : Int))
                        ((eac_Decode F a2 false).bind fun r3391 =>
                        (etctwo_Decode F a3 false).bind fun r3392 =>
                        (format_plain F r3392.1 r3392.2.1).bind fun r3393 =>
                        (format_with F r3393.1 (3 : Int) r3391.1 r3391.2.1).bind fun r3394 =>
                        some (r3394.1, (r3391.2.1, ())))
                        ((bcone_Decode F a4 false).bind fun r3395 =>
                        some (r3395.1, (r3395.2.1, ())))))))))))))
def format_Decode (F : Nat) (a0 : Int) (a1 : List Int) : Option (List Int × (Int × Unit)) :=
  (format_Of F a0).bind fun r20 =>
  cond (r20.2.1 != (0 : Int))
    (some (format_DecodeT19, (r20.2.1, ())))
    (let v22 : Int := (((List.length a1) : Nat) : Int)
    cond (v22 != r20.1.1)
      (some (format_DecodeT19, ((1 : Int), ())))
      (cond (decide (8 ≤ (List.length a1)))
        (let v25 : Int := (IntKind.wrap .i64 (v22 - (8 : Int)))
        cond ((decide ((0 : Int) ≤ v25)) && ((decide ((Int.toNat v25) ≤ (List.length a1))) && true))
          ((format_decode F a0 (r20.1.1, (r20.1.2.1, (r20.1.2.2.1, ()))) (List.take 8 a1) (List.take (psub (List.length a1) (Int.toNat v25)) (List.drop (Int.toNat v25) a1)) a1).bind fun r3398 =>
          some (r3398.1, (r3398.2.1, ())))
          (none))
        (none)))
def image_Tiles (F : Nat) (a0 : Int) (a1 : Int) : Option (Int × (Int × Unit)) :=
  cond (decide (a0 < (1 : Int)))
    (some ((0 : Int), ((0 : Int), ())))
    (cond (decide (a1 < (1 : Int)))
      (some ((0 : Int), ((0 : Int), ())))
      (some ((IntKind.wrap .i64 ((IntKind.wrap .i64 (Int.tdiv (IntKind.wrap .i64 (a0 - (1 : Int))) (4 : Int))) + (1 : Int))), ((IntKind.wrap .i64 ((IntKind.wrap .i64 (Int.tdiv (IntKind.wrap .i64 (a1 - (1 : Int))) (4 : Int))) + (1 : Int))), ()))))
def field_Times (F : Nat) (a0 : Int) (a1 : Int) : Option (Int × (Int × Unit)) :=
  cond (decide (a0 < (0 : Int)))
    (some ((0 : Int), ((1 : Int), ())))
    (cond (decide (a1 < (0 : Int)))
      (some ((0 : Int), ((1 : Int), ())))
      (cond (decide ((0 : Int) < a1))
        (cond (!(a1 == (0 : Int)))
          (let v3417 : Int := (IntKind.wrap .i64 (Int.tdiv (2147483647 : Int) a1))
          cond (decide (v3417 < a0))
            (some ((0 : Int), ((10 : Int), ())))
            (some ((IntKind.wrap .i64 (a0 * a1)), ((0 : Int), ()))))
          (none))
        (some ((IntKind.wrap .i64 (a0 * a1)), ((0 : Int), ())))))
def format_Bytes (F : Nat) (a0 : Int) (a1 : Int) (a2 : Int) : Option (Int × (Int × Unit)) :=
  (format_Of F a0).bind fun r3400 =>
  cond (r3400.2.1 != (0 : Int))
    (some ((0 : Int), (r3400.2.1, ())))
    (cond (decide (a1 < (1 : Int)))
      (some ((0 : Int), ((1 : Int), ())))
      (cond (decide (a2 < (1 : Int)))
        (some ((0 : Int), ((1 : Int), ())))
        ((image_Tiles F a1 a2).bind fun r3412 =>
        (field_Times F r3412.1 r3412.2.1).bind fun r3421 =>
        cond (r3421.2.1 != (0 : Int))
          (some ((0 : Int), (r3421.2.1, ())))
          ((field_Times F r3421.1 r3400.1.1).bind fun r3423 =>
          some (r3423.1, (r3423.2.1, ()))))))
def format_Code (F : Nat) (a0 : Int) (a1 : Int) : Option (Int × (Int × Unit)) := codeF a0 a1
def format_Letters (F : Nat) (a0 : List Int) : Option (Int × (Int × Unit)) := lettersF a0
def format_Scale_l2S (F : Nat) (rec : List Int → List Int → Int → Int → List Int → Int → Option (List Int × (List Int × (Int × Unit)))) (x0 : List Int) (x1 : List Int) (x2 : Int) (x3 : Int) (x4 : List Int) (x5 : Int) : Option (List Int × (List Int × (Int × Unit))) :=
  cond (decide (x5 < (4 : Int)))
    (let b3503 : Bool := ((decide ((0 : Int) ≤ x5)) && (decide (x5 < (4 : Int))))
    cond b3503
      (let v3504 : Int := (List.getD x4 (Int.toNat x5) (0 : Int))
      cond ((decide ((0 : Int) ≤ x2)) && (decide (x2 < (16 : Int))))
        (cond b3503
          (rec (List.set x0 (((Int.toNat x2) * 4) + (Int.toNat x5)) (IntKind.wrap .i64 ((IntKind.wrap .i64 ((8 : Int) * v3504)) + (IntKind.wrap .i64 (Int.tdiv v3504 (32 : Int)))))) x1 x2 x3 x4 (IntKind.wrap .i64 (x5 + (1 : Int))))
          (none))
        (none))
      (none))
    (some (x0, (x1, (x3, ()))))
def format_Scale_l2 (F : Nat) : Nat → List Int → List Int → Int → Int → List Int → Int → Option (List Int × (List Int × (Int × Unit)))
  | 0, _, _, _, _, _, _ => none
  | k + 1, x0, x1, x2, x3, x4, x5 => format_Scale_l2S F (format_Scale_l2 F k) x0 x1 x2 x3 x4 x5
def format_Scale_l0S (F : Nat) (rec : List Int → List Int → Int → Option (List Int × (List Int × Unit))) (x0 : List Int) (x1 : List Int) (x2 : Int) : Option (List Int × (List Int × Unit)) :=
  cond (decide (x2 < (16 : Int)))
    (cond ((decide ((0 : Int) ≤ x2)) && (decide (x2 < (16 : Int))))
      ((format_Scale_l2 F F x0 x1 x2 x2 (List.take 4 (List.drop ((Int.toNat x2) * 4) x0)) (0 : Int)).bind fun r3513 =>
      rec r3513.1 r3513.2.1 (IntKind.wrap .i64 (r3513.2.2.1 + (1 : Int))))
      (none))
    (some (x0, (x1, ())))
def format_Scale_l0 (F : Nat) : Nat → List Int → List Int → Int → Option (List Int × (List Int × Unit))
  | 0, _, _, _ => none
  | k + 1, x0, x1, x2 => format_Scale_l0S F (format_Scale_l0 F k) x0 x1 x2
def format_Scale (F : Nat) (a0 : Int) (a1 : List Int) : Option (List Int × Unit) :=
  (format_Of F a0).bind fun r3432 =>
  cond (!r3432.1.2.2.1)
    (some (a1, ()))
    ((format_Scale_l0 F F a1 format_DecodeT19 (0 : Int)).bind fun r3515 =>
    some (r3515.1, ()))
def level_Error_l2S (F : Nat) (rec : Int → List Int → List Int → Int → Int → Int → Int → Option (Int × (List Int × (List Int × (Int × (Int × Unit)))))) (x0 : Int) (x1 : List Int) (x2 : List Int) (x3 : Int) (x4 : Int) (x5 : Int) (x6 : Int) : Option (Int × (List Int × (List Int × (Int × (Int × Unit))))) :=
  cond (decide (x6 < (4 : Int)))
    (cond (decide ((0 : Int) ≤ x6))
      (cond ((iand .i64 (ishr .i64 x0 x6) (1 : Int)) == (1 : Int))
        (let b3612 : Bool := ((decide ((0 : Int) ≤ x4)) && (decide (x4 < (16 : Int))))
        cond b3612
          (let b3614 : Bool := ((decide ((0 : Int) ≤ x6)) && (decide (x6 < (4 : Int))))
          cond b3614
            (let n3615 : Nat := (((Int.toNat x4) * 4) + (Int.toNat x6))
            cond b3612
              (cond b3614
                ((level_square F (IntKind.wrap .i64 ((List.getD x1 n3615 (0 : Int)) - (List.getD x2 n3615 (0 : Int))))).bind fun r3619 =>
                rec x0 x1 x2 (IntKind.wrap .i64 (x3 + r3619.1)) x4 x5 (IntKind.wrap .i64 (x6 + (1 : Int))))
                (none))
              (none))
            (none))
          (none))
        (rec x0 x1 x2 x3 x4 x5 (IntKind.wrap .i64 (x6 + (1 : Int)))))
      (none))
    (some (x0, (x1, (x2, (x3, (x5, ()))))))
def level_Error_l2 (F : Nat) : Nat → Int → List Int → List Int → Int → Int → Int → Int → Option (Int × (List Int × (List Int × (Int × (Int × Unit)))))
  | 0, _, _, _, _, _, _, _ => none
  | k + 1, x0, x1, x2, x3, x4, x5, x6 => level_Error_l2S F (level_Error_l2 F k) x0 x1 x2 x3 x4 x5 x6
def level_Error_l0S (F : Nat) (rec : Int → List Int → List Int → Int → Int → Option (Int × Unit)) (x0 : Int) (x1 : List Int) (x2 : List Int) (x3 : Int) (x4 : Int) : Option (Int × Unit) :=
  cond (decide (x4 < (16 : Int)))
    ((level_Error_l2 F F x0 x1 x2 x3 x4 x4 (0 : Int)).bind fun r3623 =>
    rec r3623.1 r3623.2.1 r3623.2.2.1 r3623.2.2.2.1 (IntKind.wrap .i64 (r3623.2.2.2.2.1 + (1 : Int))))
    (some (x3, ()))
def level_Error_l0 (F : Nat) : Nat → Int → List Int → List Int → Int → Int → Option (Int × Unit)
  | 0, _, _, _, _, _ => none
  | k + 1, x0, x1, x2, x3, x4 => level_Error_l0S F (level_Error_l0 F k) x0 x1 x2 x3 x4
def level_Error (F : Nat) (a0 : List Int) (a1 : List Int) (a2 : Int) : Option (Int × Unit) :=
  (level_Error_l0 F F a2 a0 a1 (0 : Int) (0 : Int)).bind fun r3625 =>
  some (r3625.1, ())
def format_Error (F : Nat) (a0 : Int) (a1 : List Int) (a2 : List Int) : Option (Int × (Int × Unit)) :=
  (format_Decode F a0 a1).bind fun r3429 =>
  cond (r3429.2.1 != (0 : Int))
    (some ((0 : Int), (r3429.2.1, ())))
    ((format_Of F a0).bind fun r3431 =>
    (format_Scale F a0 a2).bind fun r3516 =>
    (level_Error F r3516.1 r3429.1 r3431.1.2.1).bind fun r3626 =>
    some (r3626.1, ((0 : Int), ())))
def law13_awake (F : Nat) : Option (Bool × Unit) :=
  (format_Of F (3 : Int)).bind fun r16 =>
  (format_Decode F (3 : Int) law13_awakeT17).bind fun r3399 =>
  (format_Bytes F (1 : Int) (5 : Int) (4 : Int)).bind fun r3424 =>
  (format_Code F (7 : Int) (2 : Int)).bind fun r3425 =>
  (format_Code F (7 : Int) (1 : Int)).bind fun r3426 =>
  (format_Letters F [(65 : Int), (84 : Int), (73 : Int), (50 : Int)]).bind fun r3427 =>
  (format_Error F (3 : Int) format_decodeT239 r3399.1).bind fun r3627 =>
  cond (r16.2.1 == (0 : Int))
    (cond ((r16.1.1 == (16 : Int)) && ((r16.1.2.1 == (15 : Int)) && (r16.1.2.2.1 == false)))
      (cond (r3399.2.1 == (0 : Int))
        (cond ((List.take 4 (List.drop 20 r3399.1)) == [(255 : Int), (255 : Int), (255 : Int), (9 : Int)])
          (cond (r3424.1 == (16 : Int))
            (cond (r3424.2.1 == (0 : Int))
              (cond (r3425.1 == (36196 : Int))
                (cond (r3425.2.1 == (0 : Int))
                  (cond (r3426.2.1 == (9 : Int))
                    (cond (r3427.1 == (5 : Int))
                      (cond (r3427.2.1 == (0 : Int))
                        (cond (r3627.1 == (3122496 : Int))
                          (cond (r3627.2.1 == (0 : Int))
                            ((format_Scale F (11 : Int) r3399.1).bind fun r3642 =>
                            some (((List.getD (List.take 4 r3642.1) 3 (0 : Int)) == (72 : Int)), ()))
                            (some (false, ())))
                          (some (false, ())))
                        (some (false, ())))
                      (some (false, ())))
                    (some (false, ())))
                  (some (false, ())))
                (some (false, ())))
              (some (false, ())))
            (some (false, ())))
          (some (false, ())))
        (some (false, ())))
      (some (false, ())))
    (some (false, ()))
def format_Format (F : Nat) (a0 : Int) (a1 : Int) : Option (Int × (Int × Unit)) := formatF a0 a1
end Go.AE.Gn
set_option linter.unusedSimpArgs false
set_option linter.unusedVariables false
namespace Go.AE.Gn
open Go Go.AE
def ref13_Of (F : Nat) (a0 : Int) : Option ((Int × (Int × (Bool × Unit))) × (Int × Unit)) :=
  cond (decide (a0 < (1 : Int)))
    (some (((0 : Int), ((0 : Int), (false, ()))), ((5 : Int), ())))
    (cond (decide ((12 : Int) < a0))
      (some (((0 : Int), ((0 : Int), (false, ()))), ((5 : Int), ())))
      (cond (a0 == (0 : Int))
        (some (((0 : Int), ((0 : Int), (false, ()))), ((0 : Int), ())))
        (cond (a0 == (1 : Int))
          (some (((8 : Int), ((7 : Int), (false, ()))), ((0 : Int), ())))
          (cond (a0 == (2 : Int))
            (some (((16 : Int), ((15 : Int), (false, ()))), ((0 : Int), ())))
            (cond (a0 == (3 : Int))
              (some (((16 : Int), ((15 : Int), (false, ()))), ((0 : Int), ())))
              (cond (a0 == (4 : Int))
                (some (((8 : Int), ((1 : Int), (false, ()))), ((0 : Int), ())))
                (cond (a0 == (5 : Int))
                  (some (((16 : Int), ((3 : Int), (false, ()))), ((0 : Int), ())))
                  (cond (a0 == (6 : Int))
                    (some (((16 : Int), ((15 : Int), (false, ()))), ((0 : Int), ())))
                    (cond (a0 == (7 : Int))
                      (some (((8 : Int), ((7 : Int), (false, ()))), ((0 : Int), ())))
                      (cond (a0 == (8 : Int))
                        (some (((8 : Int), ((7 : Int), (false, ()))), ((0 : Int), ())))
                        (cond (a0 == (9 : Int))
                          (some (((8 : Int), ((15 : Int), (false, ()))), ((0 : Int), ())))
                          (cond (a0 == (10 : Int))
                            (some (((16 : Int), ((15 : Int), (false, ()))), ((0 : Int), ())))
                            (cond (a0 == (11 : Int))
                              (some (((8 : Int), ((1 : Int), (true, ()))), ((0 : Int), ())))
                              (cond (a0 == (12 : Int))
                                (some (((16 : Int), ((3 : Int), (true, ()))), ((0 : Int), ())))
                                (none)))))))))))))))
def ref04_Tiles (F : Nat) (a0 : Int) (a1 : Int) : Option (Int × (Int × Unit)) :=
  cond (decide (a0 < (1 : Int)))
    (some ((0 : Int), ((0 : Int), ())))
    (cond (decide (a1 < (1 : Int)))
      (some ((0 : Int), ((0 : Int), ())))
      (some ((IntKind.wrap .i64 ((IntKind.wrap .i64 (Int.tdiv (IntKind.wrap .i64 (a0 - (1 : Int))) (4 : Int))) + (1 : Int))), ((IntKind.wrap .i64 ((IntKind.wrap .i64 (Int.tdiv (IntKind.wrap .i64 (a1 - (1 : Int))) (4 : Int))) + (1 : Int))), ()))))
def ref01_Times (F : Nat) (a0 : Int) (a1 : Int) : Option (Int × (Int × Unit)) :=
  cond (decide (a0 < (0 : Int)))
    (some ((0 : Int), ((1 : Int), ())))
    (cond (decide (a1 < (0 : Int)))
      (some ((0 : Int), ((1 : Int), ())))
      (cond (a0 == (0 : Int))
        (some ((0 : Int), ((0 : Int), ())))
        (cond (a1 == (0 : Int))
          (some ((0 : Int), ((0 : Int), ())))
          (cond (!(a1 == (0 : Int)))
            (let v3688 : Int := (IntKind.wrap .i64 (Int.tdiv (2147483647 : Int) a1))
            cond (decide (v3688 < a0))
              (some ((0 : Int), ((10 : Int), ())))
              (some ((IntKind.wrap .i64 (a0 * a1)), ((0 : Int), ()))))
            (none)))))
def ref13_Bytes (F : Nat) (a0 : Int) (a1 : Int) (a2 : Int) : Option (Int × (Int × Unit)) :=
  (ref13_Of F a0).bind fun r3670 =>
  cond (r3670.2.1 != (0 : Int))
    (some ((0 : Int), (r3670.2.1, ())))
    (cond (decide (a1 < (1 : Int)))
      (some ((0 : Int), ((1 : Int), ())))
      (cond (decide (a2 < (1 : Int)))
        (some ((0 : Int), ((1 : Int), ())))
        ((ref04_Tiles F a1 a2).bind fun r3682 =>
        (ref01_Times F r3682.1 r3682.2.1).bind fun r3691 =>
        cond (r3691.2.1 != (0 : Int))
          (some ((0 : Int), (r3691.2.1, ())))
          ((ref01_Times F r3691.1 r3670.1.1).bind fun r3693 =>
          some (r3693.1, (r3693.2.1, ()))))))
def ref13_codesT3702 : List Int := [0, 71, 74, 77, 80, 83, 98, 0, 0, 0, 0, 0, 0]
def ref13_codesT3703 : List Int := [0, 33776, 33778, 33779, 36283, 36285, 36492, 36196, 37492, 37494, 37496, 37488, 37490]
def ref13_codes (F : Nat) (a0 : Int) : Option (List Int × Unit) :=
  cond (a0 == (1 : Int))
    (some (ref13_codesT3702, ()))
    (some (ref13_codesT3703, ()))
def ref13_Code (F : Nat) (a0 : Int) (a1 : Int) : Option (Int × (Int × Unit)) :=
  (ref13_Of F a0).bind fun r3697 =>
  cond (r3697.2.1 != (0 : Int))
    (some ((0 : Int), (r3697.2.1, ())))
    (cond (a1 != (1 : Int))
      (cond (a1 != (2 : Int))
        (some ((0 : Int), ((1 : Int), ())))
        ((ref13_codes F a1).bind fun r3705 =>
        let n3706 : Nat := (List.length r3705.1)
        cond ((decide ((0 : Int) ≤ a0)) && (decide (a0 < ((n3706 : Nat) : Int))))
          (let v3709 : Int := (List.getD r3705.1 (Int.toNat a0) (0 : Int))
          cond (v3709 == (0 : Int))
            (some ((0 : Int), ((9 : Int), ())))
            (some (v3709, ((0 : Int), ()))))
          (none)))
      ((ref13_codes F a1).bind fun r3711 =>
      let n3712 : Nat := (List.length r3711.1)
      cond ((decide ((0 : Int) ≤ a0)) && (decide (a0 < ((n3712 : Nat) : Int))))
        (let v3715 : Int := (List.getD r3711.1 (Int.toNat a0) (0 : Int))
        cond (v3715 == (0 : Int))
          (some ((0 : Int), ((9 : Int), ())))
          (some (v3715, ((0 : Int), ()))))
        (none)))
def ref13_Format_l0S (F : Nat) (rec : Int → List Int → Int → Option ((Int × Unit) ⊕ Unit)) (x0 : Int) (x1 : List Int) (x2 : Int) : Option ((Int × Unit) ⊕ Unit) :=
  let v3743 : Int := (((List.length x1) : Nat) : Int)
  cond (decide (x2 < v3743))
    (cond ((decide ((0 : Int) ≤ x2)) && (decide (x2 < (((List.length x1) : Nat) : Int))))
      (cond ((List.getD x1 (Int.toNat x2) (0 : Int)) == x0)
        (cond (x0 != (0 : Int))
          (some (.inl (x2, ())))
          (rec x0 x1 (IntKind.wrap .i64 (x2 + (1 : Int)))))
        (rec x0 x1 (IntKind.wrap .i64 (x2 + (1 : Int)))))
      (none))
    (some (.inr ()))
def ref13_Format_l0 (F : Nat) : Nat → Int → List Int → Int → Option ((Int × Unit) ⊕ Unit)
  | 0, _, _, _ => none
  | k + 1, x0, x1, x2 => ref13_Format_l0S F (ref13_Format_l0 F k) x0 x1 x2
def ref13_Format (F : Nat) (a0 : Int) (a1 : Int) : Option (Int × (Int × Unit)) :=
  cond (a1 != (1 : Int))
    (cond (a1 != (2 : Int))
      (some ((0 : Int), ((1 : Int), ())))
      (cond (a1 == (2 : Int))
        (cond (a0 == (33777 : Int))
          (some ((1 : Int), ((0 : Int), ())))
          ((ref13_codes F a1).bind fun r3723 =>
          (ref13_Format_l0 F F a0 r3723.1 (1 : Int)).bind fun r3752 => match r3752 with
            | .inl r3752 => (some (r3752.1, ((0 : Int), ())))
            | .inr r3752 => (some ((0 : Int), ((5 : Int), ())))))
        ((ref13_codes F a1).bind fun r3753 =>
        (ref13_Format_l0 F F a0 r3753.1 (1 : Int)).bind fun r3765 => match r3765 with
          | .inl r3765 => (some (r3765.1, ((0 : Int), ())))
          | .inr r3765 => (some ((0 : Int), ((5 : Int), ()))))))
    (cond (a1 == (2 : Int))
      (cond (a0 == (33777 : Int))
        (some ((1 : Int), ((0 : Int), ())))
        ((ref13_codes F a1).bind fun r3768 =>
        (ref13_Format_l0 F F a0 r3768.1 (1 : Int)).bind fun r3780 => match r3780 with
          | .inl r3780 => (some (r3780.1, ((0 : Int), ())))
          | .inr r3780 => (some ((0 : Int), ((5 : Int), ())))))
      ((ref13_codes F a1).bind fun r3781 =>
      (ref13_Format_l0 F F a0 r3781.1 (1 : Int)).bind fun r3793 => match r3793 with
        | .inl r3793 => (some (r3793.1, ((0 : Int), ())))
        | .inr r3793 => (some ((0 : Int), ((5 : Int), ())))))
def ref13_Letters (F : Nat) (a0 : List Int) : Option (Int × (Int × Unit)) :=
  cond ([(68 : Int), (88 : Int), (84 : Int), (49 : Int)] == a0)
    (some ((1 : Int), ((0 : Int), ())))
    (cond ([(68 : Int), (88 : Int), (84 : Int), (51 : Int)] == a0)
      (some ((2 : Int), ((0 : Int), ())))
      (cond ([(68 : Int), (88 : Int), (84 : Int), (53 : Int)] == a0)
        (some ((3 : Int), ((0 : Int), ())))
        (cond ([(65 : Int), (84 : Int), (73 : Int), (49 : Int)] == a0)
          (some ((4 : Int), ((0 : Int), ())))
          (cond ([(65 : Int), (84 : Int), (73 : Int), (50 : Int)] == a0)
            (some ((5 : Int), ((0 : Int), ())))
            (cond ([(66 : Int), (67 : Int), (52 : Int), (85 : Int)] == a0)
              (some ((4 : Int), ((0 : Int), ())))
              (cond ([(66 : Int), (67 : Int), (53 : Int), (85 : Int)] == a0)
                (some ((5 : Int), ((0 : Int), ())))
                (some ((0 : Int), ((5 : Int), ())))))))))
def law13_FormatTells (F : Nat) (a0 : List Int) (a1 : List Int) : Option (Bool × Unit) :=
  (law13_awake F).bind fun r3646 =>
  let v3647 : Int := (List.getD a0 1 (0 : Int))
  cond (decide ((1073741824 : Int) < v3647))
    (some (r3646.1, ()))
    (let v3649 : Int := (List.getD a0 2 (0 : Int))
    cond (decide ((1073741824 : Int) < v3649))
      (some (r3646.1, ()))
      (let v3651 : Int := (List.getD a0 0 (0 : Int))
      (format_Of F v3651).bind fun r3652 =>
      (ref13_Of F v3651).bind fun r3668 =>
      (format_Bytes F v3651 v3647 v3649).bind fun r3669 =>
      (ref13_Bytes F v3651 v3647 v3649).bind fun r3694 =>
      let v3695 : Int := (List.getD a0 3 (0 : Int))
      (format_Code F v3651 v3695).bind fun r3696 =>
      (ref13_Code F v3651 v3695).bind fun r3717 =>
      (format_Format F v3647 v3695).bind fun r3718 =>
      (ref13_Format F v3647 v3695).bind fun r3794 =>
      (format_Letters F a1).bind fun r3795 =>
      (ref13_Letters F a1).bind fun r3804 =>
      cond r3646.1
        (cond (r3652.1.1 == r3668.1.1)
          (cond (r3652.1.2.1 == r3668.1.2.1)
            (cond (r3652.1.2.2.1 == r3668.1.2.2.1)
              (cond (r3652.2.1 == r3668.2.1)
                (cond (r3669.1 == r3694.1)
                  (cond (r3669.2.1 == r3694.2.1)
                    (cond (r3696.1 == r3717.1)
                      (cond (r3696.2.1 == r3717.2.1)
                        (cond (r3718.1 == r3794.1)
                          (cond (r3718.2.1 == r3794.2.1)
                            (cond (r3795.1 == r3804.1)
                              (some ((r3795.2.1 == r3804.2.1), ()))
                              (some (false, ())))
                            (some (false, ())))
                          (some (false, ())))
                        (some (false, ())))
                      (some (false, ())))
                    (some (false, ())))
                  (some (false, ())))
                (some (false, ())))
              (some (false, ())))
            (some (false, ())))
          (some (false, ())))
        (some (false, ()))))
end Go.AE.Gn
set_option linter.unusedSimpArgs false
set_option maxRecDepth 100000
set_option linter.unusedVariables false
namespace Go.Proofs.YtaogfbhifeobmaaGreat
open Go Go.AE Go.AE.Gn
theorem callable : Callable Tryz.prog := callable_of (by kernel_rfl)
def format_Of_tab (F : Nat) : List ToldF := []
theorem format_Of_all (F : Nat) : AllOk Tryz.prog (format_Of_tab F) := trivial
def format_Of_told (F : Nat) : ToldF := ⟨9, 1, [.slot 0 (.int .i64)], [.ty (.agg [.int .i64, .int .i64, .bool]), .ty (.int .i64)], u1 (format_Of F)⟩
theorem format_Of_ok (F : Nat) : (format_Of_told F).ok Tryz.prog :=
  okF callable (format_Of_all F) (fn := Tryz.f9) [] (by kernel_rfl) aN fun d => by kernel_rfl
def bits_room_tab (F : Nat) : List ToldF := []
theorem bits_room_all (F : Nat) : AllOk Tryz.prog (bits_room_tab F) := trivial
def bits_room_told (F : Nat) : ToldF := ⟨208, 3, [.row .u8 1 (.slot 0) false, .slot 1 (.int .i64), .slot 2 (.int .i64)], [.ty (.bool)], u3 (bits_room F)⟩
theorem bits_room_ok (F : Nat) : (bits_room_told F).ok Tryz.prog :=
  okF callable (bits_room_all F) (fn := Tryz.f208) [] (by kernel_rfl) aN fun d => by kernel_rfl
def bits_check_tab (F : Nat) : List ToldF := [bits_room_told F]
theorem bits_check_all (F : Nat) : AllOk Tryz.prog (bits_check_tab F) := ⟨bits_room_ok F, trivial⟩
def bits_check_told (F : Nat) : ToldF := ⟨233, 3, [.row .u8 1 (.slot 0) false, .slot 1 (.int .i64), .slot 2 (.int .i64)], [.ty (.int .i64)], u3 (bits_check F)⟩
theorem bits_check_ok (F : Nat) : (bits_check_told F).ok Tryz.prog :=
  okF callable (bits_check_all F) (fn := Tryz.f233) [] (by kernel_rfl) aN fun d => by kernel_rfl
def bits_spread_tab (F : Nat) : List ToldF := []
theorem bits_spread_all (F : Nat) : AllOk Tryz.prog (bits_spread_tab F) := trivial
def bits_spread_l0t (F : Nat) : TL := ⟨17, [.slot 0 (.int .u8), .segs [.hole (.is .u64 8)] (.slot 2) true, .ptr 2 1 8, .segs [.hole (.is .u64 8)] (.slot 3) true, .ptr 3 2 8, .slot 5 (.int .i64)], [.segs [.hole (.is .u64 8)] (.slot 2) true, .ptr 2 1 8, .segs [.hole (.is .u64 8)] (.slot 3) true, .ptr 3 2 8], 0, fun k => u4 (bits_spread_l0 F k), fun k => u4 (bits_spread_l0S F (bits_spread_l0 F k))⟩
theorem bits_spread_l0k (F : Nat) : (bits_spread_l0t F).ok Tryz.prog Tryz.f242 F :=
  okL callable (bits_spread_all F) [] aN (fun _ => rfl) (fun _ _ => rfl) fun k d => by kernel_rfl
def bits_spread_told (F : Nat) : ToldF := ⟨242, 1, [.slot 0 (.int .u8)], [.ty (.is .u64 8)], u1 (bits_spread F)⟩
theorem bits_spread_ok (F : Nat) : (bits_spread_told F).ok Tryz.prog :=
  okF callable (bits_spread_all F) (fn := Tryz.f242) [(0, (bits_spread_l0t F).ann F)] (by kernel_rfl) (aL (by kernel_rfl) (bits_spread_l0k F) aN) fun d => by kernel_rfl
def bits_low_tab (F : Nat) : List ToldF := [bits_spread_told F]
theorem bits_low_all (F : Nat) : AllOk Tryz.prog (bits_low_tab F) := ⟨bits_spread_ok F, trivial⟩
def bits_low_told (F : Nat) : ToldF := ⟨235, 2, [.row .u8 1 (.slot 0) false, .slot 1 (.int .i64)], [.ty (.int .u64)], u2 (bits_low F)⟩
theorem bits_low_ok (F : Nat) : (bits_low_told F).ok Tryz.prog :=
  okF callable (bits_low_all F) (fn := Tryz.f235) [] (by kernel_rfl) aN fun d => by kernel_rfl
def bits_Low_tab (F : Nat) : List ToldF := [bits_check_told F, bits_low_told F]
theorem bits_Low_all (F : Nat) : AllOk Tryz.prog (bits_Low_tab F) := ⟨bits_check_ok F, bits_low_ok F, trivial⟩
def bits_Low_l0t (F : Nat) : TX := ⟨34, [.row .u8 1 (.slot 0) false, .slot 1 (.int .i64), .slot 8 (.int .i64), .slot 9 (.int .u64), .slot 15 (.int .i64), .slot 16 (.int .i64)], [.const 6 (.int .u64 (some 0) 0), .slot 7 (.int .i64)], [.slot 8 (.int .i64), .slot 9 (.int .u64)], .ret, 0, fun k => u6 (bits_Low_l0 F k), fun k => u6 (bits_Low_l0S F (bits_Low_l0 F k))⟩
theorem bits_Low_l0k (F : Nat) : (bits_Low_l0t F).ok Tryz.prog Tryz.f209 F :=
  okX callable (bits_Low_all F) [] aN (fun _ => rfl) (fun _ _ => rfl) (eR rfl) fun k d => by kernel_rfl
def bits_Low_told (F : Nat) : ToldF := ⟨209, 3, [.row .u8 1 (.slot 0) false, .slot 1 (.int .i64), .slot 2 (.int .i64)], [.ty (.int .u64), .ty (.int .i64)], u3 (bits_Low F)⟩
theorem bits_Low_ok (F : Nat) : (bits_Low_told F).ok Tryz.prog :=
  okF callable (bits_Low_all F) (fn := Tryz.f209) [(0, (bits_Low_l0t F).ann F)] (by kernel_rfl) (aX (by kernel_rfl) (bits_Low_l0k F) aN) fun d => by kernel_rfl
def bits_Lows_tab (F : Nat) : List ToldF := [bits_room_told F, bits_Low_told F]
theorem bits_Lows_all (F : Nat) : AllOk Tryz.prog (bits_Lows_tab F) := ⟨bits_room_ok F, bits_Low_ok F, trivial⟩
def bits_Lows_l1t (F : Nat) : TL := ⟨63, [.row .u8 1 (.slot 0) false, .slot 1 (.int .i64), .slot 2 (.int .i64), .row .i64 1 (.slot 10) true, .slot 41 (.int .i64), .slot 42 (.int .i64)], [.row .i64 1 (.slot 10) true], 1, fun k => u6 (bits_Lows_l1 F k), fun k => u6 (bits_Lows_l1S F (bits_Lows_l1 F k))⟩
theorem bits_Lows_l1k (F : Nat) : (bits_Lows_l1t F).ok Tryz.prog Tryz.f177 F :=
  okL callable (bits_Lows_all F) [] aN (fun _ => rfl) (fun _ _ => rfl) fun k d => by kernel_rfl
def bits_Lows_told (F : Nat) : ToldF := ⟨177, 4, [.row .u8 1 (.slot 0) false, .slot 1 (.int .i64), .slot 2 (.int .i64), .slot 3 (.int .i64)], [.row .i64 1, .ty (.int .i64)], u4 (bits_Lows F)⟩
theorem bits_Lows_ok (F : Nat) : (bits_Lows_told F).ok Tryz.prog :=
  okF callable (bits_Lows_all F) (fn := Tryz.f177) [(1, (bits_Lows_l1t F).ann F)] (by kernel_rfl) (aL (by kernel_rfl) (bits_Lows_l1k F) aN) fun d => by kernel_rfl
def level_odd_tab (F : Nat) : List ToldF := []
theorem level_odd_all (F : Nat) : AllOk Tryz.prog (level_odd_tab F) := trivial
def level_odd_told (F : Nat) : ToldF := ⟨193, 1, [.slot 0 (.int .i64)], [.ty (.bool)], u1 (level_odd F)⟩
theorem level_odd_ok (F : Nat) : (level_odd_told F).ok Tryz.prog :=
  okF callable (level_odd_all F) (fn := Tryz.f193) [] (by kernel_rfl) aN fun d => by kernel_rfl
def level_Wide_tab (F : Nat) : List ToldF := [level_odd_told F]
theorem level_Wide_all (F : Nat) : AllOk Tryz.prog (level_Wide_tab F) := ⟨level_odd_ok F, trivial⟩
def level_Wide_l0t (F : Nat) : TL := ⟨28, [.slot 0 (.int .i64), .slot 1 (.int .i64), .slot 5 (.int .i64), .slot 6 (.int .i64)], [.slot 5 (.int .i64), .slot 6 (.int .i64)], 0, fun k => u4 (level_Wide_l0 F k), fun k => u4 (level_Wide_l0S F (level_Wide_l0 F k))⟩
theorem level_Wide_l0k (F : Nat) : (level_Wide_l0t F).ok Tryz.prog Tryz.f130 F :=
  okL callable (level_Wide_all F) [] aN (fun _ => rfl) (fun _ _ => rfl) fun k d => by kernel_rfl
def level_Wide_told (F : Nat) : ToldF := ⟨130, 2, [.slot 0 (.int .i64), .slot 1 (.int .i64)], [.ty (.int .i64)], u2 (level_Wide F)⟩
theorem level_Wide_ok (F : Nat) : (level_Wide_told F).ok Tryz.prog :=
  okF callable (level_Wide_all F) (fn := Tryz.f130) [(0, (level_Wide_l0t F).ann F)] (by kernel_rfl) (aL (by kernel_rfl) (level_Wide_l0k F) aN) fun d => by kernel_rfl
def bcfour_Fours_tab (F : Nat) : List ToldF := [bits_Lows_told F, level_Wide_told F]
theorem bcfour_Fours_all (F : Nat) : AllOk Tryz.prog (bcfour_Fours_tab F) := ⟨bits_Lows_ok F, level_Wide_ok F, trivial⟩
def bcfour_Fours_l0t (F : Nat) : TL := ⟨29, [.segs [.hole (.is .i64 16)] (.slot 2) true, .ptr 2 1 16, .segs [.hole (.is .i64 16)] (.slot 4) true, .ptr 4 2 16, .row .i64 1 (.slot 5) true, .slot 17 (.int .i64)], [.segs [.hole (.is .i64 16)] (.slot 2) true, .ptr 2 1 16, .segs [.hole (.is .i64 16)] (.slot 4) true, .ptr 4 2 16], 0, fun k => u4 (bcfour_Fours_l0 F k), fun k => u4 (bcfour_Fours_l0S F (bcfour_Fours_l0 F k))⟩
theorem bcfour_Fours_l0k (F : Nat) : (bcfour_Fours_l0t F).ok Tryz.prog Tryz.f119 F :=
  okL callable (bcfour_Fours_all F) [] aN (fun _ => rfl) (fun _ _ => rfl) fun k d => by kernel_rfl
def bcfour_Fours_told (F : Nat) : ToldF := ⟨119, 1, [.row .u8 1 (.slot 0) false], [.ty (.is .i64 16), .ty (.int .i64)], u1 (bcfour_Fours F)⟩
theorem bcfour_Fours_ok (F : Nat) : (bcfour_Fours_told F).ok Tryz.prog :=
  okF callable (bcfour_Fours_all F) (fn := Tryz.f119) [(0, (bcfour_Fours_l0t F).ann F)] (by kernel_rfl) (aL (by kernel_rfl) (bcfour_Fours_l0k F) aN) fun d => by kernel_rfl
def bcone_Parts_tab (F : Nat) : List ToldF := [bits_Lows_told F]
theorem bcone_Parts_all (F : Nat) : AllOk Tryz.prog (bcone_Parts_tab F) := ⟨bits_Lows_ok F, trivial⟩
def bcone_Parts_told (F : Nat) : ToldF := ⟨178, 1, [.row .u8 1 (.slot 0) false], [.ty (.int .i64), .ty (.int .i64), .ty (.is .i64 16), .ty (.int .i64)], u1 (bcone_Parts F)⟩
theorem bcone_Parts_ok (F : Nat) : (bcone_Parts_told F).ok Tryz.prog :=
  okF callable (bcone_Parts_all F) (fn := Tryz.f178) [] (by kernel_rfl) aN fun d => by kernel_rfl
def bcone_Colour_tab (F : Nat) : List ToldF := [level_Wide_told F]
theorem bcone_Colour_all (F : Nat) : AllOk Tryz.prog (bcone_Colour_tab F) := ⟨level_Wide_ok F, trivial⟩
def bcone_Colour_told (F : Nat) : ToldF := ⟨210, 1, [.slot 0 (.int .i64)], [.ty (.is .i64 4)], u1 (bcone_Colour F)⟩
theorem bcone_Colour_ok (F : Nat) : (bcone_Colour_told F).ok Tryz.prog :=
  okF callable (bcone_Colour_all F) (fn := Tryz.f210) [] (by kernel_rfl) aN fun d => by kernel_rfl
def level_Mix_tab (F : Nat) : List ToldF := []
theorem level_Mix_all (F : Nat) : AllOk Tryz.prog (level_Mix_tab F) := trivial
def level_Mix_told (F : Nat) : ToldF := ⟨207, 5, [.slot 0 (.int .i64), .slot 1 (.int .i64), .slot 2 (.int .i64), .slot 3 (.int .i64), .slot 4 (.int .i64)], [.ty (.int .i64)], u5 (level_Mix F)⟩
theorem level_Mix_ok (F : Nat) : (level_Mix_told F).ok Tryz.prog :=
  okF callable (level_Mix_all F) (fn := Tryz.f207) [] (by kernel_rfl) aN fun d => by kernel_rfl
def bcone_between_tab (F : Nat) : List ToldF := [level_Mix_told F]
theorem bcone_between_all (F : Nat) : AllOk Tryz.prog (bcone_between_tab F) := ⟨level_Mix_ok F, trivial⟩
def bcone_between_l0t (F : Nat) : TL := ⟨28, [.slot 2 (.int .i64), .slot 3 (.int .i64), .segs [.hole (.is .i64 4)] (.slot 4) true, .ptr 4 1 4, .segs [.hole (.is .i64 4)] (.slot 5) true, .ptr 5 2 4, .segs [.hole (.is .i64 4)] (.slot 8) true, .ptr 8 3 4, .segs [.hole (.is .i64 4)] (.slot 9) true, .ptr 9 4 4, .slot 12 (.int .i64)], [.segs [.hole (.is .i64 4)] (.slot 8) true, .ptr 8 1 4, .segs [.hole (.is .i64 4)] (.slot 9) true, .ptr 9 2 4], 0, fun k => u7 (bcone_between_l0 F k), fun k => u7 (bcone_between_l0S F (bcone_between_l0 F k))⟩
theorem bcone_between_l0k (F : Nat) : (bcone_between_l0t F).ok Tryz.prog Tryz.f211 F :=
  okL callable (bcone_between_all F) [] aN (fun _ => rfl) (fun _ _ => rfl) fun k d => by kernel_rfl
def bcone_between_told (F : Nat) : ToldF := ⟨211, 4, [.slot 0 (.is .i64 4), .slot 1 (.is .i64 4), .slot 2 (.int .i64), .slot 3 (.int .i64)], [.ty (.is .i64 4)], u4 (bcone_between F)⟩
theorem bcone_between_ok (F : Nat) : (bcone_between_told F).ok Tryz.prog :=
  okF callable (bcone_between_all F) (fn := Tryz.f211) [(0, (bcone_between_l0t F).ann F)] (by kernel_rfl) (aL (by kernel_rfl) (bcone_between_l0k F) aN) fun d => by kernel_rfl
def bcone_Palette_tab (F : Nat) : List ToldF := [bcone_Colour_told F, bcone_between_told F]
theorem bcone_Palette_all (F : Nat) : AllOk Tryz.prog (bcone_Palette_tab F) := ⟨bcone_Colour_ok F, bcone_between_ok F, trivial⟩
def bcone_Palette_told (F : Nat) : ToldF := ⟨179, 3, [.slot 0 (.int .i64), .slot 1 (.int .i64), .slot 2 (.bool)], [.ty (.is .i64 16)], u3 (bcone_Palette F)⟩
theorem bcone_Palette_ok (F : Nat) : (bcone_Palette_told F).ok Tryz.prog :=
  okF callable (bcone_Palette_all F) (fn := Tryz.f179) [] (by kernel_rfl) aN fun d => by kernel_rfl
def bcone_Decode_tab (F : Nat) : List ToldF := [bcone_Parts_told F, bcone_Palette_told F]
theorem bcone_Decode_all (F : Nat) : AllOk Tryz.prog (bcone_Decode_tab F) := ⟨bcone_Parts_ok F, bcone_Palette_ok F, trivial⟩
def bcone_Decode_l0t (F : Nat) : TL := ⟨41, [.segs [.hole (.is .i64 64)] (.slot 4) true, .ptr 4 1 64, .segs [.hole (.is .i64 64)] (.slot 6) true, .ptr 6 2 64, .segs [.hole (.is .i64 16)] (.slot 11) true, .ptr 11 3 16, .slot 29 (.is .i64 16), .slot 30 (.int .i64)], [.segs [.hole (.is .i64 64)] (.slot 4) true, .ptr 4 1 64, .segs [.hole (.is .i64 64)] (.slot 6) true, .ptr 6 2 64], 0, fun k => u5 (bcone_Decode_l0 F k), fun k => u5 (bcone_Decode_l0S F (bcone_Decode_l0 F k))⟩
theorem bcone_Decode_l0k (F : Nat) : (bcone_Decode_l0t F).ok Tryz.prog Tryz.f121 F :=
  okL callable (bcone_Decode_all F) [] aN (fun _ => rfl) (fun _ _ => rfl) fun k d => by kernel_rfl
def bcone_Decode_told (F : Nat) : ToldF := ⟨121, 2, [.row .u8 1 (.slot 0) false, .slot 1 (.bool)], [.ty (.is .i64 64), .ty (.int .i64)], u2 (bcone_Decode F)⟩
theorem bcone_Decode_ok (F : Nat) : (bcone_Decode_told F).ok Tryz.prog :=
  okF callable (bcone_Decode_all F) (fn := Tryz.f121) [(0, (bcone_Decode_l0t F).ann F)] (by kernel_rfl) (aL (by kernel_rfl) (bcone_Decode_l0k F) aN) fun d => by kernel_rfl
def format_plain_tab (F : Nat) : List ToldF := []
theorem format_plain_all (F : Nat) : AllOk Tryz.prog (format_plain_tab F) := trivial
def format_plain_told (F : Nat) : ToldF := ⟨120, 2, [.slot 0 (.is .i64 64), .slot 1 (.int .i64)], [.ty (.is .i64 64)], u2 (format_plain F)⟩
theorem format_plain_ok (F : Nat) : (format_plain_told F).ok Tryz.prog :=
  okF callable (format_plain_all F) (fn := Tryz.f120) [] (by kernel_rfl) aN fun d => by kernel_rfl
def format_with_tab (F : Nat) : List ToldF := []
theorem format_with_all (F : Nat) : AllOk Tryz.prog (format_with_tab F) := trivial
def format_with_l0t (F : Nat) : TL := ⟨23, [.slot 1 (.int .i64), .segs [.hole (.is .i64 64)] (.slot 4) true, .ptr 4 1 64, .segs [.hole (.is .i64 64)] (.slot 8) true, .ptr 8 2 64, .slot 11 (.is .i64 16), .slot 12 (.int .i64)], [.segs [.hole (.is .i64 64)] (.slot 4) true, .ptr 4 1 64, .segs [.hole (.is .i64 64)] (.slot 8) true, .ptr 8 2 64], 0, fun k => u5 (format_with_l0 F k), fun k => u5 (format_with_l0S F (format_with_l0 F k))⟩
theorem format_with_l0k (F : Nat) : (format_with_l0t F).ok Tryz.prog Tryz.f118 F :=
  okL callable (format_with_all F) [] aN (fun _ => rfl) (fun _ _ => rfl) fun k d => by kernel_rfl
def format_with_told (F : Nat) : ToldF := ⟨118, 4, [.slot 0 (.is .i64 64), .slot 1 (.int .i64), .slot 2 (.is .i64 16), .slot 3 (.int .i64)], [.ty (.is .i64 64)], u4 (format_with F)⟩
theorem format_with_ok (F : Nat) : (format_with_told F).ok Tryz.prog :=
  okF callable (format_with_all F) (fn := Tryz.f118) [(0, (format_with_l0t F).ann F)] (by kernel_rfl) (aL (by kernel_rfl) (format_with_l0k F) aN) fun d => by kernel_rfl
def eac_at_tab (F : Nat) : List ToldF := []
theorem eac_at_all (F : Nat) : AllOk Tryz.prog (eac_at_tab F) := trivial
def eac_at_told (F : Nat) : ToldF := ⟨140, 1, [.slot 0 (.int .i64)], [.ty (.int .i64)], u1 (eac_at F)⟩
theorem eac_at_ok (F : Nat) : (eac_at_told F).ok Tryz.prog :=
  okF callable (eac_at_all F) (fn := Tryz.f140) [] (by kernel_rfl) aN fun d => by kernel_rfl
def bits_high_tab (F : Nat) : List ToldF := [bits_spread_told F]
theorem bits_high_all (F : Nat) : AllOk Tryz.prog (bits_high_tab F) := ⟨bits_spread_ok F, trivial⟩
def bits_high_told (F : Nat) : ToldF := ⟨234, 2, [.row .u8 1 (.slot 0) false, .slot 1 (.int .i64)], [.ty (.int .u64)], u2 (bits_high F)⟩
theorem bits_high_ok (F : Nat) : (bits_high_told F).ok Tryz.prog :=
  okF callable (bits_high_all F) (fn := Tryz.f234) [] (by kernel_rfl) aN fun d => by kernel_rfl
def bits_High_tab (F : Nat) : List ToldF := [bits_check_told F, bits_high_told F]
theorem bits_High_all (F : Nat) : AllOk Tryz.prog (bits_High_tab F) := ⟨bits_check_ok F, bits_high_ok F, trivial⟩
def bits_High_l0t (F : Nat) : TX := ⟨33, [.row .u8 1 (.slot 0) false, .slot 1 (.int .i64), .slot 8 (.int .i64), .slot 9 (.int .u64), .slot 15 (.int .i64), .slot 16 (.int .i64)], [.const 6 (.int .u64 (some 0) 0), .slot 7 (.int .i64)], [.slot 8 (.int .i64), .slot 9 (.int .u64)], .ret, 0, fun k => u6 (bits_High_l0 F k), fun k => u6 (bits_High_l0S F (bits_High_l0 F k))⟩
theorem bits_High_l0k (F : Nat) : (bits_High_l0t F).ok Tryz.prog Tryz.f206 F :=
  okX callable (bits_High_all F) [] aN (fun _ => rfl) (fun _ _ => rfl) (eR rfl) fun k d => by kernel_rfl
def bits_High_told (F : Nat) : ToldF := ⟨206, 3, [.row .u8 1 (.slot 0) false, .slot 1 (.int .i64), .slot 2 (.int .i64)], [.ty (.int .u64), .ty (.int .i64)], u3 (bits_High F)⟩
theorem bits_High_ok (F : Nat) : (bits_High_told F).ok Tryz.prog :=
  okF callable (bits_High_all F) (fn := Tryz.f206) [(0, (bits_High_l0t F).ann F)] (by kernel_rfl) (aX (by kernel_rfl) (bits_High_l0k F) aN) fun d => by kernel_rfl
def eac_Parts_c1_tab (F : Nat) : List ToldF := [bits_High_told F]
theorem eac_Parts_c1_all (F : Nat) : AllOk Tryz.prog (eac_Parts_c1_tab F) := ⟨bits_High_ok F, trivial⟩
def eac_Parts_c1_told (F : Nat) : ToldF := ⟨205, 3, [.slot 0 (.int .i64), .slot 1 (.int .i64), .row .u8 1 (.cell (.slot 2) 0) false, .segs [.sl 1 1 .whole] (.slot 2) false, .ptr 2 2 1], [.ty (.int .i64)], u3 (eac_Parts_c1 F)⟩
theorem eac_Parts_c1_ok (F : Nat) : (eac_Parts_c1_told F).ok Tryz.prog :=
  okF callable (eac_Parts_c1_all F) (fn := Tryz.f205) [] (by kernel_rfl) aN fun d => by kernel_rfl
def eac_Parts_tab (F : Nat) : List ToldF := [eac_at_told F, eac_Parts_c1_told F]
theorem eac_Parts_all (F : Nat) : AllOk Tryz.prog (eac_Parts_tab F) := ⟨eac_at_ok F, eac_Parts_c1_ok F, trivial⟩
def eac_Parts_l0t (F : Nat) : TL := ⟨32, [.segs [.hole (.is .i64 16)] (.slot 5) true, .ptr 5 1 16, .segs [.hole (.is .i64 16)] (.slot 7) true, .ptr 7 2 16, .row .u8 1 (.cell (.cap (.slot 8) 0) 0) false, .segs [.sl 3 1 .whole] (.cap (.slot 8) 0) true, .fn 8 205 [.ptr 4 1], .slot 15 (.int .i64)], [.segs [.hole (.is .i64 16)] (.slot 5) true, .ptr 5 1 16, .segs [.hole (.is .i64 16)] (.slot 7) true, .ptr 7 2 16, .row .u8 1 (.cell (.cap (.slot 8) 0) 0) false, .segs [.sl 3 1 .whole] (.cap (.slot 8) 0) true, .fn 8 205 [.ptr 4 1]], 0, fun k => u4 (eac_Parts_l0 F k), fun k => u4 (eac_Parts_l0S F (eac_Parts_l0 F k))⟩
theorem eac_Parts_l0k (F : Nat) : (eac_Parts_l0t F).ok Tryz.prog Tryz.f173 F :=
  okL callable (eac_Parts_all F) [] aN (fun _ => rfl) (fun _ _ => rfl) fun k d => by kernel_rfl
def eac_Parts_told (F : Nat) : ToldF := ⟨173, 1, [.row .u8 1 (.slot 0) false], [.ty (.int .i64), .ty (.int .i64), .ty (.int .i64), .ty (.is .i64 16), .ty (.int .i64)], u1 (eac_Parts F)⟩
theorem eac_Parts_ok (F : Nat) : (eac_Parts_told F).ok Tryz.prog :=
  okF callable (eac_Parts_all F) (fn := Tryz.f173) [(0, (eac_Parts_l0t F).ann F)] (by kernel_rfl) (aL (by kernel_rfl) (eac_Parts_l0k F) aN) fun d => by kernel_rfl
def eac_Table_tab (F : Nat) : List ToldF := []
theorem eac_Table_all (F : Nat) : AllOk Tryz.prog (eac_Table_tab F) := trivial
def eac_Table_told (F : Nat) : ToldF := ⟨174, 1, [.slot 0 (.int .i64)], [.ty (.is .i64 8)], u1 (eac_Table F)⟩
theorem eac_Table_ok (F : Nat) : (eac_Table_told F).ok Tryz.prog :=
  okF callable (eac_Table_all F) (fn := Tryz.f174) [] (by kernel_rfl) aN fun d => by kernel_rfl
def level_Clamp_tab (F : Nat) : List ToldF := []
theorem level_Clamp_all (F : Nat) : AllOk Tryz.prog (level_Clamp_tab F) := trivial
def level_Clamp_told (F : Nat) : ToldF := ⟨137, 2, [.slot 0 (.int .i64), .slot 1 (.int .i64)], [.ty (.int .i64)], u2 (level_Clamp F)⟩
theorem level_Clamp_ok (F : Nat) : (level_Clamp_told F).ok Tryz.prog :=
  okF callable (level_Clamp_all F) (fn := Tryz.f137) [] (by kernel_rfl) aN fun d => by kernel_rfl
def eac_Value_tab (F : Nat) : List ToldF := [level_Clamp_told F]
theorem eac_Value_all (F : Nat) : AllOk Tryz.prog (eac_Value_tab F) := ⟨level_Clamp_ok F, trivial⟩
def eac_Value_told (F : Nat) : ToldF := ⟨144, 4, [.slot 0 (.int .i64), .slot 1 (.int .i64), .slot 2 (.int .i64), .slot 3 (.bool)], [.ty (.int .i64)], u4 (eac_Value F)⟩
theorem eac_Value_ok (F : Nat) : (eac_Value_told F).ok Tryz.prog :=
  okF callable (eac_Value_all F) (fn := Tryz.f144) [] (by kernel_rfl) aN fun d => by kernel_rfl
def eac_Decode_tab (F : Nat) : List ToldF := [eac_Parts_told F, eac_Table_told F, eac_Value_told F]
theorem eac_Decode_all (F : Nat) : AllOk Tryz.prog (eac_Decode_tab F) := ⟨eac_Parts_ok F, eac_Table_ok F, eac_Value_ok F, trivial⟩
def eac_Decode_l0t (F : Nat) : TL := ⟨44, [.slot 1 (.bool), .segs [.hole (.is .i64 16)] (.slot 4) true, .ptr 4 1 16, .slot 6 (.int .i64), .slot 7 (.int .i64), .segs [.hole (.is .i64 16)] (.slot 9) true, .ptr 9 2 16, .segs [.hole (.is .i64 8)] (.slot 11) true, .ptr 11 3 8, .slot 28 (.is .i64 16), .slot 29 (.int .i64)], [.segs [.hole (.is .i64 16)] (.slot 4) true, .ptr 4 1 16, .segs [.hole (.is .i64 16)] (.slot 9) true, .ptr 9 2 16], 0, fun k => u8 (eac_Decode_l0 F k), fun k => u8 (eac_Decode_l0S F (eac_Decode_l0 F k))⟩
theorem eac_Decode_l0k (F : Nat) : (eac_Decode_l0t F).ok Tryz.prog Tryz.f115 F :=
  okL callable (eac_Decode_all F) [] aN (fun _ => rfl) (fun _ _ => rfl) fun k d => by kernel_rfl
def eac_Decode_told (F : Nat) : ToldF := ⟨115, 2, [.row .u8 1 (.slot 0) false, .slot 1 (.bool)], [.ty (.is .i64 16), .ty (.int .i64)], u2 (eac_Decode F)⟩
theorem eac_Decode_ok (F : Nat) : (eac_Decode_told F).ok Tryz.prog :=
  okF callable (eac_Decode_all F) (fn := Tryz.f115) [(0, (eac_Decode_l0t F).ann F)] (by kernel_rfl) (aL (by kernel_rfl) (eac_Decode_l0k F) aN) fun d => by kernel_rfl
def bcfour_Parts_tab (F : Nat) : List ToldF := [bits_Lows_told F]
theorem bcfour_Parts_all (F : Nat) : AllOk Tryz.prog (bcfour_Parts_tab F) := ⟨bits_Lows_ok F, trivial⟩
def bcfour_Parts_told (F : Nat) : ToldF := ⟨175, 1, [.row .u8 1 (.slot 0) false], [.ty (.int .i64), .ty (.int .i64), .ty (.is .i64 16), .ty (.int .i64)], u1 (bcfour_Parts F)⟩
theorem bcfour_Parts_ok (F : Nat) : (bcfour_Parts_told F).ok Tryz.prog :=
  okF callable (bcfour_Parts_all F) (fn := Tryz.f175) [] (by kernel_rfl) aN fun d => by kernel_rfl
def bcfour_Ramp_tab (F : Nat) : List ToldF := [level_Mix_told F]
theorem bcfour_Ramp_all (F : Nat) : AllOk Tryz.prog (bcfour_Ramp_tab F) := ⟨level_Mix_ok F, trivial⟩
def bcfour_Ramp_l0t (F : Nat) : TL := ⟨31, [.slot 0 (.int .i64), .slot 1 (.int .i64), .segs [.hole (.is .i64 8)] (.slot 4) true, .ptr 4 1 8, .segs [.hole (.is .i64 8)] (.slot 5) true, .ptr 5 2 8, .slot 6 (.int .i64), .slot 16 (.int .i64), .slot 17 (.int .i64)], [.segs [.hole (.is .i64 8)] (.slot 4) true, .ptr 4 1 8, .segs [.hole (.is .i64 8)] (.slot 5) true, .ptr 5 2 8], 0, fun k => u7 (bcfour_Ramp_l0 F k), fun k => u7 (bcfour_Ramp_l0S F (bcfour_Ramp_l0 F k))⟩
theorem bcfour_Ramp_l0k (F : Nat) : (bcfour_Ramp_l0t F).ok Tryz.prog Tryz.f176 F :=
  okL callable (bcfour_Ramp_all F) [] aN (fun _ => rfl) (fun _ _ => rfl) fun k d => by kernel_rfl
def bcfour_Ramp_told (F : Nat) : ToldF := ⟨176, 2, [.slot 0 (.int .i64), .slot 1 (.int .i64)], [.ty (.is .i64 8)], u2 (bcfour_Ramp F)⟩
theorem bcfour_Ramp_ok (F : Nat) : (bcfour_Ramp_told F).ok Tryz.prog :=
  okF callable (bcfour_Ramp_all F) (fn := Tryz.f176) [(0, (bcfour_Ramp_l0t F).ann F)] (by kernel_rfl) (aL (by kernel_rfl) (bcfour_Ramp_l0k F) aN) fun d => by kernel_rfl
def bcfour_Decode_tab (F : Nat) : List ToldF := [bcfour_Parts_told F, bcfour_Ramp_told F]
theorem bcfour_Decode_all (F : Nat) : AllOk Tryz.prog (bcfour_Decode_tab F) := ⟨bcfour_Parts_ok F, bcfour_Ramp_ok F, trivial⟩
def bcfour_Decode_l0t (F : Nat) : TL := ⟨37, [.segs [.hole (.is .i64 16)] (.slot 2) true, .ptr 2 1 16, .segs [.hole (.is .i64 16)] (.slot 6) true, .ptr 6 2 16, .segs [.hole (.is .i64 8)] (.slot 8) true, .ptr 8 3 8, .slot 25 (.is .i64 16), .slot 26 (.int .i64)], [.segs [.hole (.is .i64 16)] (.slot 2) true, .ptr 2 1 16, .segs [.hole (.is .i64 16)] (.slot 6) true, .ptr 6 2 16], 0, fun k => u5 (bcfour_Decode_l0 F k), fun k => u5 (bcfour_Decode_l0S F (bcfour_Decode_l0 F k))⟩
theorem bcfour_Decode_l0k (F : Nat) : (bcfour_Decode_l0t F).ok Tryz.prog Tryz.f116 F :=
  okL callable (bcfour_Decode_all F) [] aN (fun _ => rfl) (fun _ _ => rfl) fun k d => by kernel_rfl
def bcfour_Decode_told (F : Nat) : ToldF := ⟨116, 1, [.row .u8 1 (.slot 0) false], [.ty (.is .i64 16), .ty (.int .i64)], u1 (bcfour_Decode F)⟩
theorem bcfour_Decode_ok (F : Nat) : (bcfour_Decode_told F).ok Tryz.prog :=
  okF callable (bcfour_Decode_all F) (fn := Tryz.f116) [(0, (bcfour_Decode_l0t F).ann F)] (by kernel_rfl) (aL (by kernel_rfl) (bcfour_Decode_l0k F) aN) fun d => by kernel_rfl
def format_decode_c1_tab (F : Nat) : List ToldF := [eac_Decode_told F, bcfour_Decode_told F]
theorem format_decode_c1_all (F : Nat) : AllOk Tryz.prog (format_decode_c1_tab F) := ⟨eac_Decode_ok F, bcfour_Decode_ok F, trivial⟩
def format_decode_c1_told (F : Nat) : ToldF := ⟨114, 2, [.row .u8 1 (.slot 0) false, .segs [.hole (.int .i64), .hole (.int .i64), .hole (.bool)] (.slot 1) false, .ptr 1 2 3], [.ty (.is .i64 16), .ty (.int .i64)], u4 (format_decode_c1 F)⟩
theorem format_decode_c1_ok (F : Nat) : (format_decode_c1_told F).ok Tryz.prog :=
  okF callable (format_decode_c1_all F) (fn := Tryz.f114) [] (by kernel_rfl) aN fun d => by kernel_rfl
def format_decode_c2_tab (F : Nat) : List ToldF := [format_with_told F, format_decode_c1_told F]
theorem format_decode_c2_all (F : Nat) : AllOk Tryz.prog (format_decode_c2_tab F) := ⟨format_with_ok F, format_decode_c1_ok F, trivial⟩
def format_decode_c2_told (F : Nat) : ToldF := ⟨117, 4, [.slot 0 (.is .i64 64), .slot 1 (.int .i64), .row .u8 1 (.slot 2) false, .segs [.hole (.int .i64), .hole (.int .i64), .hole (.bool)] (.cap (.cell (.slot 3) 0) 0) false, .segs [.fnp 114 [(2, 3)]] (.slot 3) false, .ptr 3 3 1], [.ty (.is .i64 64)], u6 (format_decode_c2 F)⟩
theorem format_decode_c2_ok (F : Nat) : (format_decode_c2_told F).ok Tryz.prog :=
  okF callable (format_decode_c2_all F) (fn := Tryz.f117) [] (by kernel_rfl) aN fun d => by kernel_rfl
def format_blank_tab (F : Nat) : List ToldF := []
theorem format_blank_all (F : Nat) : AllOk Tryz.prog (format_blank_tab F) := trivial
def format_blank_l0t (F : Nat) : TL := ⟨17, [.slot 0 (.bool), .segs [.hole (.is .i64 64)] (.slot 2) true, .ptr 2 1 64, .segs [.hole (.is .i64 64)] (.slot 3) true, .ptr 3 2 64, .slot 5 (.int .i64)], [.segs [.hole (.is .i64 64)] (.slot 2) true, .ptr 2 1 64, .segs [.hole (.is .i64 64)] (.slot 3) true, .ptr 3 2 64], 0, fun k => u4 (format_blank_l0 F k), fun k => u4 (format_blank_l0S F (format_blank_l0 F k))⟩
theorem format_blank_l0k (F : Nat) : (format_blank_l0t F).ok Tryz.prog Tryz.f122 F :=
  okL callable (format_blank_all F) [] aN (fun _ => rfl) (fun _ _ => rfl) fun k d => by kernel_rfl
def format_blank_told (F : Nat) : ToldF := ⟨122, 1, [.slot 0 (.bool)], [.ty (.is .i64 64)], u1 (format_blank F)⟩
theorem format_blank_ok (F : Nat) : (format_blank_told F).ok Tryz.prog :=
  okF callable (format_blank_all F) (fn := Tryz.f122) [(0, (format_blank_l0t F).ann F)] (by kernel_rfl) (aL (by kernel_rfl) (format_blank_l0k F) aN) fun d => by kernel_rfl
def math_bits_TrailingZeros8_tab (F : Nat) : List ToldF := []
theorem math_bits_TrailingZeros8_all (F : Nat) : AllOk Tryz.prog (math_bits_TrailingZeros8_tab F) := trivial
def math_bits_TrailingZeros8_told (F : Nat) : ToldF := ⟨212, 1, [.slot 0 (.int .u8)], [.ty (.int .i64)], u1 (math_bits_TrailingZeros8 F)⟩
theorem math_bits_TrailingZeros8_ok (F : Nat) : (math_bits_TrailingZeros8_told F).ok Tryz.prog :=
  okF callable (math_bits_TrailingZeros8_all F) (fn := Tryz.f212) [] (by kernel_rfl) aN fun d => by kernel_rfl
def bcseven_Mode_tab (F : Nat) : List ToldF := [math_bits_TrailingZeros8_told F]
theorem bcseven_Mode_all (F : Nat) : AllOk Tryz.prog (bcseven_Mode_tab F) := ⟨math_bits_TrailingZeros8_ok F, trivial⟩
def bcseven_Mode_told (F : Nat) : ToldF := ⟨180, 1, [.row .u8 1 (.slot 0) false], [.ty (.int .i64)], u1 (bcseven_Mode F)⟩
theorem bcseven_Mode_ok (F : Nat) : (bcseven_Mode_told F).ok Tryz.prog :=
  okF callable (bcseven_Mode_all F) (fn := Tryz.f180) [] (by kernel_rfl) aN fun d => by kernel_rfl
def bctable_Modes_tab (F : Nat) : List ToldF := []
theorem bctable_Modes_all (F : Nat) : AllOk Tryz.prog (bctable_Modes_tab F) := trivial
def bctable_Modes_told (F : Nat) : ToldF := ⟨213, 0, [], [.row .i64 10], u0 (bctable_Modes F)⟩
theorem bctable_Modes_ok (F : Nat) : (bctable_Modes_told F).ok Tryz.prog :=
  okF callable (bctable_Modes_all F) (fn := Tryz.f213) [] (by kernel_rfl) aN fun d => by kernel_rfl
def bcseven_read_c1_tab (F : Nat) : List ToldF := [bits_Low_told F]
theorem bcseven_read_c1_all (F : Nat) : AllOk Tryz.prog (bcseven_read_c1_tab F) := ⟨bits_Low_ok F, trivial⟩
def bcseven_read_c1_told (F : Nat) : ToldF := ⟨214, 3, [.slot 0 (.int .i64), .row .u8 1 (.cell (.slot 1) 0) false, .segs [.sl 1 1 .whole] (.slot 1) false, .ptr 1 2 1, .segs [.hole (.int .i64)] (.slot 2) true (some 2), .ptr 2 3 1], [.ty (.int .i64), .psegs 2 [.hole (.int .i64)]], u3 (bcseven_read_c1 F)⟩
theorem bcseven_read_c1_ok (F : Nat) : (bcseven_read_c1_told F).ok Tryz.prog :=
  okF callable (bcseven_read_c1_all F) (fn := Tryz.f214) [] (by kernel_rfl) aN fun d => by kernel_rfl
def bcseven_dealt_tab (F : Nat) : List ToldF := []
theorem bcseven_dealt_all (F : Nat) : AllOk Tryz.prog (bcseven_dealt_tab F) := trivial
def bcseven_dealt_told (F : Nat) : ToldF := ⟨215, 2, [.slot 0 (.agg [.int .i64, .int .i64, .int .i64, .int .i64, .int .i64, .int .i64, .int .i64, .int .i64, .int .i64, .int .i64]), .slot 1 (.int .i64)], [.ty (.int .i64)], u2 (bcseven_dealt F)⟩
theorem bcseven_dealt_ok (F : Nat) : (bcseven_dealt_told F).ok Tryz.prog :=
  okF callable (bcseven_dealt_all F) (fn := Tryz.f215) [] (by kernel_rfl) aN fun d => by kernel_rfl
def bcseven_fields_widen_read_c1_tab (F : Nat) : List ToldF := [level_Wide_told F, bcseven_read_c1_told F, bcseven_dealt_told F]
theorem bcseven_fields_widen_read_c1_all (F : Nat) : AllOk Tryz.prog (bcseven_fields_widen_read_c1_tab F) := ⟨level_Wide_ok F, bcseven_read_c1_ok F, bcseven_dealt_ok F, trivial⟩
def bcseven_fields_widen_read_c1_l2t (F : Nat) : TL := ⟨97, [.row .i64 4 (.cell (.slot 0) 13) true (some 0), .segs [.hole (.int .i64), .hole (.int .i64), .hole (.int .i64), .hole (.int .i64), .hole (.int .i64), .hole (.int .i64), .hole (.int .i64), .hole (.int .i64), .hole (.int .i64), .hole (.int .i64), .hole (.int .i64), .hole (.int .i64), .hole (.int .i64), .sl 1 4 .own, .hole (.is .i64 16), .hole (.is .i64 16)] (.slot 0) false, .ptr 0 2 46, .row .u8 1 (.cell (.cap (.slot 1) 0) 0) false, .segs [.sl 3 1 .whole] (.cap (.slot 1) 0) false, .segs [.hole (.int .i64)] (.cap (.slot 1) 1) true (some 4), .fn 1 214 [.ptr 4 1, .ptr 5 1], .slot 4 (.int .i64), .slot 5 (.int .i64), .slot 6 (.int .i64), .slot 24 (.int .i64), .slot 25 (.int .i64), .slot 55 (.is .i64 4), .slot 56 (.int .i64)], [.row .i64 4 (.cell (.slot 0) 13) true (some 0), .segs [.hole (.int .i64), .hole (.int .i64), .hole (.int .i64), .hole (.int .i64), .hole (.int .i64), .hole (.int .i64), .hole (.int .i64), .hole (.int .i64), .hole (.int .i64), .hole (.int .i64), .hole (.int .i64), .hole (.int .i64), .hole (.int .i64), .sl 1 4 .own, .hole (.is .i64 16), .hole (.is .i64 16)] (.slot 0) false, .ptr 0 2 46, .row .u8 1 (.cell (.cap (.slot 1) 0) 0) false, .segs [.sl 3 1 .whole] (.cap (.slot 1) 0) false, .segs [.hole (.int .i64)] (.cap (.slot 1) 1) true (some 4), .fn 1 214 [.ptr 4 1, .ptr 5 1], .slot 4 (.int .i64), .slot 5 (.int .i64), .slot 6 (.int .i64), .slot 24 (.int .i64), .slot 25 (.int .i64)], 2, fun k => u25 (bcseven_fields_widen_read_c1_l2 F k), fun k => u25 (bcseven_fields_widen_read_c1_l2S F (bcseven_fields_widen_read_c1_l2 F k))⟩
theorem bcseven_fields_widen_read_c1_l2k (F : Nat) : (bcseven_fields_widen_read_c1_l2t F).ok Tryz.prog Tryz.f216 F :=
  okL callable (bcseven_fields_widen_read_c1_all F) [] aN (fun _ => rfl) (fun _ _ => rfl) fun k d => by kernel_rfl
def bcseven_fields_widen_read_c1_l0t (F : Nat) : TL := ⟨97, [.row .i64 4 (.cell (.slot 0) 13) true (some 0), .segs [.hole (.int .i64), .hole (.int .i64), .hole (.int .i64), .hole (.int .i64), .hole (.int .i64), .hole (.int .i64), .hole (.int .i64), .hole (.int .i64), .hole (.int .i64), .hole (.int .i64), .hole (.int .i64), .hole (.int .i64), .hole (.int .i64), .sl 1 4 .own, .hole (.is .i64 16), .hole (.is .i64 16)] (.slot 0) false, .ptr 0 2 46, .row .u8 1 (.cell (.cap (.slot 1) 0) 0) false, .segs [.sl 3 1 .whole] (.cap (.slot 1) 0) false, .segs [.hole (.int .i64)] (.cap (.slot 1) 1) true (some 4), .fn 1 214 [.ptr 4 1, .ptr 5 1], .slot 4 (.int .i64), .slot 5 (.int .i64), .slot 24 (.int .i64), .slot 25 (.int .i64)], [.row .i64 4 (.cell (.slot 0) 13) true (some 0), .segs [.hole (.int .i64), .hole (.int .i64), .hole (.int .i64), .hole (.int .i64), .hole (.int .i64), .hole (.int .i64), .hole (.int .i64), .hole (.int .i64), .hole (.int .i64), .hole (.int .i64), .hole (.int .i64), .hole (.int .i64), .hole (.int .i64), .sl 1 4 .own, .hole (.is .i64 16), .hole (.is .i64 16)] (.slot 0) false, .ptr 0 2 46, .row .u8 1 (.cell (.cap (.slot 1) 0) 0) false, .segs [.sl 3 1 .whole] (.cap (.slot 1) 0) false, .segs [.hole (.int .i64)] (.cap (.slot 1) 1) true (some 4), .fn 1 214 [.ptr 4 1, .ptr 5 1]], 0, fun k => u22 (bcseven_fields_widen_read_c1_l0 F k), fun k => u22 (bcseven_fields_widen_read_c1_l0S F (bcseven_fields_widen_read_c1_l0 F k))⟩
theorem bcseven_fields_widen_read_c1_l0k (F : Nat) : (bcseven_fields_widen_read_c1_l0t F).ok Tryz.prog Tryz.f216 F :=
  okL callable (bcseven_fields_widen_read_c1_all F) [(2, (bcseven_fields_widen_read_c1_l2t F).ann F)] (aL (by kernel_rfl) (bcseven_fields_widen_read_c1_l2k F) aN) (fun _ => rfl) (fun _ _ => rfl) fun k d => by kernel_rfl
def bcseven_fields_widen_read_c1_told (F : Nat) : ToldF := ⟨216, 2, [.row .i64 4 (.cell (.slot 0) 13) true (some 0), .segs [.hole (.int .i64), .hole (.int .i64), .hole (.int .i64), .hole (.int .i64), .hole (.int .i64), .hole (.int .i64), .hole (.int .i64), .hole (.int .i64), .hole (.int .i64), .hole (.int .i64), .hole (.int .i64), .hole (.int .i64), .hole (.int .i64), .sl 1 4 .own, .hole (.is .i64 16), .hole (.is .i64 16)] (.slot 0) false, .ptr 0 2 46, .row .u8 1 (.cell (.cap (.slot 1) 0) 0) false, .segs [.sl 3 1 .whole] (.cap (.slot 1) 0) false, .segs [.hole (.int .i64)] (.cap (.slot 1) 1) true (some 4), .fn 1 214 [.ptr 4 1, .ptr 5 1]], [.prow 0 .i64, .psegs 4 [.hole (.int .i64)]], u18 (bcseven_fields_widen_read_c1 F)⟩
theorem bcseven_fields_widen_read_c1_ok (F : Nat) : (bcseven_fields_widen_read_c1_told F).ok Tryz.prog :=
  okF callable (bcseven_fields_widen_read_c1_all F) (fn := Tryz.f216) [(2, (bcseven_fields_widen_read_c1_l2t F).ann F), (0, (bcseven_fields_widen_read_c1_l0t F).ann F)] (by kernel_rfl) (aL (by kernel_rfl) (bcseven_fields_widen_read_c1_l2k F) (aL (by kernel_rfl) (bcseven_fields_widen_read_c1_l0k F) aN)) fun d => by kernel_rfl
def bctable_anchors_tab (F : Nat) : List ToldF := []
theorem bctable_anchors_all (F : Nat) : AllOk Tryz.prog (bctable_anchors_tab F) := trivial
def bctable_anchors_told (F : Nat) : ToldF := ⟨243, 1, [.slot 0 (.agg [.int .i64, .int .i64])], [.row .u8 1], u1 (bctable_anchors F)⟩
theorem bctable_anchors_ok (F : Nat) : (bctable_anchors_told F).ok Tryz.prog :=
  okF callable (bctable_anchors_all F) (fn := Tryz.f243) [] (by kernel_rfl) aN fun d => by kernel_rfl
def bctable_in_tab (F : Nat) : List ToldF := []
theorem bctable_in_all (F : Nat) : AllOk Tryz.prog (bctable_in_tab F) := trivial
def bctable_in_told (F : Nat) : ToldF := ⟨237, 2, [.slot 0 (.int .i64), .slot 1 (.int .i64)], [.ty (.bool)], u2 (bctable_in F)⟩
theorem bctable_in_ok (F : Nat) : (bctable_in_told F).ok Tryz.prog :=
  okF callable (bctable_in_all F) (fn := Tryz.f237) [] (by kernel_rfl) aN fun d => by kernel_rfl
def bctable_Anchor_tab (F : Nat) : List ToldF := [bctable_anchors_told F, bctable_in_told F]
theorem bctable_Anchor_all (F : Nat) : AllOk Tryz.prog (bctable_Anchor_tab F) := ⟨bctable_anchors_ok F, bctable_in_ok F, trivial⟩
def bctable_Anchor_told (F : Nat) : ToldF := ⟨236, 3, [.slot 0 (.int .i64), .slot 1 (.int .i64), .slot 2 (.int .i64)], [.ty (.int .i64)], u3 (bctable_Anchor F)⟩
theorem bctable_Anchor_ok (F : Nat) : (bctable_Anchor_told F).ok Tryz.prog :=
  okF callable (bctable_Anchor_all F) (fn := Tryz.f236) [] (by kernel_rfl) aN fun d => by kernel_rfl
def bcseven_fields_lacks_tab (F : Nat) : List ToldF := [bctable_Anchor_told F]
theorem bcseven_fields_lacks_all (F : Nat) : AllOk Tryz.prog (bcseven_fields_lacks_tab F) := ⟨bctable_Anchor_ok F, trivial⟩
def bcseven_fields_lacks_l0t (F : Nat) : TL := ⟨35, [.row .i64 4 (.cell (.slot 0) 13) false, .segs [.hole (.int .i64), .hole (.int .i64), .hole (.int .i64), .hole (.int .i64), .hole (.int .i64), .hole (.int .i64), .hole (.int .i64), .hole (.int .i64), .hole (.int .i64), .hole (.int .i64), .hole (.int .i64), .hole (.int .i64), .hole (.int .i64), .sl 1 4 .whole, .hole (.is .i64 16), .hole (.is .i64 16)] (.slot 0) false, .ptr 0 2 46, .slot 1 (.int .i64), .slot 5 (.bool), .slot 6 (.int .i64)], [.slot 5 (.bool)], 0, fun k => u19 (bcseven_fields_lacks_l0 F k), fun k => u19 (bcseven_fields_lacks_l0S F (bcseven_fields_lacks_l0 F k))⟩
theorem bcseven_fields_lacks_l0k (F : Nat) : (bcseven_fields_lacks_l0t F).ok Tryz.prog Tryz.f217 F :=
  okL callable (bcseven_fields_lacks_all F) [] aN (fun _ => rfl) (fun _ _ => rfl) fun k d => by kernel_rfl
def bcseven_fields_lacks_told (F : Nat) : ToldF := ⟨217, 2, [.row .i64 4 (.cell (.slot 0) 13) false, .segs [.hole (.int .i64), .hole (.int .i64), .hole (.int .i64), .hole (.int .i64), .hole (.int .i64), .hole (.int .i64), .hole (.int .i64), .hole (.int .i64), .hole (.int .i64), .hole (.int .i64), .hole (.int .i64), .hole (.int .i64), .hole (.int .i64), .sl 1 4 .whole, .hole (.is .i64 16), .hole (.is .i64 16)] (.slot 0) false, .ptr 0 2 46, .slot 1 (.int .i64)], [.ty (.int .i64)], u17 (bcseven_fields_lacks F)⟩
theorem bcseven_fields_lacks_ok (F : Nat) : (bcseven_fields_lacks_told F).ok Tryz.prog :=
  okF callable (bcseven_fields_lacks_all F) (fn := Tryz.f217) [(0, (bcseven_fields_lacks_l0t F).ann F)] (by kernel_rfl) (aL (by kernel_rfl) (bcseven_fields_lacks_l0k F) aN) fun d => by kernel_rfl
def bcseven_read_tab (F : Nat) : List ToldF := [bctable_Modes_told F, bcseven_read_c1_told F, bcseven_dealt_told F, bcseven_fields_widen_read_c1_told F, bcseven_fields_lacks_told F]
theorem bcseven_read_all (F : Nat) : AllOk Tryz.prog (bcseven_read_tab F) := ⟨bctable_Modes_ok F, bcseven_read_c1_ok F, bcseven_dealt_ok F, bcseven_fields_widen_read_c1_ok F, bcseven_fields_lacks_ok F, trivial⟩
def bcseven_read_l2t (F : Nat) : TL := ⟨105, [.segs [.const (.int .i64 (some 0) 0), .const (.int .i64 (some 0) 0), .const (.int .i64 (some 0) 0), .const (.int .i64 (some 0) 0), .const (.int .i64 (some 0) 0), .const (.int .i64 (some 0) 0), .const (.int .i64 (some 0) 0), .const (.int .i64 (some 0) 0), .const (.int .i64 (some 0) 0), .const (.int .i64 (some 0) 0), .const (.int .i64 (some 0) 0), .const (.int .i64 (some 0) 0), .const (.int .i64 (some 0) 0), .const .nils, .hole (.is .i64 16), .hole (.is .i64 16)] (.slot 4) true, .ptr 4 1 46, .row .i64 4 (.cell (.slot 5) 13) true, .segs [.hole (.int .i64), .hole (.int .i64), .hole (.int .i64), .hole (.int .i64), .hole (.int .i64), .hole (.int .i64), .hole (.int .i64), .hole (.int .i64), .hole (.int .i64), .hole (.int .i64), .hole (.int .i64), .hole (.int .i64), .hole (.int .i64), .sl 2 4 .own, .hole (.is .i64 16), .hole (.is .i64 16)] (.slot 5) true, .ptr 5 3 46, .row .u8 1 (.cell (.cap (.slot 7) 0) 0) false, .segs [.sl 4 1 .whole] (.cap (.slot 7) 0) true, .segs [.hole (.int .i64)] (.cap (.slot 7) 1) true, .fn 7 214 [.ptr 5 1, .ptr 6 1], .slot 8 (.int .i64), .slot 44 (.int .i64), .slot 49 (.int .i64), .slot 50 (.int .i64)], [.segs [.const (.int .i64 (some 0) 0), .const (.int .i64 (some 0) 0), .const (.int .i64 (some 0) 0), .const (.int .i64 (some 0) 0), .const (.int .i64 (some 0) 0), .const (.int .i64 (some 0) 0), .const (.int .i64 (some 0) 0), .const (.int .i64 (some 0) 0), .const (.int .i64 (some 0) 0), .const (.int .i64 (some 0) 0), .const (.int .i64 (some 0) 0), .const (.int .i64 (some 0) 0), .const (.int .i64 (some 0) 0), .const .nils, .hole (.is .i64 16), .hole (.is .i64 16)] (.slot 4) true, .ptr 4 1 46, .row .i64 4 (.cell (.slot 5) 13) true, .segs [.hole (.int .i64), .hole (.int .i64), .hole (.int .i64), .hole (.int .i64), .hole (.int .i64), .hole (.int .i64), .hole (.int .i64), .hole (.int .i64), .hole (.int .i64), .hole (.int .i64), .hole (.int .i64), .hole (.int .i64), .hole (.int .i64), .sl 2 4 .own, .hole (.is .i64 16), .hole (.is .i64 16)] (.slot 5) true, .ptr 5 3 46, .row .u8 1 (.cell (.cap (.slot 7) 0) 0) false, .segs [.sl 4 1 .whole] (.cap (.slot 7) 0) true, .segs [.hole (.int .i64)] (.cap (.slot 7) 1) true, .fn 7 214 [.ptr 5 1, .ptr 6 1], .slot 44 (.int .i64)], 2, fun k => u24 (bcseven_read_l2 F k), fun k => u24 (bcseven_read_l2S F (bcseven_read_l2 F k))⟩
theorem bcseven_read_l2k (F : Nat) : (bcseven_read_l2t F).ok Tryz.prog Tryz.f181 F :=
  okL callable (bcseven_read_all F) [] aN (fun _ => rfl) (fun _ _ => rfl) fun k d => by kernel_rfl
def bcseven_read_l0t (F : Nat) : TL := ⟨105, [.segs [.const (.int .i64 (some 0) 0), .const (.int .i64 (some 0) 0), .const (.int .i64 (some 0) 0), .const (.int .i64 (some 0) 0), .const (.int .i64 (some 0) 0), .const (.int .i64 (some 0) 0), .const (.int .i64 (some 0) 0), .const (.int .i64 (some 0) 0), .const (.int .i64 (some 0) 0), .const (.int .i64 (some 0) 0), .const (.int .i64 (some 0) 0), .const (.int .i64 (some 0) 0), .const (.int .i64 (some 0) 0), .const .nils, .hole (.is .i64 16), .hole (.is .i64 16)] (.slot 4) true, .ptr 4 1 46, .row .i64 4 (.cell (.slot 5) 13) true, .segs [.hole (.int .i64), .hole (.int .i64), .hole (.int .i64), .hole (.int .i64), .hole (.int .i64), .hole (.int .i64), .hole (.int .i64), .hole (.int .i64), .hole (.int .i64), .hole (.int .i64), .hole (.int .i64), .hole (.int .i64), .hole (.int .i64), .sl 2 4 .own, .hole (.is .i64 16), .hole (.is .i64 16)] (.slot 5) true, .ptr 5 3 46, .row .u8 1 (.cell (.cap (.slot 7) 0) 0) false, .segs [.sl 4 1 .whole] (.cap (.slot 7) 0) true, .segs [.hole (.int .i64)] (.cap (.slot 7) 1) true, .fn 7 214 [.ptr 5 1, .ptr 6 1], .slot 44 (.int .i64)], [.segs [.const (.int .i64 (some 0) 0), .const (.int .i64 (some 0) 0), .const (.int .i64 (some 0) 0), .const (.int .i64 (some 0) 0), .const (.int .i64 (some 0) 0), .const (.int .i64 (some 0) 0), .const (.int .i64 (some 0) 0), .const (.int .i64 (some 0) 0), .const (.int .i64 (some 0) 0), .const (.int .i64 (some 0) 0), .const (.int .i64 (some 0) 0), .const (.int .i64 (some 0) 0), .const (.int .i64 (some 0) 0), .const .nils, .hole (.is .i64 16), .hole (.is .i64 16)] (.slot 4) true, .ptr 4 1 46, .row .i64 4 (.cell (.slot 5) 13) true, .segs [.hole (.int .i64), .hole (.int .i64), .hole (.int .i64), .hole (.int .i64), .hole (.int .i64), .hole (.int .i64), .hole (.int .i64), .hole (.int .i64), .hole (.int .i64), .hole (.int .i64), .hole (.int .i64), .hole (.int .i64), .hole (.int .i64), .sl 2 4 .own, .hole (.is .i64 16), .hole (.is .i64 16)] (.slot 5) true, .ptr 5 3 46, .row .u8 1 (.cell (.cap (.slot 7) 0) 0) false, .segs [.sl 4 1 .whole] (.cap (.slot 7) 0) true, .segs [.hole (.int .i64)] (.cap (.slot 7) 1) true, .fn 7 214 [.ptr 5 1, .ptr 6 1]], 0, fun k => u21 (bcseven_read_l0 F k), fun k => u21 (bcseven_read_l0S F (bcseven_read_l0 F k))⟩
theorem bcseven_read_l0k (F : Nat) : (bcseven_read_l0t F).ok Tryz.prog Tryz.f181 F :=
  okL callable (bcseven_read_all F) [(2, (bcseven_read_l2t F).ann F)] (aL (by kernel_rfl) (bcseven_read_l2k F) aN) (fun _ => rfl) (fun _ _ => rfl) fun k d => by kernel_rfl
def bcseven_read_l4t (F : Nat) : TL := ⟨105, [.segs [.const (.int .i64 (some 0) 0), .const (.int .i64 (some 0) 0), .const (.int .i64 (some 0) 0), .const (.int .i64 (some 0) 0), .const (.int .i64 (some 0) 0), .const (.int .i64 (some 0) 0), .const (.int .i64 (some 0) 0), .const (.int .i64 (some 0) 0), .const (.int .i64 (some 0) 0), .const (.int .i64 (some 0) 0), .const (.int .i64 (some 0) 0), .const (.int .i64 (some 0) 0), .const (.int .i64 (some 0) 0), .const .nils, .hole (.is .i64 16), .hole (.is .i64 16)] (.slot 4) true, .ptr 4 1 46, .row .i64 4 (.cell (.slot 5) 13) true, .segs [.hole (.int .i64), .hole (.int .i64), .hole (.int .i64), .hole (.int .i64), .hole (.int .i64), .hole (.int .i64), .hole (.int .i64), .hole (.int .i64), .hole (.int .i64), .hole (.int .i64), .hole (.int .i64), .hole (.int .i64), .hole (.int .i64), .sl 2 4 .own, .hole (.is .i64 16), .hole (.is .i64 16)] (.slot 5) true, .ptr 5 3 46, .row .u8 1 (.cell (.cap (.slot 7) 0) 0) false, .segs [.sl 4 1 .whole] (.cap (.slot 7) 0) true, .segs [.hole (.int .i64)] (.cap (.slot 7) 1) true, .fn 7 214 [.ptr 5 1, .ptr 6 1], .slot 69 (.int .i64)], [.segs [.const (.int .i64 (some 0) 0), .const (.int .i64 (some 0) 0), .const (.int .i64 (some 0) 0), .const (.int .i64 (some 0) 0), .const (.int .i64 (some 0) 0), .const (.int .i64 (some 0) 0), .const (.int .i64 (some 0) 0), .const (.int .i64 (some 0) 0), .const (.int .i64 (some 0) 0), .const (.int .i64 (some 0) 0), .const (.int .i64 (some 0) 0), .const (.int .i64 (some 0) 0), .const (.int .i64 (some 0) 0), .const .nils, .hole (.is .i64 16), .hole (.is .i64 16)] (.slot 4) true, .ptr 4 1 46, .row .i64 4 (.cell (.slot 5) 13) true, .segs [.hole (.int .i64), .hole (.int .i64), .hole (.int .i64), .hole (.int .i64), .hole (.int .i64), .hole (.int .i64), .hole (.int .i64), .hole (.int .i64), .hole (.int .i64), .hole (.int .i64), .hole (.int .i64), .hole (.int .i64), .hole (.int .i64), .sl 2 4 .own, .hole (.is .i64 16), .hole (.is .i64 16)] (.slot 5) true, .ptr 5 3 46, .row .u8 1 (.cell (.cap (.slot 7) 0) 0) false, .segs [.sl 4 1 .whole] (.cap (.slot 7) 0) true, .segs [.hole (.int .i64)] (.cap (.slot 7) 1) true, .fn 7 214 [.ptr 5 1, .ptr 6 1]], 4, fun k => u21 (bcseven_read_l4 F k), fun k => u21 (bcseven_read_l4S F (bcseven_read_l4 F k))⟩
theorem bcseven_read_l4k (F : Nat) : (bcseven_read_l4t F).ok Tryz.prog Tryz.f181 F :=
  okL callable (bcseven_read_all F) [] aN (fun _ => rfl) (fun _ _ => rfl) fun k d => by kernel_rfl
def bcseven_read_l6t (F : Nat) : TL := ⟨105, [.segs [.const (.int .i64 (some 0) 0), .const (.int .i64 (some 0) 0), .const (.int .i64 (some 0) 0), .const (.int .i64 (some 0) 0), .const (.int .i64 (some 0) 0), .const (.int .i64 (some 0) 0), .const (.int .i64 (some 0) 0), .const (.int .i64 (some 0) 0), .const (.int .i64 (some 0) 0), .const (.int .i64 (some 0) 0), .const (.int .i64 (some 0) 0), .const (.int .i64 (some 0) 0), .const (.int .i64 (some 0) 0), .const .nils, .hole (.is .i64 16), .hole (.is .i64 16)] (.slot 4) true, .ptr 4 1 46, .row .i64 4 (.cell (.slot 5) 13) true, .segs [.hole (.int .i64), .hole (.int .i64), .hole (.int .i64), .hole (.int .i64), .hole (.int .i64), .hole (.int .i64), .hole (.int .i64), .hole (.int .i64), .hole (.int .i64), .hole (.int .i64), .hole (.int .i64), .hole (.int .i64), .hole (.int .i64), .sl 2 4 .own, .hole (.is .i64 16), .hole (.is .i64 16)] (.slot 5) true, .ptr 5 3 46, .row .u8 1 (.cell (.cap (.slot 7) 0) 0) false, .segs [.sl 4 1 .whole] (.cap (.slot 7) 0) true, .segs [.hole (.int .i64)] (.cap (.slot 7) 1) true, .fn 7 214 [.ptr 5 1, .ptr 6 1], .slot 88 (.int .i64)], [.segs [.const (.int .i64 (some 0) 0), .const (.int .i64 (some 0) 0), .const (.int .i64 (some 0) 0), .const (.int .i64 (some 0) 0), .const (.int .i64 (some 0) 0), .const (.int .i64 (some 0) 0), .const (.int .i64 (some 0) 0), .const (.int .i64 (some 0) 0), .const (.int .i64 (some 0) 0), .const (.int .i64 (some 0) 0), .const (.int .i64 (some 0) 0), .const (.int .i64 (some 0) 0), .const (.int .i64 (some 0) 0), .const .nils, .hole (.is .i64 16), .hole (.is .i64 16)] (.slot 4) true, .ptr 4 1 46, .row .i64 4 (.cell (.slot 5) 13) true, .segs [.hole (.int .i64), .hole (.int .i64), .hole (.int .i64), .hole (.int .i64), .hole (.int .i64), .hole (.int .i64), .hole (.int .i64), .hole (.int .i64), .hole (.int .i64), .hole (.int .i64), .hole (.int .i64), .hole (.int .i64), .hole (.int .i64), .sl 2 4 .own, .hole (.is .i64 16), .hole (.is .i64 16)] (.slot 5) true, .ptr 5 3 46], 6, fun k => u21 (bcseven_read_l6 F k), fun k => u21 (bcseven_read_l6S F (bcseven_read_l6 F k))⟩
theorem bcseven_read_l6k (F : Nat) : (bcseven_read_l6t F).ok Tryz.prog Tryz.f181 F :=
  okL callable (bcseven_read_all F) [] aN (fun _ => rfl) (fun _ _ => rfl) fun k d => by kernel_rfl
def bcseven_read_told (F : Nat) : ToldF := ⟨181, 2, [.row .u8 1 (.slot 0) false, .slot 1 (.int .i64)], [.agg [.hole (.int .i64), .hole (.int .i64), .hole (.int .i64), .hole (.int .i64), .hole (.int .i64), .hole (.int .i64), .hole (.int .i64), .hole (.int .i64), .hole (.int .i64), .hole (.int .i64), .hole (.int .i64), .hole (.int .i64), .hole (.int .i64), .row .i64 4 true, .hole (.is .i64 16), .hole (.is .i64 16)]], u2 (bcseven_read F)⟩
theorem bcseven_read_ok (F : Nat) : (bcseven_read_told F).ok Tryz.prog :=
  okF callable (bcseven_read_all F) (fn := Tryz.f181) [(2, (bcseven_read_l2t F).ann F), (0, (bcseven_read_l0t F).ann F), (4, (bcseven_read_l4t F).ann F), (6, (bcseven_read_l6t F).ann F)] (by kernel_rfl) (aL (by kernel_rfl) (bcseven_read_l2k F) (aL (by kernel_rfl) (bcseven_read_l0k F) (aL (by kernel_rfl) (bcseven_read_l4k F) (aL (by kernel_rfl) (bcseven_read_l6k F) aN)))) fun d => by kernel_rfl
def bctable_three_tab (F : Nat) : List ToldF := []
theorem bctable_three_all (F : Nat) : AllOk Tryz.prog (bctable_three_tab F) := trivial
def bctable_three_told (F : Nat) : ToldF := ⟨238, 0, [], [.ty (.is .u32 64)], u0 (bctable_three F)⟩
theorem bctable_three_ok (F : Nat) : (bctable_three_told F).ok Tryz.prog :=
  okF callable (bctable_three_all F) (fn := Tryz.f238) [] (by kernel_rfl) aN fun d => by kernel_rfl
def bctable_two_tab (F : Nat) : List ToldF := []
theorem bctable_two_all (F : Nat) : AllOk Tryz.prog (bctable_two_tab F) := trivial
def bctable_two_told (F : Nat) : ToldF := ⟨239, 0, [], [.ty (.is .u16 64)], u0 (bctable_two F)⟩
theorem bctable_two_ok (F : Nat) : (bctable_two_told F).ok Tryz.prog :=
  okF callable (bctable_two_all F) (fn := Tryz.f239) [] (by kernel_rfl) aN fun d => by kernel_rfl
def bctable_Part_tab (F : Nat) : List ToldF := [bctable_in_told F, bctable_three_told F, bctable_two_told F]
theorem bctable_Part_all (F : Nat) : AllOk Tryz.prog (bctable_Part_tab F) := ⟨bctable_in_ok F, bctable_three_ok F, bctable_two_ok F, trivial⟩
def bctable_Part_told (F : Nat) : ToldF := ⟨218, 3, [.slot 0 (.int .i64), .slot 1 (.int .i64), .slot 2 (.int .i64)], [.ty (.int .i64)], u3 (bctable_Part F)⟩
theorem bctable_Part_ok (F : Nat) : (bctable_Part_told F).ok Tryz.prog :=
  okF callable (bctable_Part_all F) (fn := Tryz.f218) [] (by kernel_rfl) aN fun d => by kernel_rfl
def bctable_Weights_tab (F : Nat) : List ToldF := []
theorem bctable_Weights_all (F : Nat) : AllOk Tryz.prog (bctable_Weights_tab F) := trivial
def bctable_Weights_told (F : Nat) : ToldF := ⟨240, 1, [.slot 0 (.int .i64)], [.row .i64 1], u1 (bctable_Weights F)⟩
theorem bctable_Weights_ok (F : Nat) : (bctable_Weights_told F).ok Tryz.prog :=
  okF callable (bctable_Weights_all F) (fn := Tryz.f240) [] (by kernel_rfl) aN fun d => by kernel_rfl
def bcseven_mix_tab (F : Nat) : List ToldF := [level_Mix_told F, bctable_Weights_told F]
theorem bcseven_mix_all (F : Nat) : AllOk Tryz.prog (bcseven_mix_tab F) := ⟨level_Mix_ok F, bctable_Weights_ok F, trivial⟩
def bcseven_mix_told (F : Nat) : ToldF := ⟨219, 4, [.slot 0 (.int .i64), .slot 1 (.int .i64), .slot 2 (.int .i64), .slot 3 (.int .i64)], [.ty (.int .i64)], u4 (bcseven_mix F)⟩
theorem bcseven_mix_ok (F : Nat) : (bcseven_mix_told F).ok Tryz.prog :=
  okF callable (bcseven_mix_all F) (fn := Tryz.f219) [] (by kernel_rfl) aN fun d => by kernel_rfl
def bcseven_fields_texel_tab (F : Nat) : List ToldF := [bctable_Part_told F, bcseven_mix_told F]
theorem bcseven_fields_texel_all (F : Nat) : AllOk Tryz.prog (bcseven_fields_texel_tab F) := ⟨bctable_Part_ok F, bcseven_mix_ok F, trivial⟩
def bcseven_fields_texel_l0t (F : Nat) : TL := ⟨126, [.row .i64 4 (.cell (.slot 0) 13) false, .segs [.hole (.int .i64), .hole (.int .i64), .hole (.int .i64), .hole (.int .i64), .hole (.int .i64), .hole (.int .i64), .hole (.int .i64), .hole (.int .i64), .hole (.int .i64), .hole (.int .i64), .hole (.int .i64), .hole (.int .i64), .hole (.int .i64), .sl 1 4 .whole, .hole (.is .i64 16), .hole (.is .i64 16)] (.slot 0) false, .ptr 0 2 46, .segs [.hole (.is .i64 4)] (.slot 4) true, .ptr 4 3 4, .segs [.hole (.is .i64 4)] (.slot 6) true, .ptr 6 4 4, .segs [.hole (.is .i64 4)] (.slot 7) true, .ptr 7 5 4, .slot 8 (.int .i64), .slot 9 (.int .i64), .slot 10 (.int .i64), .slot 11 (.int .i64), .segs [.hole (.is .i64 4)] (.slot 12) true, .ptr 12 6 4, .slot 81 (.int .i64)], [.row .i64 4 (.cell (.slot 0) 13) false, .segs [.hole (.int .i64), .hole (.int .i64), .hole (.int .i64), .hole (.int .i64), .hole (.int .i64), .hole (.int .i64), .hole (.int .i64), .hole (.int .i64), .hole (.int .i64), .hole (.int .i64), .hole (.int .i64), .hole (.int .i64), .hole (.int .i64), .sl 1 4 .whole, .hole (.is .i64 16), .hole (.is .i64 16)] (.slot 0) false, .ptr 0 2 46, .segs [.hole (.is .i64 4)] (.slot 4) true, .ptr 4 3 4, .segs [.hole (.is .i64 4)] (.slot 6) true, .ptr 6 4 4, .segs [.hole (.is .i64 4)] (.slot 7) true, .ptr 7 5 4, .slot 10 (.int .i64), .slot 11 (.int .i64), .segs [.hole (.is .i64 4)] (.slot 12) true, .ptr 12 6 4], 0, fun k => u25 (bcseven_fields_texel_l0 F k), fun k => u25 (bcseven_fields_texel_l0S F (bcseven_fields_texel_l0 F k))⟩
theorem bcseven_fields_texel_l0k (F : Nat) : (bcseven_fields_texel_l0t F).ok Tryz.prog Tryz.f182 F :=
  okL callable (bcseven_fields_texel_all F) [] aN (fun _ => rfl) (fun _ _ => rfl) fun k d => by kernel_rfl
def bcseven_fields_texel_told (F : Nat) : ToldF := ⟨182, 2, [.row .i64 4 (.cell (.slot 0) 13) false, .segs [.hole (.int .i64), .hole (.int .i64), .hole (.int .i64), .hole (.int .i64), .hole (.int .i64), .hole (.int .i64), .hole (.int .i64), .hole (.int .i64), .hole (.int .i64), .hole (.int .i64), .hole (.int .i64), .hole (.int .i64), .hole (.int .i64), .sl 1 4 .whole, .hole (.is .i64 16), .hole (.is .i64 16)] (.slot 0) false, .ptr 0 2 46, .slot 1 (.int .i64)], [.ty (.is .i64 4)], u17 (bcseven_fields_texel F)⟩
theorem bcseven_fields_texel_ok (F : Nat) : (bcseven_fields_texel_told F).ok Tryz.prog :=
  okF callable (bcseven_fields_texel_all F) (fn := Tryz.f182) [(0, (bcseven_fields_texel_l0t F).ann F)] (by kernel_rfl) (aL (by kernel_rfl) (bcseven_fields_texel_l0k F) aN) fun d => by kernel_rfl
def bcseven_Decode_tab (F : Nat) : List ToldF := [bcseven_Mode_told F, bcseven_read_told F, bcseven_fields_texel_told F]
theorem bcseven_Decode_all (F : Nat) : AllOk Tryz.prog (bcseven_Decode_tab F) := ⟨bcseven_Mode_ok F, bcseven_read_ok F, bcseven_fields_texel_ok F, trivial⟩
def bcseven_Decode_l0t (F : Nat) : TL := ⟨29, [.segs [.hole (.is .i64 64)] (.slot 2) true, .ptr 2 1 64, .segs [.hole (.is .i64 64)] (.slot 4) true, .ptr 4 2 64, .row .i64 4 (.cell (.slot 6) 13) true, .segs [.hole (.int .i64), .hole (.int .i64), .hole (.int .i64), .hole (.int .i64), .hole (.int .i64), .hole (.int .i64), .hole (.int .i64), .hole (.int .i64), .hole (.int .i64), .hole (.int .i64), .hole (.int .i64), .hole (.int .i64), .hole (.int .i64), .sl 3 4 .own, .hole (.is .i64 16), .hole (.is .i64 16)] (.slot 6) true, .ptr 6 4 46, .slot 20 (.int .i64)], [.segs [.hole (.is .i64 64)] (.slot 2) true, .ptr 2 1 64, .segs [.hole (.is .i64 64)] (.slot 4) true, .ptr 4 2 64], 0, fun k => u19 (bcseven_Decode_l0 F k), fun k => u19 (bcseven_Decode_l0S F (bcseven_Decode_l0 F k))⟩
theorem bcseven_Decode_l0k (F : Nat) : (bcseven_Decode_l0t F).ok Tryz.prog Tryz.f123 F :=
  okL callable (bcseven_Decode_all F) [] aN (fun _ => rfl) (fun _ _ => rfl) fun k d => by kernel_rfl
def bcseven_Decode_told (F : Nat) : ToldF := ⟨123, 1, [.row .u8 1 (.slot 0) false], [.ty (.is .i64 64), .ty (.int .i64)], u1 (bcseven_Decode F)⟩
theorem bcseven_Decode_ok (F : Nat) : (bcseven_Decode_told F).ok Tryz.prog :=
  okF callable (bcseven_Decode_all F) (fn := Tryz.f123) [(0, (bcseven_Decode_l0t F).ann F)] (by kernel_rfl) (aL (by kernel_rfl) (bcseven_Decode_l0k F) aN) fun d => by kernel_rfl
def etcone_Parts_c1_tab (F : Nat) : List ToldF := [bits_High_told F]
theorem etcone_Parts_c1_all (F : Nat) : AllOk Tryz.prog (etcone_Parts_c1_tab F) := ⟨bits_High_ok F, trivial⟩
def etcone_Parts_c1_told (F : Nat) : ToldF := ⟨220, 3, [.slot 0 (.int .i64), .slot 1 (.int .i64), .row .u8 1 (.cell (.slot 2) 0) false, .segs [.sl 1 1 .whole] (.slot 2) false, .ptr 2 2 1], [.ty (.int .i64)], u3 (etcone_Parts_c1 F)⟩
theorem etcone_Parts_c1_ok (F : Nat) : (etcone_Parts_c1_told F).ok Tryz.prog :=
  okF callable (etcone_Parts_c1_all F) (fn := Tryz.f220) [] (by kernel_rfl) aN fun d => by kernel_rfl
def etcone_column_tab (F : Nat) : List ToldF := []
theorem etcone_column_all (F : Nat) : AllOk Tryz.prog (etcone_column_tab F) := trivial
def etcone_column_told (F : Nat) : ToldF := ⟨197, 1, [.slot 0 (.int .i64)], [.ty (.int .i64)], u1 (etcone_column F)⟩
theorem etcone_column_ok (F : Nat) : (etcone_column_told F).ok Tryz.prog :=
  okF callable (etcone_column_all F) (fn := Tryz.f197) [] (by kernel_rfl) aN fun d => by kernel_rfl
def etcone_Parts_tab (F : Nat) : List ToldF := [etcone_Parts_c1_told F, etcone_column_told F]
theorem etcone_Parts_all (F : Nat) : AllOk Tryz.prog (etcone_Parts_tab F) := ⟨etcone_Parts_c1_ok F, etcone_column_ok F, trivial⟩
def etcone_Parts_l0t (F : Nat) : TL := ⟨95, [.segs [.const (.bool (some false) false), .const (.bool (some false) false), .hole (.is .i64 3), .hole (.is .i64 3), .hole (.is .i64 2), .hole (.is .i64 16)] (.slot 2) true, .ptr 2 1 26, .segs [.hole (.bool), .hole (.bool), .hole (.is .i64 3), .hole (.is .i64 3), .hole (.is .i64 2), .hole (.is .i64 16)] (.slot 4) true, .ptr 4 2 26, .row .u8 1 (.cell (.cap (.slot 5) 0) 0) false, .segs [.sl 3 1 .whole] (.cap (.slot 5) 0) true, .fn 5 220 [.ptr 4 1], .slot 22 (.int .i64)], [.segs [.const (.bool (some false) false), .const (.bool (some false) false), .hole (.is .i64 3), .hole (.is .i64 3), .hole (.is .i64 2), .hole (.is .i64 16)] (.slot 2) true, .ptr 2 1 26, .segs [.hole (.bool), .hole (.bool), .hole (.is .i64 3), .hole (.is .i64 3), .hole (.is .i64 2), .hole (.is .i64 16)] (.slot 4) true, .ptr 4 2 26, .row .u8 1 (.cell (.cap (.slot 5) 0) 0) false, .segs [.sl 3 1 .whole] (.cap (.slot 5) 0) true, .fn 5 220 [.ptr 4 1]], 0, fun k => u12 (etcone_Parts_l0 F k), fun k => u12 (etcone_Parts_l0S F (etcone_Parts_l0 F k))⟩
theorem etcone_Parts_l0k (F : Nat) : (etcone_Parts_l0t F).ok Tryz.prog Tryz.f183 F :=
  okL callable (etcone_Parts_all F) [] aN (fun _ => rfl) (fun _ _ => rfl) fun k d => by kernel_rfl
def etcone_Parts_l2t (F : Nat) : TL := ⟨95, [.segs [.const (.bool (some false) false), .const (.bool (some false) false), .hole (.is .i64 3), .hole (.is .i64 3), .hole (.is .i64 2), .hole (.is .i64 16)] (.slot 2) true, .ptr 2 1 26, .segs [.hole (.bool), .hole (.bool), .hole (.is .i64 3), .hole (.is .i64 3), .hole (.is .i64 2), .hole (.is .i64 16)] (.slot 4) true, .ptr 4 2 26, .row .u8 1 (.cell (.cap (.slot 5) 0) 0) false, .segs [.sl 3 1 .whole] (.cap (.slot 5) 0) true, .fn 5 220 [.ptr 4 1], .slot 75 (.int .i64)], [.segs [.const (.bool (some false) false), .const (.bool (some false) false), .hole (.is .i64 3), .hole (.is .i64 3), .hole (.is .i64 2), .hole (.is .i64 16)] (.slot 2) true, .ptr 2 1 26, .segs [.hole (.bool), .hole (.bool), .hole (.is .i64 3), .hole (.is .i64 3), .hole (.is .i64 2), .hole (.is .i64 16)] (.slot 4) true, .ptr 4 2 26], 2, fun k => u12 (etcone_Parts_l2 F k), fun k => u12 (etcone_Parts_l2S F (etcone_Parts_l2 F k))⟩
theorem etcone_Parts_l2k (F : Nat) : (etcone_Parts_l2t F).ok Tryz.prog Tryz.f183 F :=
  okL callable (etcone_Parts_all F) [] aN (fun _ => rfl) (fun _ _ => rfl) fun k d => by kernel_rfl
def etcone_Parts_told (F : Nat) : ToldF := ⟨183, 1, [.row .u8 1 (.slot 0) false], [.ty (.agg [.bool, .bool, .is .i64 3, .is .i64 3, .is .i64 2, .is .i64 16]), .ty (.int .i64)], u1 (etcone_Parts F)⟩
theorem etcone_Parts_ok (F : Nat) : (etcone_Parts_told F).ok Tryz.prog :=
  okF callable (etcone_Parts_all F) (fn := Tryz.f183) [(0, (etcone_Parts_l0t F).ann F), (2, (etcone_Parts_l2t F).ann F)] (by kernel_rfl) (aL (by kernel_rfl) (etcone_Parts_l0k F) (aL (by kernel_rfl) (etcone_Parts_l2k F) aN)) fun d => by kernel_rfl
def etcone_Bases_tab (F : Nat) : List ToldF := [level_Wide_told F]
theorem etcone_Bases_all (F : Nat) : AllOk Tryz.prog (etcone_Bases_tab F) := ⟨level_Wide_ok F, trivial⟩
def etcone_Bases_l0t (F : Nat) : TL := ⟨61, [.segs [.hole (.bool), .hole (.bool), .hole (.is .i64 3), .hole (.is .i64 3), .hole (.is .i64 2), .hole (.is .i64 16)] (.slot 1) true, .ptr 1 1 26, .segs [.hole (.is .i64 8)] (.slot 2) true, .ptr 2 2 8, .segs [.hole (.is .i64 8)] (.slot 4) true, .ptr 4 3 8, .slot 5 (.int .i64), .slot 13 (.int .i64)], [.segs [.hole (.is .i64 8)] (.slot 2) true, .ptr 2 1 8, .segs [.hole (.is .i64 8)] (.slot 4) true, .ptr 4 2 8, .slot 5 (.int .i64)], 0, fun k => u10 (etcone_Bases_l0 F k), fun k => u10 (etcone_Bases_l0S F (etcone_Bases_l0 F k))⟩
theorem etcone_Bases_l0k (F : Nat) : (etcone_Bases_l0t F).ok Tryz.prog Tryz.f221 F :=
  okL callable (etcone_Bases_all F) [] aN (fun _ => rfl) (fun _ _ => rfl) fun k d => by kernel_rfl
def etcone_Bases_told (F : Nat) : ToldF := ⟨221, 1, [.slot 0 (.agg [.bool, .bool, .is .i64 3, .is .i64 3, .is .i64 2, .is .i64 16])], [.ty (.is .i64 8), .ty (.int .i64)], u1 (etcone_Bases F)⟩
theorem etcone_Bases_ok (F : Nat) : (etcone_Bases_told F).ok Tryz.prog :=
  okF callable (etcone_Bases_all F) (fn := Tryz.f221) [(0, (etcone_Bases_l0t F).ann F)] (by kernel_rfl) (aL (by kernel_rfl) (etcone_Bases_l0k F) aN) fun d => by kernel_rfl
def etcone_Half_tab (F : Nat) : List ToldF := []
theorem etcone_Half_all (F : Nat) : AllOk Tryz.prog (etcone_Half_tab F) := trivial
def etcone_Half_told (F : Nat) : ToldF := ⟨222, 2, [.slot 0 (.bool), .slot 1 (.int .i64)], [.ty (.int .i64)], u2 (etcone_Half F)⟩
theorem etcone_Half_ok (F : Nat) : (etcone_Half_told F).ok Tryz.prog :=
  okF callable (etcone_Half_all F) (fn := Tryz.f222) [] (by kernel_rfl) aN fun d => by kernel_rfl
def etcone_Table_tab (F : Nat) : List ToldF := []
theorem etcone_Table_all (F : Nat) : AllOk Tryz.prog (etcone_Table_tab F) := trivial
def etcone_Table_told (F : Nat) : ToldF := ⟨223, 1, [.slot 0 (.int .i64)], [.ty (.is .i64 4)], u1 (etcone_Table F)⟩
theorem etcone_Table_ok (F : Nat) : (etcone_Table_told F).ok Tryz.prog :=
  okF callable (etcone_Table_all F) (fn := Tryz.f223) [] (by kernel_rfl) aN fun d => by kernel_rfl
def etcone_Paint_tab (F : Nat) : List ToldF := [level_Clamp_told F, etcone_Bases_told F, etcone_Half_told F, etcone_Table_told F]
theorem etcone_Paint_all (F : Nat) : AllOk Tryz.prog (etcone_Paint_tab F) := ⟨level_Clamp_ok F, etcone_Bases_ok F, etcone_Half_ok F, etcone_Table_ok F, trivial⟩
def etcone_Paint_l2t (F : Nat) : TL := ⟨55, [.segs [.hole (.bool), .hole (.bool), .hole (.is .i64 3), .hole (.is .i64 3), .hole (.is .i64 2), .hole (.is .i64 16)] (.slot 1) true, .ptr 1 1 26, .segs [.hole (.is .i64 64)] (.slot 2) true, .ptr 2 2 64, .segs [.hole (.is .i64 8)] (.slot 3) true, .ptr 3 3 8, .segs [.hole (.is .i64 64)] (.slot 5) true, .ptr 5 4 64, .slot 6 (.int .i64), .slot 7 (.int .i64), .slot 8 (.int .i64), .slot 16 (.is .i64 16), .slot 17 (.int .i64), .slot 30 (.int .i64)], [.segs [.hole (.bool), .hole (.bool), .hole (.is .i64 3), .hole (.is .i64 3), .hole (.is .i64 2), .hole (.is .i64 16)] (.slot 1) true, .ptr 1 1 26, .segs [.hole (.is .i64 64)] (.slot 2) true, .ptr 2 2 64, .segs [.hole (.is .i64 8)] (.slot 3) true, .ptr 3 3 8, .segs [.hole (.is .i64 64)] (.slot 5) true, .ptr 5 4 64, .slot 16 (.is .i64 16), .slot 17 (.int .i64)], 2, fun k => u15 (etcone_Paint_l2 F k), fun k => u15 (etcone_Paint_l2S F (etcone_Paint_l2 F k))⟩
theorem etcone_Paint_l2k (F : Nat) : (etcone_Paint_l2t F).ok Tryz.prog Tryz.f184 F :=
  okL callable (etcone_Paint_all F) [] aN (fun _ => rfl) (fun _ _ => rfl) fun k d => by kernel_rfl
def etcone_Paint_l0t (F : Nat) : TL := ⟨55, [.segs [.hole (.bool), .hole (.bool), .hole (.is .i64 3), .hole (.is .i64 3), .hole (.is .i64 2), .hole (.is .i64 16)] (.slot 1) true, .ptr 1 1 26, .segs [.hole (.is .i64 64)] (.slot 2) true, .ptr 2 2 64, .segs [.hole (.is .i64 8)] (.slot 3) true, .ptr 3 3 8, .segs [.hole (.is .i64 64)] (.slot 5) true, .ptr 5 4 64, .slot 16 (.is .i64 16), .slot 17 (.int .i64)], [.segs [.hole (.is .i64 64)] (.slot 2) true, .ptr 2 1 64, .segs [.hole (.is .i64 64)] (.slot 5) true, .ptr 5 2 64], 0, fun k => u11 (etcone_Paint_l0 F k), fun k => u11 (etcone_Paint_l0S F (etcone_Paint_l0 F k))⟩
theorem etcone_Paint_l0k (F : Nat) : (etcone_Paint_l0t F).ok Tryz.prog Tryz.f184 F :=
  okL callable (etcone_Paint_all F) [(2, (etcone_Paint_l2t F).ann F)] (aL (by kernel_rfl) (etcone_Paint_l2k F) aN) (fun _ => rfl) (fun _ _ => rfl) fun k d => by kernel_rfl
def etcone_Paint_told (F : Nat) : ToldF := ⟨184, 1, [.slot 0 (.agg [.bool, .bool, .is .i64 3, .is .i64 3, .is .i64 2, .is .i64 16])], [.ty (.is .i64 64)], u1 (etcone_Paint F)⟩
theorem etcone_Paint_ok (F : Nat) : (etcone_Paint_told F).ok Tryz.prog :=
  okF callable (etcone_Paint_all F) (fn := Tryz.f184) [(2, (etcone_Paint_l2t F).ann F), (0, (etcone_Paint_l0t F).ann F)] (by kernel_rfl) (aL (by kernel_rfl) (etcone_Paint_l2k F) (aL (by kernel_rfl) (etcone_Paint_l0k F) aN)) fun d => by kernel_rfl
def etcone_Decode_tab (F : Nat) : List ToldF := [etcone_Parts_told F, etcone_Paint_told F]
theorem etcone_Decode_all (F : Nat) : AllOk Tryz.prog (etcone_Decode_tab F) := ⟨etcone_Parts_ok F, etcone_Paint_ok F, trivial⟩
def etcone_Decode_told (F : Nat) : ToldF := ⟨124, 1, [.row .u8 1 (.slot 0) false], [.ty (.is .i64 64), .ty (.int .i64)], u1 (etcone_Decode F)⟩
theorem etcone_Decode_ok (F : Nat) : (etcone_Decode_told F).ok Tryz.prog :=
  okF callable (etcone_Decode_all F) (fn := Tryz.f124) [] (by kernel_rfl) aN fun d => by kernel_rfl
def bits_fits_tab (F : Nat) : List ToldF := [bits_check_told F]
theorem bits_fits_all (F : Nat) : AllOk Tryz.prog (bits_fits_tab F) := ⟨bits_check_ok F, trivial⟩
def bits_fits_told (F : Nat) : ToldF := ⟨201, 4, [.row .u8 1 (.slot 0) false, .slot 1 (.int .i64), .slot 2 (.int .i64), .slot 3 (.int .u64)], [.ty (.int .i64)], u4 (bits_fits F)⟩
theorem bits_fits_ok (F : Nat) : (bits_fits_told F).ok Tryz.prog :=
  okF callable (bits_fits_all F) (fn := Tryz.f201) [] (by kernel_rfl) aN fun d => by kernel_rfl
def slices_Clone_byte_byte_told (F : Nat) : ToldF := ⟨202, 1, [.row .u8 1 (.slot 0) false], [.row .u8 1], fun d => slices_Clone_byte_byte F d.1⟩
theorem slices_Clone_byte_byte_ok (F : Nat) : (slices_Clone_byte_byte_told F).ok Tryz.prog :=
  clone_spec callable (fn := Tryz.f202) (f := 202) (k := .u8) (sz := 1) (R0 := cloneR0 (bodyOf Tryz.f202)) (X := cloneX (bodyOf Tryz.f202)) (REST := cloneRest (bodyOf Tryz.f202)) (o3 := cloneO3 (bodyOf Tryz.f202)) (o4 := cloneO4 (bodyOf Tryz.f202)) (t := 40) (t' := 40) (e := 5) (i1 := 1) (by kernel_rfl) (by kernel_rfl) (by kernel_rfl) (by kernel_rfl) (by kernel_rfl) (by kernel_rfl) (by kernel_rfl)
    (cloneS1 1 .u8) (cloneS2 1 .u8)
    (fun l => by kernel_rfl) (fun l => by kernel_rfl) (fun l => ⟨rfl, rfl⟩) (fun l => by simp [cloneS2]) (fun l => by kernel_rfl) (fun l => by kernel_rfl)
def bits_set_tab (F : Nat) : List ToldF := []
theorem bits_set_all (F : Nat) : AllOk Tryz.prog (bits_set_tab F) := trivial
def bits_set_told (F : Nat) : ToldF := ⟨203, 3, [.slot 0 (.int .u8), .slot 1 (.int .i64), .slot 2 (.int .u64)], [.ty (.int .u8)], u3 (bits_set F)⟩
theorem bits_set_ok (F : Nat) : (bits_set_told F).ok Tryz.prog :=
  okF callable (bits_set_all F) (fn := Tryz.f203) [] (by kernel_rfl) aN fun d => by kernel_rfl
def bits_SetHigh_tab (F : Nat) : List ToldF := [bits_fits_told F, slices_Clone_byte_byte_told F, bits_set_told F]
theorem bits_SetHigh_all (F : Nat) : AllOk Tryz.prog (bits_SetHigh_tab F) := ⟨bits_fits_ok F, slices_Clone_byte_byte_ok F, bits_set_ok F, trivial⟩
def bits_SetHigh_l0t (F : Nat) : TL := ⟨52, [.slot 1 (.int .i64), .slot 2 (.int .i64), .slot 3 (.int .u64), .row .u8 1 (.slot 11) true, .slot 24 (.int .i64), .slot 25 (.int .i64)], [.row .u8 1 (.slot 11) true], 0, fun k => u6 (bits_SetHigh_l0 F k), fun k => u6 (bits_SetHigh_l0S F (bits_SetHigh_l0 F k))⟩
theorem bits_SetHigh_l0k (F : Nat) : (bits_SetHigh_l0t F).ok Tryz.prog Tryz.f141 F :=
  okL callable (bits_SetHigh_all F) [] aN (fun _ => rfl) (fun _ _ => rfl) fun k d => by kernel_rfl
def bits_SetHigh_told (F : Nat) : ToldF := ⟨141, 4, [.row .u8 1 (.slot 0) false, .slot 1 (.int .i64), .slot 2 (.int .i64), .slot 3 (.int .u64)], [.row .u8 1, .ty (.int .i64)], u4 (bits_SetHigh F)⟩
theorem bits_SetHigh_ok (F : Nat) : (bits_SetHigh_told F).ok Tryz.prog :=
  okF callable (bits_SetHigh_all F) (fn := Tryz.f141) [(0, (bits_SetHigh_l0t F).ann F)] (by kernel_rfl) (aL (by kernel_rfl) (bits_SetHigh_l0k F) aN) fun d => by kernel_rfl
def etctwo_block_get_tab (F : Nat) : List ToldF := [bits_High_told F]
theorem etctwo_block_get_all (F : Nat) : AllOk Tryz.prog (etctwo_block_get_tab F) := ⟨bits_High_ok F, trivial⟩
def etctwo_block_get_l0t (F : Nat) : TL := ⟨30, [.row .u8 1 (.cell (.slot 2) 0) false, .segs [.sl 1 1 .whole, .hole (.bool), .hole (.bool), .hole (.is .i64 3), .hole (.is .i64 3), .hole (.is .i64 2), .hole (.is .i64 16), .hole (.bool)] (.slot 2) true, .ptr 2 2 28, .slot 5 (.int .i64), .row .i64 1 (.slot 10) false, .slot 11 (.int .i64), .slot 12 (.int .i64)], [.slot 5 (.int .i64)], 0, fun k => u12 (etctwo_block_get_l0 F k), fun k => u12 (etctwo_block_get_l0S F (etctwo_block_get_l0 F k))⟩
theorem etctwo_block_get_l0k (F : Nat) : (etctwo_block_get_l0t F).ok Tryz.prog Tryz.f224 F :=
  okL callable (etctwo_block_get_all F) [] aN (fun _ => rfl) (fun _ _ => rfl) fun k d => by kernel_rfl
def etctwo_block_get_told (F : Nat) : ToldF := ⟨224, 2, [.row .u8 1 (.part (.slot 0) 0) false, .cells 0 [.sl 1 1 .whole, .hole (.bool), .hole (.bool), .hole (.is .i64 3), .hole (.is .i64 3), .hole (.is .i64 2), .hole (.is .i64 16), .hole (.bool)], .row .i64 1 (.slot 1) false], [.ty (.int .i64)], u9 (etctwo_block_get F)⟩
theorem etctwo_block_get_ok (F : Nat) : (etctwo_block_get_told F).ok Tryz.prog :=
  okF callable (etctwo_block_get_all F) (fn := Tryz.f224) [(0, (etctwo_block_get_l0t F).ann F)] (by kernel_rfl) (aL (by kernel_rfl) (etctwo_block_get_l0k F) aN) fun d => by kernel_rfl
def etctwo_read_tab (F : Nat) : List ToldF := [etcone_Parts_told F, bits_SetHigh_told F, etctwo_block_get_told F]
theorem etctwo_read_all (F : Nat) : AllOk Tryz.prog (etctwo_read_tab F) := ⟨etcone_Parts_ok F, bits_SetHigh_ok F, etctwo_block_get_ok F, trivial⟩
def etctwo_read_told (F : Nat) : ToldF := ⟨185, 2, [.row .u8 1 (.slot 0) false, .slot 1 (.bool)], [.agg [.row .u8 1 false, .hole (.bool), .hole (.bool), .hole (.is .i64 3), .hole (.is .i64 3), .hole (.is .i64 2), .hole (.is .i64 16), .hole (.bool)]], u2 (etctwo_read F)⟩
theorem etctwo_read_ok (F : Nat) : (etctwo_read_told F).ok Tryz.prog :=
  okF callable (etctwo_read_all F) (fn := Tryz.f185) [] (by kernel_rfl) aN fun d => by kernel_rfl
def etctwo_block_kind_tab (F : Nat) : List ToldF := [etcone_Bases_told F]
theorem etctwo_block_kind_all (F : Nat) : AllOk Tryz.prog (etctwo_block_kind_tab F) := ⟨etcone_Bases_ok F, trivial⟩
def etctwo_block_kind_told (F : Nat) : ToldF := ⟨186, 1, [.row .u8 1 (.part (.slot 0) 0) false, .cells 0 [.sl 1 1 .whole, .hole (.bool), .hole (.bool), .hole (.is .i64 3), .hole (.is .i64 3), .hole (.is .i64 2), .hole (.is .i64 16), .hole (.bool)]], [.ty (.int .i64)], u8 (etctwo_block_kind F)⟩
theorem etctwo_block_kind_ok (F : Nat) : (etctwo_block_kind_told F).ok Tryz.prog :=
  okF callable (etctwo_block_kind_all F) (fn := Tryz.f186) [] (by kernel_rfl) aN fun d => by kernel_rfl
def etctwo_block_halves_tab (F : Nat) : List ToldF := [etcone_Bases_told F, etcone_Half_told F, etcone_Paint_told F]
theorem etctwo_block_halves_all (F : Nat) : AllOk Tryz.prog (etctwo_block_halves_tab F) := ⟨etcone_Bases_ok F, etcone_Half_ok F, etcone_Paint_ok F, trivial⟩
def etctwo_block_halves_l0t (F : Nat) : TL := ⟨42, [.row .u8 1 (.cell (.slot 1) 0) false, .segs [.sl 1 1 .whole, .hole (.bool), .hole (.bool), .hole (.is .i64 3), .hole (.is .i64 3), .hole (.is .i64 2), .hole (.is .i64 16), .hole (.bool)] (.slot 1) true, .ptr 1 2 28, .segs [.hole (.is .i64 64)] (.slot 2) true, .ptr 2 3 64, .segs [.hole (.is .i64 64)] (.slot 3) true, .ptr 3 4 64, .segs [.hole (.is .i64 8)] (.slot 4) true, .ptr 4 5 8, .slot 19 (.is .i64 16), .slot 20 (.int .i64)], [.segs [.hole (.is .i64 64)] (.slot 2) true, .ptr 2 1 64, .segs [.hole (.is .i64 64)] (.slot 3) true, .ptr 3 2 64], 0, fun k => u13 (etctwo_block_halves_l0 F k), fun k => u13 (etctwo_block_halves_l0S F (etctwo_block_halves_l0 F k))⟩
theorem etctwo_block_halves_l0k (F : Nat) : (etctwo_block_halves_l0t F).ok Tryz.prog Tryz.f187 F :=
  okL callable (etctwo_block_halves_all F) [] aN (fun _ => rfl) (fun _ _ => rfl) fun k d => by kernel_rfl
def etctwo_block_halves_told (F : Nat) : ToldF := ⟨187, 1, [.row .u8 1 (.part (.slot 0) 0) false, .cells 0 [.sl 1 1 .whole, .hole (.bool), .hole (.bool), .hole (.is .i64 3), .hole (.is .i64 3), .hole (.is .i64 2), .hole (.is .i64 16), .hole (.bool)]], [.ty (.is .i64 64)], u8 (etctwo_block_halves F)⟩
theorem etctwo_block_halves_ok (F : Nat) : (etctwo_block_halves_told F).ok Tryz.prog :=
  okF callable (etctwo_block_halves_all F) (fn := Tryz.f187) [(0, (etctwo_block_halves_l0t F).ann F)] (by kernel_rfl) (aL (by kernel_rfl) (etctwo_block_halves_l0k F) aN) fun d => by kernel_rfl
def etctwo_block_run_tab (F : Nat) : List ToldF := [bits_High_told F]
theorem etctwo_block_run_all (F : Nat) : AllOk Tryz.prog (etctwo_block_run_tab F) := ⟨bits_High_ok F, trivial⟩
def etctwo_block_run_told (F : Nat) : ToldF := ⟨200, 3, [.row .u8 1 (.part (.slot 0) 0) false, .cells 0 [.sl 1 1 .whole, .hole (.bool), .hole (.bool), .hole (.is .i64 3), .hole (.is .i64 3), .hole (.is .i64 2), .hole (.is .i64 16), .hole (.bool)], .slot 1 (.int .i64), .slot 2 (.int .i64)], [.ty (.int .i64)], u10 (etctwo_block_run F)⟩
theorem etctwo_block_run_ok (F : Nat) : (etctwo_block_run_told F).ok Tryz.prog :=
  okF callable (etctwo_block_run_all F) (fn := Tryz.f200) [] (by kernel_rfl) aN fun d => by kernel_rfl
def etctwo_wide_tab (F : Nat) : List ToldF := [level_Wide_told F]
theorem etctwo_wide_all (F : Nat) : AllOk Tryz.prog (etctwo_wide_tab F) := ⟨level_Wide_ok F, trivial⟩
def etctwo_wide_l0t (F : Nat) : TL := ⟨23, [.segs [.hole (.is .i64 3)] (.slot 3) true, .ptr 3 1 3, .segs [.hole (.is .i64 4)] (.slot 4) true, .ptr 4 2 4, .segs [.hole (.is .i64 4)] (.slot 5) true, .ptr 5 3 4, .slot 9 (.is .i64 3), .slot 10 (.int .i64)], [.segs [.hole (.is .i64 4)] (.slot 4) true, .ptr 4 1 4, .segs [.hole (.is .i64 4)] (.slot 5) true, .ptr 5 2 4], 0, fun k => u5 (etctwo_wide_l0 F k), fun k => u5 (etctwo_wide_l0S F (etctwo_wide_l0 F k))⟩
theorem etctwo_wide_l0k (F : Nat) : (etctwo_wide_l0t F).ok Tryz.prog Tryz.f241 F :=
  okL callable (etctwo_wide_all F) [] aN (fun _ => rfl) (fun _ _ => rfl) fun k d => by kernel_rfl
def etctwo_wide_told (F : Nat) : ToldF := ⟨241, 2, [.slot 0 (.is .i64 3), .slot 1 (.is .i64 3)], [.ty (.is .i64 4)], u2 (etctwo_wide F)⟩
theorem etctwo_wide_ok (F : Nat) : (etctwo_wide_told F).ok Tryz.prog :=
  okF callable (etctwo_wide_all F) (fn := Tryz.f241) [(0, (etctwo_wide_l0t F).ann F)] (by kernel_rfl) (aL (by kernel_rfl) (etctwo_wide_l0k F) aN) fun d => by kernel_rfl
def etctwo_plain_tab (F : Nat) : List ToldF := [etctwo_wide_told F]
theorem etctwo_plain_all (F : Nat) : AllOk Tryz.prog (etctwo_plain_tab F) := ⟨etctwo_wide_ok F, trivial⟩
def etctwo_plain_told (F : Nat) : ToldF := ⟨225, 1, [.slot 0 (.is .i64 3)], [.ty (.is .i64 4)], u1 (etctwo_plain F)⟩
theorem etctwo_plain_ok (F : Nat) : (etctwo_plain_told F).ok Tryz.prog :=
  okF callable (etctwo_plain_all F) (fn := Tryz.f225) [] (by kernel_rfl) aN fun d => by kernel_rfl
def etctwo_Distance_tab (F : Nat) : List ToldF := []
theorem etctwo_Distance_all (F : Nat) : AllOk Tryz.prog (etctwo_Distance_tab F) := trivial
def etctwo_Distance_told (F : Nat) : ToldF := ⟨226, 1, [.slot 0 (.int .i64)], [.ty (.int .i64)], u1 (etctwo_Distance F)⟩
theorem etctwo_Distance_ok (F : Nat) : (etctwo_Distance_told F).ok Tryz.prog :=
  okF callable (etctwo_Distance_all F) (fn := Tryz.f226) [] (by kernel_rfl) aN fun d => by kernel_rfl
def etctwo_moved_tab (F : Nat) : List ToldF := [level_Clamp_told F]
theorem etctwo_moved_all (F : Nat) : AllOk Tryz.prog (etctwo_moved_tab F) := ⟨level_Clamp_ok F, trivial⟩
def etctwo_moved_l0t (F : Nat) : TL := ⟨19, [.slot 1 (.int .i64), .segs [.hole (.is .i64 4)] (.slot 2) true, .ptr 2 1 4, .segs [.hole (.is .i64 4)] (.slot 4) true, .ptr 4 2 4, .slot 6 (.int .i64)], [.segs [.hole (.is .i64 4)] (.slot 2) true, .ptr 2 1 4, .segs [.hole (.is .i64 4)] (.slot 4) true, .ptr 4 2 4], 0, fun k => u4 (etctwo_moved_l0 F k), fun k => u4 (etctwo_moved_l0S F (etctwo_moved_l0 F k))⟩
theorem etctwo_moved_l0k (F : Nat) : (etctwo_moved_l0t F).ok Tryz.prog Tryz.f228 F :=
  okL callable (etctwo_moved_all F) [] aN (fun _ => rfl) (fun _ _ => rfl) fun k d => by kernel_rfl
def etctwo_moved_told (F : Nat) : ToldF := ⟨228, 2, [.slot 0 (.is .i64 4), .slot 1 (.int .i64)], [.ty (.is .i64 4)], u2 (etctwo_moved F)⟩
theorem etctwo_moved_ok (F : Nat) : (etctwo_moved_told F).ok Tryz.prog :=
  okF callable (etctwo_moved_all F) (fn := Tryz.f228) [(0, (etctwo_moved_l0t F).ann F)] (by kernel_rfl) (aL (by kernel_rfl) (etctwo_moved_l0k F) aN) fun d => by kernel_rfl
def etctwo_block_four_tab (F : Nat) : List ToldF := []
theorem etctwo_block_four_all (F : Nat) : AllOk Tryz.prog (etctwo_block_four_tab F) := trivial
def etctwo_block_four_l0t (F : Nat) : TL := ⟨22, [.segs [.hole (.is .i64 16)] (.slot 3) true, .ptr 3 1 16, .segs [.hole (.is .i64 64)] (.slot 4) true, .ptr 4 2 64, .segs [.hole (.is .i64 64)] (.slot 5) true, .ptr 5 3 64, .slot 10 (.is .i64 16), .slot 11 (.int .i64)], [.segs [.hole (.is .i64 64)] (.slot 4) true, .ptr 4 1 64, .segs [.hole (.is .i64 64)] (.slot 5) true, .ptr 5 2 64], 0, fun k => u5 (etctwo_block_four_l0 F k), fun k => u5 (etctwo_block_four_l0S F (etctwo_block_four_l0 F k))⟩
theorem etctwo_block_four_l0k (F : Nat) : (etctwo_block_four_l0t F).ok Tryz.prog Tryz.f227 F :=
  okL callable (etctwo_block_four_all F) [] aN (fun _ => rfl) (fun _ _ => rfl) fun k d => by kernel_rfl
def etctwo_block_four_told (F : Nat) : ToldF := ⟨227, 2, [.row .u8 1 (.part (.slot 0) 0) false, .cells 0 [.sl 1 1 .whole, .hole (.bool), .hole (.bool), .hole (.is .i64 3), .hole (.is .i64 3), .hole (.is .i64 2), .hole (.is .i64 16), .hole (.bool)], .slot 1 (.is .i64 16)], [.ty (.is .i64 64)], u9 (etctwo_block_four F)⟩
theorem etctwo_block_four_ok (F : Nat) : (etctwo_block_four_told F).ok Tryz.prog :=
  okF callable (etctwo_block_four_all F) (fn := Tryz.f227) [(0, (etctwo_block_four_l0t F).ann F)] (by kernel_rfl) (aL (by kernel_rfl) (etctwo_block_four_l0k F) aN) fun d => by kernel_rfl
def etctwo_block_ofT_tab (F : Nat) : List ToldF := [etctwo_block_get_told F, etctwo_block_run_told F, etctwo_plain_told F, etctwo_Distance_told F, etctwo_moved_told F, etctwo_block_four_told F]
theorem etctwo_block_ofT_all (F : Nat) : AllOk Tryz.prog (etctwo_block_ofT_tab F) := ⟨etctwo_block_get_ok F, etctwo_block_run_ok F, etctwo_plain_ok F, etctwo_Distance_ok F, etctwo_moved_ok F, etctwo_block_four_ok F, trivial⟩
def etctwo_block_ofT_told (F : Nat) : ToldF := ⟨188, 1, [.row .u8 1 (.part (.slot 0) 0) false, .cells 0 [.sl 1 1 .whole, .hole (.bool), .hole (.bool), .hole (.is .i64 3), .hole (.is .i64 3), .hole (.is .i64 2), .hole (.is .i64 16), .hole (.bool)]], [.ty (.is .i64 64)], u8 (etctwo_block_ofT F)⟩
theorem etctwo_block_ofT_ok (F : Nat) : (etctwo_block_ofT_told F).ok Tryz.prog :=
  okF callable (etctwo_block_ofT_all F) (fn := Tryz.f188) [] (by kernel_rfl) aN fun d => by kernel_rfl
def etctwo_block_ofH_tab (F : Nat) : List ToldF := [etctwo_block_get_told F, etctwo_block_run_told F, etctwo_plain_told F, etctwo_Distance_told F, etctwo_moved_told F, etctwo_block_four_told F]
theorem etctwo_block_ofH_all (F : Nat) : AllOk Tryz.prog (etctwo_block_ofH_tab F) := ⟨etctwo_block_get_ok F, etctwo_block_run_ok F, etctwo_plain_ok F, etctwo_Distance_ok F, etctwo_moved_ok F, etctwo_block_four_ok F, trivial⟩
def etctwo_block_ofH_told (F : Nat) : ToldF := ⟨189, 1, [.row .u8 1 (.part (.slot 0) 0) false, .cells 0 [.sl 1 1 .whole, .hole (.bool), .hole (.bool), .hole (.is .i64 3), .hole (.is .i64 3), .hole (.is .i64 2), .hole (.is .i64 16), .hole (.bool)]], [.ty (.is .i64 64)], u8 (etctwo_block_ofH F)⟩
theorem etctwo_block_ofH_ok (F : Nat) : (etctwo_block_ofH_told F).ok Tryz.prog :=
  okF callable (etctwo_block_ofH_all F) (fn := Tryz.f189) [] (by kernel_rfl) aN fun d => by kernel_rfl
def etctwo_plane_tab (F : Nat) : List ToldF := [etctwo_wide_told F]
theorem etctwo_plane_all (F : Nat) : AllOk Tryz.prog (etctwo_plane_tab F) := ⟨etctwo_wide_ok F, trivial⟩
def etctwo_plane_told (F : Nat) : ToldF := ⟨230, 1, [.slot 0 (.is .i64 3)], [.ty (.is .i64 4)], u1 (etctwo_plane F)⟩
theorem etctwo_plane_ok (F : Nat) : (etctwo_plane_told F).ok Tryz.prog :=
  okF callable (etctwo_plane_all F) (fn := Tryz.f230) [] (by kernel_rfl) aN fun d => by kernel_rfl
def etctwo_Plane_tab (F : Nat) : List ToldF := [level_Clamp_told F]
theorem etctwo_Plane_all (F : Nat) : AllOk Tryz.prog (etctwo_Plane_tab F) := ⟨level_Clamp_ok F, trivial⟩
def etctwo_Plane_l2t (F : Nat) : TL := ⟨57, [.segs [.hole (.is .i64 4)] (.slot 3) true, .ptr 3 1 4, .segs [.hole (.is .i64 4)] (.slot 4) true, .ptr 4 2 4, .segs [.hole (.is .i64 4)] (.slot 5) true, .ptr 5 3 4, .segs [.hole (.is .i64 64)] (.slot 6) true, .ptr 6 4 64, .segs [.hole (.is .i64 64)] (.slot 7) true, .ptr 7 5 64, .slot 8 (.int .i64), .slot 11 (.int .i64), .slot 17 (.int .i64)], [.segs [.hole (.is .i64 4)] (.slot 3) true, .ptr 3 1 4, .segs [.hole (.is .i64 4)] (.slot 4) true, .ptr 4 2 4, .segs [.hole (.is .i64 4)] (.slot 5) true, .ptr 5 3 4, .segs [.hole (.is .i64 64)] (.slot 6) true, .ptr 6 4 64, .segs [.hole (.is .i64 64)] (.slot 7) true, .ptr 7 5 64, .slot 11 (.int .i64)], 2, fun k => u8 (etctwo_Plane_l2 F k), fun k => u8 (etctwo_Plane_l2S F (etctwo_Plane_l2 F k))⟩
theorem etctwo_Plane_l2k (F : Nat) : (etctwo_Plane_l2t F).ok Tryz.prog Tryz.f229 F :=
  okL callable (etctwo_Plane_all F) [] aN (fun _ => rfl) (fun _ _ => rfl) fun k d => by kernel_rfl
def etctwo_Plane_l0t (F : Nat) : TL := ⟨57, [.segs [.hole (.is .i64 4)] (.slot 3) true, .ptr 3 1 4, .segs [.hole (.is .i64 4)] (.slot 4) true, .ptr 4 2 4, .segs [.hole (.is .i64 4)] (.slot 5) true, .ptr 5 3 4, .segs [.hole (.is .i64 64)] (.slot 6) true, .ptr 6 4 64, .segs [.hole (.is .i64 64)] (.slot 7) true, .ptr 7 5 64, .slot 11 (.int .i64)], [.segs [.hole (.is .i64 64)] (.slot 6) true, .ptr 6 1 64, .segs [.hole (.is .i64 64)] (.slot 7) true, .ptr 7 2 64], 0, fun k => u6 (etctwo_Plane_l0 F k), fun k => u6 (etctwo_Plane_l0S F (etctwo_Plane_l0 F k))⟩
theorem etctwo_Plane_l0k (F : Nat) : (etctwo_Plane_l0t F).ok Tryz.prog Tryz.f229 F :=
  okL callable (etctwo_Plane_all F) [(2, (etctwo_Plane_l2t F).ann F)] (aL (by kernel_rfl) (etctwo_Plane_l2k F) aN) (fun _ => rfl) (fun _ _ => rfl) fun k d => by kernel_rfl
def etctwo_Plane_told (F : Nat) : ToldF := ⟨229, 3, [.slot 0 (.is .i64 4), .slot 1 (.is .i64 4), .slot 2 (.is .i64 4)], [.ty (.is .i64 64)], u3 (etctwo_Plane F)⟩
theorem etctwo_Plane_ok (F : Nat) : (etctwo_Plane_told F).ok Tryz.prog :=
  okF callable (etctwo_Plane_all F) (fn := Tryz.f229) [(2, (etctwo_Plane_l2t F).ann F), (0, (etctwo_Plane_l0t F).ann F)] (by kernel_rfl) (aL (by kernel_rfl) (etctwo_Plane_l2k F) (aL (by kernel_rfl) (etctwo_Plane_l0k F) aN)) fun d => by kernel_rfl
def etctwo_block_planar_tab (F : Nat) : List ToldF := [etctwo_block_get_told F, etctwo_block_run_told F, etctwo_plane_told F, etctwo_Plane_told F]
theorem etctwo_block_planar_all (F : Nat) : AllOk Tryz.prog (etctwo_block_planar_tab F) := ⟨etctwo_block_get_ok F, etctwo_block_run_ok F, etctwo_plane_ok F, etctwo_Plane_ok F, trivial⟩
def etctwo_block_planar_told (F : Nat) : ToldF := ⟨190, 1, [.row .u8 1 (.part (.slot 0) 0) false, .cells 0 [.sl 1 1 .whole, .hole (.bool), .hole (.bool), .hole (.is .i64 3), .hole (.is .i64 3), .hole (.is .i64 2), .hole (.is .i64 16), .hole (.bool)]], [.ty (.is .i64 64)], u8 (etctwo_block_planar F)⟩
theorem etctwo_block_planar_ok (F : Nat) : (etctwo_block_planar_told F).ok Tryz.prog :=
  okF callable (etctwo_block_planar_all F) (fn := Tryz.f190) [] (by kernel_rfl) aN fun d => by kernel_rfl
def etctwo_Decode_tab (F : Nat) : List ToldF := [etctwo_read_told F, etctwo_block_kind_told F, etctwo_block_halves_told F, etctwo_block_ofT_told F, etctwo_block_ofH_told F, etctwo_block_planar_told F]
theorem etctwo_Decode_all (F : Nat) : AllOk Tryz.prog (etctwo_Decode_tab F) := ⟨etctwo_read_ok F, etctwo_block_kind_ok F, etctwo_block_halves_ok F, etctwo_block_ofT_ok F, etctwo_block_ofH_ok F, etctwo_block_planar_ok F, trivial⟩
def etctwo_Decode_l0t (F : Nat) : TL := ⟨57, [.segs [.hole (.is .i64 64)] (.slot 4) true, .ptr 4 1 64, .row .u8 1 (.cell (.slot 6) 0) false, .segs [.sl 2 1 .whole, .hole (.bool), .hole (.bool), .hole (.is .i64 3), .hole (.is .i64 3), .hole (.is .i64 2), .hole (.is .i64 16), .hole (.bool)] (.slot 6) true, .ptr 6 3 28, .slot 7 (.int .i64), .segs [.hole (.is .i64 64)] (.slot 9) true, .ptr 9 4 64, .slot 36 (.is .i64 16), .slot 37 (.int .i64)], [.segs [.hole (.is .i64 64)] (.slot 4) true, .ptr 4 1 64, .segs [.hole (.is .i64 64)] (.slot 9) true, .ptr 9 2 64], 0, fun k => u13 (etctwo_Decode_l0 F k), fun k => u13 (etctwo_Decode_l0S F (etctwo_Decode_l0 F k))⟩
theorem etctwo_Decode_l0k (F : Nat) : (etctwo_Decode_l0t F).ok Tryz.prog Tryz.f125 F :=
  okL callable (etctwo_Decode_all F) [] aN (fun _ => rfl) (fun _ _ => rfl) fun k d => by kernel_rfl
def etctwo_Decode_told (F : Nat) : ToldF := ⟨125, 2, [.row .u8 1 (.slot 0) false, .slot 1 (.bool)], [.ty (.is .i64 64), .ty (.int .i64)], u2 (etctwo_Decode F)⟩
theorem etctwo_Decode_ok (F : Nat) : (etctwo_Decode_told F).ok Tryz.prog :=
  okF callable (etctwo_Decode_all F) (fn := Tryz.f125) [(0, (etctwo_Decode_l0t F).ann F)] (by kernel_rfl) (aL (by kernel_rfl) (etctwo_Decode_l0k F) aN) fun d => by kernel_rfl
def format_decode_tab (F : Nat) : List ToldF := [bcfour_Fours_told F, bcone_Decode_told F, format_plain_told F, format_with_told F, eac_Decode_told F, format_decode_c2_told F, format_blank_told F, bcseven_Decode_told F, etcone_Decode_told F, etctwo_Decode_told F]
theorem format_decode_all (F : Nat) : AllOk Tryz.prog (format_decode_tab F) := ⟨bcfour_Fours_ok F, bcone_Decode_ok F, format_plain_ok F, format_with_ok F, eac_Decode_ok F, format_decode_c2_ok F, format_blank_ok F, bcseven_Decode_ok F, etcone_Decode_ok F, etctwo_Decode_ok F, trivial⟩
def format_decode_told (F : Nat) : ToldF := ⟨64, 5, [.slot 0 (.int .i64), .slot 1 (.agg [.int .i64, .int .i64, .bool]), .row .u8 1 (.slot 2) false, .row .u8 1 (.slot 3) false, .row .u8 1 (.slot 4) false], [.ty (.is .i64 64), .ty (.int .i64)], u5 (format_decode F)⟩
theorem format_decode_ok (F : Nat) : (format_decode_told F).ok Tryz.prog :=
  okF callable (format_decode_all F) (fn := Tryz.f64) [] (by kernel_rfl) aN fun d => by kernel_rfl
def format_Decode_tab (F : Nat) : List ToldF := [format_Of_told F, format_decode_told F]
theorem format_Decode_all (F : Nat) : AllOk Tryz.prog (format_Decode_tab F) := ⟨format_Of_ok F, format_decode_ok F, trivial⟩
def format_Decode_told (F : Nat) : ToldF := ⟨28, 2, [.slot 0 (.int .i64), .row .u8 1 (.slot 1) false], [.ty (.is .i64 64), .ty (.int .i64)], u2 (format_Decode F)⟩
theorem format_Decode_ok (F : Nat) : (format_Decode_told F).ok Tryz.prog :=
  okF callable (format_Decode_all F) (fn := Tryz.f28) [] (by kernel_rfl) aN fun d => by kernel_rfl
def image_Tiles_tab (F : Nat) : List ToldF := []
theorem image_Tiles_all (F : Nat) : AllOk Tryz.prog (image_Tiles_tab F) := trivial
def image_Tiles_told (F : Nat) : ToldF := ⟨31, 2, [.slot 0 (.int .i64), .slot 1 (.int .i64)], [.ty (.int .i64), .ty (.int .i64)], u2 (image_Tiles F)⟩
theorem image_Tiles_ok (F : Nat) : (image_Tiles_told F).ok Tryz.prog :=
  okF callable (image_Tiles_all F) (fn := Tryz.f31) [] (by kernel_rfl) aN fun d => by kernel_rfl
def field_Times_tab (F : Nat) : List ToldF := []
theorem field_Times_all (F : Nat) : AllOk Tryz.prog (field_Times_tab F) := trivial
def field_Times_told (F : Nat) : ToldF := ⟨32, 2, [.slot 0 (.int .i64), .slot 1 (.int .i64)], [.ty (.int .i64), .ty (.int .i64)], u2 (field_Times F)⟩
theorem field_Times_ok (F : Nat) : (field_Times_told F).ok Tryz.prog :=
  okF callable (field_Times_all F) (fn := Tryz.f32) [] (by kernel_rfl) aN fun d => by kernel_rfl
def format_Bytes_tab (F : Nat) : List ToldF := [format_Of_told F, image_Tiles_told F, field_Times_told F]
theorem format_Bytes_all (F : Nat) : AllOk Tryz.prog (format_Bytes_tab F) := ⟨format_Of_ok F, image_Tiles_ok F, field_Times_ok F, trivial⟩
def format_Bytes_told (F : Nat) : ToldF := ⟨11, 3, [.slot 0 (.int .i64), .slot 1 (.int .i64), .slot 2 (.int .i64)], [.ty (.int .i64), .ty (.int .i64)], u3 (format_Bytes F)⟩
theorem format_Bytes_ok (F : Nat) : (format_Bytes_told F).ok Tryz.prog :=
  okF callable (format_Bytes_all F) (fn := Tryz.f11) [] (by kernel_rfl) aN fun d => by kernel_rfl
theorem codes_laid : laidOutB Tryz.prog = true := by kernel_rfl
theorem codes_pk : PairKeys Tryz.prog 61 := pairKeys (P := Tryz.prog) (k := 61) (f0 := fldAt Tryz.prog 61 0) (f1 := fldAt Tryz.prog 61 1) (m := Tryz.prog.types.size - 1) (by kernel_rfl) (by kernel_rfl) (by kernel_rfl) (by kernel_rfl) (by kernel_rfl) (by kernel_rfl) (by kernel_rfl) (by kernel_rfl) (by kernel_rfl) (by kernel_rfl) (by kernel_rfl) (by kernel_rfl) 
theorem codes_kd : Maps.Keyed Tryz.prog 61 := .of_law (deep_law_gate (P := Tryz.prog) codes_laid (of_decide_eq_true (by kernel_rfl)) (of_decide_eq_true (by kernel_rfl)) (by kernel_rfl) (by kernel_rfl) )
def codes_bl : List (Nat × Nat × Value) := codesT.zipIdx.map fun p => (2 * p.2 + 1, p.2 + 2, .agg #[.int .i64 p.1.1, .int .i64 p.1.2.1])
theorem codes_allB : AllB Tryz.prog (regArr (seqA (seqB (bodyOf Tryz.f35)))) codes_bl :=
  ⟨⟨opAt (seqA (seqB (bodyOf Tryz.f35))) 1, by kernel_rfl, by kernel_rfl, by kernel_rfl, fun _ _ => by kernel_rfl⟩, ⟨opAt (seqA (seqB (bodyOf Tryz.f35))) 3, by kernel_rfl, by kernel_rfl, by kernel_rfl, fun _ _ => by kernel_rfl⟩, ⟨opAt (seqA (seqB (bodyOf Tryz.f35))) 5, by kernel_rfl, by kernel_rfl, by kernel_rfl, fun _ _ => by kernel_rfl⟩, ⟨opAt (seqA (seqB (bodyOf Tryz.f35))) 7, by kernel_rfl, by kernel_rfl, by kernel_rfl, fun _ _ => by kernel_rfl⟩, ⟨opAt (seqA (seqB (bodyOf Tryz.f35))) 9, by kernel_rfl, by kernel_rfl, by kernel_rfl, fun _ _ => by kernel_rfl⟩, ⟨opAt (seqA (seqB (bodyOf Tryz.f35))) 11, by kernel_rfl, by kernel_rfl, by kernel_rfl, fun _ _ => by kernel_rfl⟩, ⟨opAt (seqA (seqB (bodyOf Tryz.f35))) 13, by kernel_rfl, by kernel_rfl, by kernel_rfl, fun _ _ => by kernel_rfl⟩, ⟨opAt (seqA (seqB (bodyOf Tryz.f35))) 15, by kernel_rfl, by kernel_rfl, by kernel_rfl, fun _ _ => by kernel_rfl⟩, ⟨opAt (seqA (seqB (bodyOf Tryz.f35))) 17, by kernel_rfl, by kernel_rfl, by kernel_rfl, fun _ _ => by kernel_rfl⟩, ⟨opAt (seqA (seqB (bodyOf Tryz.f35))) 19, by kernel_rfl, by kernel_rfl, by kernel_rfl, fun _ _ => by kernel_rfl⟩, ⟨opAt (seqA (seqB (bodyOf Tryz.f35))) 21, by kernel_rfl, by kernel_rfl, by kernel_rfl, fun _ _ => by kernel_rfl⟩, ⟨opAt (seqA (seqB (bodyOf Tryz.f35))) 23, by kernel_rfl, by kernel_rfl, by kernel_rfl, fun _ _ => by kernel_rfl⟩, ⟨opAt (seqA (seqB (bodyOf Tryz.f35))) 25, by kernel_rfl, by kernel_rfl, by kernel_rfl, fun _ _ => by kernel_rfl⟩, ⟨opAt (seqA (seqB (bodyOf Tryz.f35))) 27, by kernel_rfl, by kernel_rfl, by kernel_rfl, fun _ _ => by kernel_rfl⟩, ⟨opAt (seqA (seqB (bodyOf Tryz.f35))) 29, by kernel_rfl, by kernel_rfl, by kernel_rfl, fun _ _ => by kernel_rfl⟩, ⟨opAt (seqA (seqB (bodyOf Tryz.f35))) 31, by kernel_rfl, by kernel_rfl, by kernel_rfl, fun _ _ => by kernel_rfl⟩, ⟨opAt (seqA (seqB (bodyOf Tryz.f35))) 33, by kernel_rfl, by kernel_rfl, by kernel_rfl, fun _ _ => by kernel_rfl⟩, ⟨opAt (seqA (seqB (bodyOf Tryz.f35))) 35, by kernel_rfl, by kernel_rfl, by kernel_rfl, fun _ _ => by kernel_rfl⟩, trivial⟩
theorem codes_codesAt : CodesAt Tryz.prog 35 :=
  codes_at (P := Tryz.prog) (f := 35) (fn := Tryz.f35) (i0 := blkId (seqA (bodyOf Tryz.f35))) (ops0 := regArr (seqA (bodyOf Tryz.f35))) (i1 := blkId (seqA (seqB (bodyOf Tryz.f35)))) (ops := regArr (seqA (seqB (bodyOf Tryz.f35)))) (n := 21) (T := 58) (K := 61) (E := 3) (oz := opAt (seqA (bodyOf Tryz.f35)) 0) (om := opAt (seqA (seqB (bodyOf Tryz.f35))) 0) (o37 := opAt (seqA (seqB (bodyOf Tryz.f35))) 37) (o38 := opAt (seqA (seqB (bodyOf Tryz.f35))) 38) (dm := 1) (d37 := 20) (bl := codes_bl)
    (by kernel_rfl) (by kernel_rfl) (by kernel_rfl) (by kernel_rfl) (by kernel_rfl) (by kernel_rfl) (by kernel_rfl) (by kernel_rfl) (by kernel_rfl) (by kernel_rfl) (by kernel_rfl) (by kernel_rfl) codes_allB (by kernel_rfl) (by kernel_rfl) (by kernel_rfl) (by kernel_rfl) (by kernel_rfl) (by kernel_rfl) codes_kd (by kernel_rfl) codes_pk (by kernel_rfl) (fun b => by kernel_rfl) (by kernel_rfl) (by kernel_rfl) (by kernel_rfl) (by kernel_rfl) (by kernel_rfl) (by kernel_rfl) (by kernel_rfl) (by kernel_rfl) (by kernel_rfl) (by kernel_rfl) (by kernel_rfl) ⟨by kernel_rfl, of_decide_eq_true (by kernel_rfl), of_decide_eq_true (by kernel_rfl), of_decide_eq_true (by kernel_rfl)⟩ (by kernel_rfl)
def format_Code_told (F : Nat) : ToldF := ⟨13, 2, [.slot 0 (.int .i64), .slot 1 (.int .i64)], [.ty (.int .i64), .ty (.int .i64)], u2 (format_Code F)⟩
theorem format_Code_ok (F : Nat) : (format_Code_told F).ok Tryz.prog :=
  code_spec callable (f := 13) (fc := 35) (fn := Tryz.f13) (fnc := Tryz.f35) (c := (bodyOf Tryz.f13)) (c4 := seqB (rest 3 (bodyOf Tryz.f13))) (id := blkId (seqA (rest 3 (bodyOf Tryz.f13)))) (n := 35) (ops := regArr (seqA (rest 3 (bodyOf Tryz.f13)))) (T := 58) (K := 61) (E := 3) (o0 := opAt (seqA (rest 3 (bodyOf Tryz.f13))) 0) (ol := opAt (seqA (rest 3 (bodyOf Tryz.f13))) 4) (l1 := opsIn (seqA (rest 3 (bodyOf Tryz.f13))) 1 3) (l2 := opsIn (seqA (rest 3 (bodyOf Tryz.f13))) 5 9) (d0 := 25) (dk := 28) (dl := 29) (kx := fun x y => .agg [.int .i64 none x, .int .i64 none y])
    (by kernel_rfl) (by kernel_rfl) (by kernel_rfl) (of_decide_eq_true (by kernel_rfl)) (by kernel_rfl) codes_kd (by kernel_rfl) (fun w => by kernel_rfl) codes_pk (by kernel_rfl) (by kernel_rfl) codes_codesAt (by kernel_rfl) (by kernel_rfl) (by kernel_rfl) (by kernel_rfl) (by kernel_rfl) (by kernel_rfl) (by kernel_rfl) (fun x y => by kernel_rfl) (fun x y b => by kernel_rfl) (fun M x y v h => pair_val h) (fun v b => by kernel_rfl)
def format_Letters_told (F : Nat) : ToldF := ⟨17, 1, [.slot 0 (.str)], [.ty (.int .i64), .ty (.int .i64)], u1 (format_Letters F)⟩
theorem format_Letters_ok (F : Nat) : (format_Letters_told F).ok Tryz.prog :=
  letters_spec callable (f := 17) (fn := Tryz.f17) (c3 := seqB (seqB (bodyOf Tryz.f17))) (i0 := blkId (seqA (bodyOf Tryz.f17))) (i1 := blkId (seqA (seqB (bodyOf Tryz.f17)))) (n := 16) (ops0 := regArr (seqA (bodyOf Tryz.f17))) (ops1 := regArr (seqA (seqB (bodyOf Tryz.f17)))) (T := 64) (K := 9) (E := 3) (om := opAt (seqA (seqB (bodyOf Tryz.f17))) 0) (ol := opAt (seqA (seqB (bodyOf Tryz.f17))) 10) (li := opsIn (seqA (seqB (bodyOf Tryz.f17))) 1 7) (l1 := opsIn (seqA (seqB (bodyOf Tryz.f17))) 8 2) (l2 := opsIn (seqA (seqB (bodyOf Tryz.f17))) 11 9) (dm := 7) (dk := 8) (ds := 9) (dl := 10)
    (by kernel_rfl) (by kernel_rfl) (by kernel_rfl) (of_decide_eq_true (by kernel_rfl)) (Maps.string_keyed (by kernel_rfl)) (by kernel_rfl) (by kernel_rfl) (fun w => by kernel_rfl) (by kernel_rfl) (by kernel_rfl) (by kernel_rfl) (by kernel_rfl) (by kernel_rfl) (by kernel_rfl) (by kernel_rfl) (fun s => by kernel_rfl) (by kernel_rfl) (fun a b h => insOf_eq h (by kernel_rfl)) (fun s b => by kernel_rfl) (fun v b => by kernel_rfl)
def format_Scale_tab (F : Nat) : List ToldF := [format_Of_told F]
theorem format_Scale_all (F : Nat) : AllOk Tryz.prog (format_Scale_tab F) := ⟨format_Of_ok F, trivial⟩
def format_Scale_l2t (F : Nat) : TL := ⟨41, [.segs [.hole (.is .i64 64)] (.slot 3) true, .ptr 3 1 64, .segs [.hole (.is .i64 64)] (.slot 4) true, .ptr 4 2 64, .slot 7 (.int .i64), .slot 19 (.int .i64), .slot 24 (.is .i64 4), .slot 25 (.int .i64)], [.segs [.hole (.is .i64 64)] (.slot 3) true, .ptr 3 1 64, .segs [.hole (.is .i64 64)] (.slot 4) true, .ptr 4 2 64, .slot 19 (.int .i64)], 2, fun k => u6 (format_Scale_l2 F k), fun k => u6 (format_Scale_l2S F (format_Scale_l2 F k))⟩
theorem format_Scale_l2k (F : Nat) : (format_Scale_l2t F).ok Tryz.prog Tryz.f30 F :=
  okL callable (format_Scale_all F) [] aN (fun _ => rfl) (fun _ _ => rfl) fun k d => by kernel_rfl
def format_Scale_l0t (F : Nat) : TL := ⟨41, [.segs [.hole (.is .i64 64)] (.slot 3) true, .ptr 3 1 64, .segs [.hole (.is .i64 64)] (.slot 4) true, .ptr 4 2 64, .slot 19 (.int .i64)], [.segs [.hole (.is .i64 64)] (.slot 3) true, .ptr 3 1 64, .segs [.hole (.is .i64 64)] (.slot 4) true, .ptr 4 2 64], 0, fun k => u3 (format_Scale_l0 F k), fun k => u3 (format_Scale_l0S F (format_Scale_l0 F k))⟩
theorem format_Scale_l0k (F : Nat) : (format_Scale_l0t F).ok Tryz.prog Tryz.f30 F :=
  okL callable (format_Scale_all F) [(2, (format_Scale_l2t F).ann F)] (aL (by kernel_rfl) (format_Scale_l2k F) aN) (fun _ => rfl) (fun _ _ => rfl) fun k d => by kernel_rfl
def format_Scale_told (F : Nat) : ToldF := ⟨30, 2, [.slot 0 (.int .i64), .slot 1 (.is .i64 64)], [.ty (.is .i64 64)], u2 (format_Scale F)⟩
theorem format_Scale_ok (F : Nat) : (format_Scale_told F).ok Tryz.prog :=
  okF callable (format_Scale_all F) (fn := Tryz.f30) [(2, (format_Scale_l2t F).ann F), (0, (format_Scale_l0t F).ann F)] (by kernel_rfl) (aL (by kernel_rfl) (format_Scale_l2k F) (aL (by kernel_rfl) (format_Scale_l0k F) aN)) fun d => by kernel_rfl
def level_square_tab (F : Nat) : List ToldF := []
theorem level_square_all (F : Nat) : AllOk Tryz.prog (level_square_tab F) := trivial
def level_square_told (F : Nat) : ToldF := ⟨126, 1, [.slot 0 (.int .i64)], [.ty (.int .i64)], u1 (level_square F)⟩
theorem level_square_ok (F : Nat) : (level_square_told F).ok Tryz.prog :=
  okF callable (level_square_all F) (fn := Tryz.f126) [] (by kernel_rfl) aN fun d => by kernel_rfl
def level_Error_tab (F : Nat) : List ToldF := [level_square_told F]
theorem level_Error_all (F : Nat) : AllOk Tryz.prog (level_Error_tab F) := ⟨level_square_ok F, trivial⟩
def level_Error_l2t (F : Nat) : TL := ⟨38, [.slot 2 (.int .i64), .segs [.hole (.is .i64 64)] (.slot 3) true, .ptr 3 1 64, .segs [.hole (.is .i64 64)] (.slot 4) true, .ptr 4 2 64, .slot 7 (.int .i64), .slot 8 (.int .i64), .slot 10 (.int .i64), .slot 13 (.int .i64)], [.slot 2 (.int .i64), .segs [.hole (.is .i64 64)] (.slot 3) true, .ptr 3 1 64, .segs [.hole (.is .i64 64)] (.slot 4) true, .ptr 4 2 64, .slot 7 (.int .i64), .slot 10 (.int .i64)], 2, fun k => u7 (level_Error_l2 F k), fun k => u7 (level_Error_l2S F (level_Error_l2 F k))⟩
theorem level_Error_l2k (F : Nat) : (level_Error_l2t F).ok Tryz.prog Tryz.f65 F :=
  okL callable (level_Error_all F) [] aN (fun _ => rfl) (fun _ _ => rfl) fun k d => by kernel_rfl
def level_Error_l0t (F : Nat) : TL := ⟨38, [.slot 2 (.int .i64), .segs [.hole (.is .i64 64)] (.slot 3) true, .ptr 3 1 64, .segs [.hole (.is .i64 64)] (.slot 4) true, .ptr 4 2 64, .slot 7 (.int .i64), .slot 10 (.int .i64)], [.slot 7 (.int .i64)], 0, fun k => u5 (level_Error_l0 F k), fun k => u5 (level_Error_l0S F (level_Error_l0 F k))⟩
theorem level_Error_l0k (F : Nat) : (level_Error_l0t F).ok Tryz.prog Tryz.f65 F :=
  okL callable (level_Error_all F) [(2, (level_Error_l2t F).ann F)] (aL (by kernel_rfl) (level_Error_l2k F) aN) (fun _ => rfl) (fun _ _ => rfl) fun k d => by kernel_rfl
def level_Error_told (F : Nat) : ToldF := ⟨65, 3, [.slot 0 (.is .i64 64), .slot 1 (.is .i64 64), .slot 2 (.int .i64)], [.ty (.int .i64)], u3 (level_Error F)⟩
theorem level_Error_ok (F : Nat) : (level_Error_told F).ok Tryz.prog :=
  okF callable (level_Error_all F) (fn := Tryz.f65) [(2, (level_Error_l2t F).ann F), (0, (level_Error_l0t F).ann F)] (by kernel_rfl) (aL (by kernel_rfl) (level_Error_l2k F) (aL (by kernel_rfl) (level_Error_l0k F) aN)) fun d => by kernel_rfl
def format_Error_tab (F : Nat) : List ToldF := [format_Of_told F, format_Decode_told F, format_Scale_told F, level_Error_told F]
theorem format_Error_all (F : Nat) : AllOk Tryz.prog (format_Error_tab F) := ⟨format_Of_ok F, format_Decode_ok F, format_Scale_ok F, level_Error_ok F, trivial⟩
def format_Error_told (F : Nat) : ToldF := ⟨29, 3, [.slot 0 (.int .i64), .row .u8 1 (.slot 1) false, .slot 2 (.is .i64 64)], [.ty (.int .i64), .ty (.int .i64)], u3 (format_Error F)⟩
theorem format_Error_ok (F : Nat) : (format_Error_told F).ok Tryz.prog :=
  okF callable (format_Error_all F) (fn := Tryz.f29) [] (by kernel_rfl) aN fun d => by kernel_rfl
def law13_awake_tab (F : Nat) : List ToldF := [format_Of_told F, format_Decode_told F, format_Bytes_told F, format_Code_told F, format_Letters_told F, format_Scale_told F, format_Error_told F]
theorem law13_awake_all (F : Nat) : AllOk Tryz.prog (law13_awake_tab F) := ⟨format_Of_ok F, format_Decode_ok F, format_Bytes_ok F, format_Code_ok F, format_Letters_ok F, format_Scale_ok F, format_Error_ok F, trivial⟩
def law13_awake_told (F : Nat) : ToldF := ⟨8, 0, [], [.ty (.bool)], u0 (law13_awake F)⟩
theorem law13_awake_ok (F : Nat) : (law13_awake_told F).ok Tryz.prog :=
  okF callable (law13_awake_all F) (fn := Tryz.f8) [] (by kernel_rfl) aN fun d => by kernel_rfl
def ref13_Of_tab (F : Nat) : List ToldF := []
theorem ref13_Of_all (F : Nat) : AllOk Tryz.prog (ref13_Of_tab F) := trivial
def ref13_Of_told (F : Nat) : ToldF := ⟨10, 1, [.slot 0 (.int .i64)], [.ty (.agg [.int .i64, .int .i64, .bool]), .ty (.int .i64)], u1 (ref13_Of F)⟩
theorem ref13_Of_ok (F : Nat) : (ref13_Of_told F).ok Tryz.prog :=
  okF callable (ref13_Of_all F) (fn := Tryz.f10) [] (by kernel_rfl) aN fun d => by kernel_rfl
def ref04_Tiles_tab (F : Nat) : List ToldF := []
theorem ref04_Tiles_all (F : Nat) : AllOk Tryz.prog (ref04_Tiles_tab F) := trivial
def ref04_Tiles_told (F : Nat) : ToldF := ⟨33, 2, [.slot 0 (.int .i64), .slot 1 (.int .i64)], [.ty (.int .i64), .ty (.int .i64)], u2 (ref04_Tiles F)⟩
theorem ref04_Tiles_ok (F : Nat) : (ref04_Tiles_told F).ok Tryz.prog :=
  okF callable (ref04_Tiles_all F) (fn := Tryz.f33) [] (by kernel_rfl) aN fun d => by kernel_rfl
def ref01_Times_tab (F : Nat) : List ToldF := []
theorem ref01_Times_all (F : Nat) : AllOk Tryz.prog (ref01_Times_tab F) := trivial
def ref01_Times_told (F : Nat) : ToldF := ⟨34, 2, [.slot 0 (.int .i64), .slot 1 (.int .i64)], [.ty (.int .i64), .ty (.int .i64)], u2 (ref01_Times F)⟩
theorem ref01_Times_ok (F : Nat) : (ref01_Times_told F).ok Tryz.prog :=
  okF callable (ref01_Times_all F) (fn := Tryz.f34) [] (by kernel_rfl) aN fun d => by kernel_rfl
def ref13_Bytes_tab (F : Nat) : List ToldF := [ref13_Of_told F, ref04_Tiles_told F, ref01_Times_told F]
theorem ref13_Bytes_all (F : Nat) : AllOk Tryz.prog (ref13_Bytes_tab F) := ⟨ref13_Of_ok F, ref04_Tiles_ok F, ref01_Times_ok F, trivial⟩
def ref13_Bytes_told (F : Nat) : ToldF := ⟨12, 3, [.slot 0 (.int .i64), .slot 1 (.int .i64), .slot 2 (.int .i64)], [.ty (.int .i64), .ty (.int .i64)], u3 (ref13_Bytes F)⟩
theorem ref13_Bytes_ok (F : Nat) : (ref13_Bytes_told F).ok Tryz.prog :=
  okF callable (ref13_Bytes_all F) (fn := Tryz.f12) [] (by kernel_rfl) aN fun d => by kernel_rfl
def ref13_codes_tab (F : Nat) : List ToldF := []
theorem ref13_codes_all (F : Nat) : AllOk Tryz.prog (ref13_codes_tab F) := trivial
def ref13_codes_told (F : Nat) : ToldF := ⟨36, 1, [.slot 0 (.int .i64)], [.row .i64 1], u1 (ref13_codes F)⟩
theorem ref13_codes_ok (F : Nat) : (ref13_codes_told F).ok Tryz.prog :=
  okF callable (ref13_codes_all F) (fn := Tryz.f36) [] (by kernel_rfl) aN fun d => by kernel_rfl
def ref13_Code_tab (F : Nat) : List ToldF := [ref13_Of_told F, ref13_codes_told F]
theorem ref13_Code_all (F : Nat) : AllOk Tryz.prog (ref13_Code_tab F) := ⟨ref13_Of_ok F, ref13_codes_ok F, trivial⟩
def ref13_Code_told (F : Nat) : ToldF := ⟨14, 2, [.slot 0 (.int .i64), .slot 1 (.int .i64)], [.ty (.int .i64), .ty (.int .i64)], u2 (ref13_Code F)⟩
theorem ref13_Code_ok (F : Nat) : (ref13_Code_told F).ok Tryz.prog :=
  okF callable (ref13_Code_all F) (fn := Tryz.f14) [] (by kernel_rfl) aN fun d => by kernel_rfl
def format_Format_told (F : Nat) : ToldF := ⟨15, 2, [.slot 0 (.int .i64), .slot 1 (.int .i64)], [.ty (.int .i64), .ty (.int .i64)], u2 (format_Format F)⟩
theorem format_Format_ok (F : Nat) : (format_Format_told F).ok Tryz.prog :=
  format_spec callable (f := 15) (fc := 35) (fn := Tryz.f15) (fnc := Tryz.f35) (c := (bodyOf Tryz.f15)) (c6 := seqB (inB' (seqB (seqB (inB' (inB' (seqB (seqA (rest 2 (bodyOf Tryz.f15)))))))))) (c7 := seqB (rest 2 (bodyOf Tryz.f15))) (i1 := blkId (seqA (seqA (rest 2 (bodyOf Tryz.f15))))) (i2 := blkId (seqB (seqA (rest 2 (bodyOf Tryz.f15))))) (i3 := blkId (seqA (inB' (inB' (seqB (seqA (rest 2 (bodyOf Tryz.f15)))))))) (i4 := blkId (seqB (seqB (inB' (inB' (seqB (seqA (rest 2 (bodyOf Tryz.f15))))))))) (i5 := blkId (seqA (inB' (seqB (seqB (inB' (inB' (seqB (seqA (rest 2 (bodyOf Tryz.f15))))))))))) (n := 40) (ops1 := regArr (seqA (seqA (rest 2 (bodyOf Tryz.f15))))) (ops3 := regArr (seqA (inB' (inB' (seqB (seqA (rest 2 (bodyOf Tryz.f15)))))))) (ops5 := regArr (seqA (inB' (seqB (seqB (inB' (inB' (seqB (seqA (rest 2 (bodyOf Tryz.f15))))))))))) (T := 58) (K := 61) (E := 3) (o0 := opAt (seqA (seqA (rest 2 (bodyOf Tryz.f15)))) 0) (o1 := opAt (seqA (seqA (rest 2 (bodyOf Tryz.f15)))) 1) (o2 := opAt (seqA (inB' (inB' (seqB (seqA (rest 2 (bodyOf Tryz.f15))))))) 0) (o3 := opAt (seqA (inB' (inB' (seqB (seqA (rest 2 (bodyOf Tryz.f15))))))) 1) (o5 := opAt (seqA (inB' (seqB (seqB (inB' (inB' (seqB (seqA (rest 2 (bodyOf Tryz.f15)))))))))) 0) (l5 := opsIn (seqA (inB' (seqB (seqB (inB' (inB' (seqB (seqA (rest 2 (bodyOf Tryz.f15)))))))))) 1 9) (d0 := 22) (dr := 23) (dn := 24) (dc := 25) (de := 26)
    (by kernel_rfl) (by kernel_rfl) (by kernel_rfl) (of_decide_eq_true (by kernel_rfl)) (by kernel_rfl) codes_kd (by kernel_rfl) (by kernel_rfl) (by kernel_rfl) codes_codesAt (by kernel_rfl) (by kernel_rfl) (by kernel_rfl) (by kernel_rfl) (by kernel_rfl) (by kernel_rfl) (by kernel_rfl) (by kernel_rfl) (by kernel_rfl) (by kernel_rfl) (by kernel_rfl) (by kernel_rfl) (by kernel_rfl) (by kernel_rfl) (by kernel_rfl) (by kernel_rfl) (by kernel_rfl) (by kernel_rfl) (fun x y => by kernel_rfl) (fun x y k i v r => by kernel_rfl) (by kernel_rfl)
def ref13_Format_tab (F : Nat) : List ToldF := [ref13_codes_told F]
theorem ref13_Format_all (F : Nat) : AllOk Tryz.prog (ref13_Format_tab F) := ⟨ref13_codes_ok F, trivial⟩
def ref13_Format_l0t (F : Nat) : TX := ⟨39, [.slot 0 (.int .i64), .row .i64 1 (.slot 6) true, .slot 7 (.int .i64)], [.slot 4 (.int .i64), .const 5 (.int .i64 (some 0) 0)], [], .ret, 0, fun k => u3 (ref13_Format_l0 F k), fun k => u3 (ref13_Format_l0S F (ref13_Format_l0 F k))⟩
theorem ref13_Format_l0k (F : Nat) : (ref13_Format_l0t F).ok Tryz.prog Tryz.f16 F :=
  okX callable (ref13_Format_all F) [] aN (fun _ => rfl) (fun _ _ => rfl) (eR rfl) fun k d => by kernel_rfl
def ref13_Format_told (F : Nat) : ToldF := ⟨16, 2, [.slot 0 (.int .i64), .slot 1 (.int .i64)], [.ty (.int .i64), .ty (.int .i64)], u2 (ref13_Format F)⟩
theorem ref13_Format_ok (F : Nat) : (ref13_Format_told F).ok Tryz.prog :=
  okF callable (ref13_Format_all F) (fn := Tryz.f16) [(0, (ref13_Format_l0t F).ann F)] (by kernel_rfl) (aX (by kernel_rfl) (ref13_Format_l0k F) aN) fun d => by kernel_rfl
def ref13_Letters_tab (F : Nat) : List ToldF := []
theorem ref13_Letters_all (F : Nat) : AllOk Tryz.prog (ref13_Letters_tab F) := trivial
def ref13_Letters_told (F : Nat) : ToldF := ⟨18, 1, [.slot 0 (.str)], [.ty (.int .i64), .ty (.int .i64)], u1 (ref13_Letters F)⟩
theorem ref13_Letters_ok (F : Nat) : (ref13_Letters_told F).ok Tryz.prog :=
  okF callable (ref13_Letters_all F) (fn := Tryz.f18) [] (by kernel_rfl) aN fun d => by kernel_rfl
def law13_FormatTells_tab (F : Nat) : List ToldF := [format_Of_told F, format_Bytes_told F, format_Code_told F, format_Letters_told F, law13_awake_told F, ref13_Of_told F, ref13_Bytes_told F, ref13_Code_told F, format_Format_told F, ref13_Format_told F, ref13_Letters_told F]
theorem law13_FormatTells_all (F : Nat) : AllOk Tryz.prog (law13_FormatTells_tab F) := ⟨format_Of_ok F, format_Bytes_ok F, format_Code_ok F, format_Letters_ok F, law13_awake_ok F, ref13_Of_ok F, ref13_Bytes_ok F, ref13_Code_ok F, format_Format_ok F, ref13_Format_ok F, ref13_Letters_ok F, trivial⟩
def law13_FormatTells_told (F : Nat) : ToldF := ⟨3, 2, [.slot 0 (.is .i64 4), .slot 1 (.str)], [.ty (.bool)], u2 (law13_FormatTells F)⟩
theorem law13_FormatTells_ok (F : Nat) : (law13_FormatTells_told F).ok Tryz.prog :=
  okF callable (law13_FormatTells_all F) (fn := Tryz.f3) [] (by kernel_rfl) aN fun d => by kernel_rfl
end Go.Proofs.YtaogfbhifeobmaaGreat
set_option linter.unusedSimpArgs false
set_option linter.unusedVariables false
namespace Go.AE.Gn
open Go Go.AE
theorem w64 {x : Int} (h1 : -9223372036854775808 ≤ x) (h2 : x ≤ 9223372036854775807) : IntKind.wrap .i64 x = x := wrap_id (has_iff.2 ⟨h1, h2⟩)
theorem beqF {a b : Int} (h : a ≠ b) : (a == b) = false := by simpa using h
theorem bneT {a b : Int} (h : a ≠ b) : (a != b) = true := by simpa using h
def Bytes (b : List Int) : Prop := ∀ x ∈ b, 0 ≤ x ∧ x ≤ 255
theorem Bytes.getD {b : List Int} (h : Bytes b) (i : Nat) : 0 ≤ b.getD i 0 ∧ b.getD i 0 ≤ 255 := by
  rw [List.getD_eq_getElem?_getD]
  by_cases hi : i < b.length
  · rw [List.getElem?_eq_getElem hi]
    exact h _ (List.getElem_mem hi)
  · rw [List.getElem?_eq_none (by omega)]
    simp
theorem Bytes.set {b : List Int} (h : Bytes b) {i : Nat} {v : Int} (hv : 0 ≤ v ∧ v ≤ 255) : Bytes (b.set i v) := by
  intro x hx
  rcases List.mem_or_eq_of_mem_set hx with hx | rfl
  · exact h x hx
  · exact hv
def sumLo (f : Nat → Int) : Nat → Int
  | 0 => 0
  | n + 1 => sumLo f n + f n * 2 ^ n
def sumHi (f : Nat → Int) : Nat → Int
  | 0 => 0
  | n + 1 => 2 * sumHi f n + f n
theorem tdiv_nonneg {x y : Int} (h : 0 ≤ x) : x.tdiv y = x / y := Int.tdiv_eq_ediv_of_nonneg h
theorem tmod_nonneg {x y : Int} (h : 0 ≤ x) : x.tmod y = x % y := Int.tmod_eq_emod_of_nonneg h
end Go.AE.Gn
set_option linter.unusedSimpArgs false
set_option linter.unusedVariables false
namespace Go.AE.Gn
open Go Go.AE
def bitL (x : Int) (j : Nat) : Int := x / 2 ^ j % 2
def lowBit (b : List Int) (i : Nat) : Int := bitL (b.getD (i / 8) 0) (i % 8)
def highBit (b : List Int) (i : Nat) : Int := bitL (b.getD (i / 8) 0) (7 - i % 8)
def chk (len : Nat) (at_ n : Int) : Int := if at_ < 0 ∨ n < 0 ∨ 64 < n then 1 else if at_ + n ≤ 8 * (len : Int) then 0 else 2
def setB (x : Int) (k : Nat) (v : Int) : Int := x - bitL x k * 2 ^ k + v * 2 ^ k
theorem set_closed : ((List.range 256).all fun x => (List.range 8).all fun k => (List.range 2).all fun v => (ior .u8 (iandn .u8 x (ishl .u8 1 k)) (ishl .u8 v k) == setB x k v) && (decide (0 ≤ setB x k v) && decide (setB x k v ≤ 255))) = true := by kernel_rfl
theorem set_fact {x : Int} (hx : 0 ≤ x ∧ x ≤ 255) {k : Nat} (hk : k < 8) {v : Int} (hv : v = 0 ∨ v = 1) :
    ior .u8 (iandn .u8 x (ishl .u8 1 k)) (ishl .u8 v k) = setB x k v ∧ 0 ≤ setB x k v ∧ setB x k v ≤ 255 := by
  obtain ⟨m, rfl⟩ := Int.eq_ofNat_of_zero_le hx.1
  obtain ⟨a, rfl⟩ := Int.eq_ofNat_of_zero_le (show 0 ≤ v by omega)
  have := List.all_eq_true.1 (List.all_eq_true.1 (List.all_eq_true.1 set_closed m (by simp; omega)) k (by simp; omega)) a (by simp; omega)
  simp only [Bool.and_eq_true, beq_iff_eq, decide_eq_true_eq] at this
  exact this
def sets (pos : Nat → Nat × Nat) (n : Int) (b : List Int) : Nat → List Int
  | 0 => b
  | i + 1 => (sets pos n b i).set (pos i).1 (setB ((sets pos n b i).getD (pos i).1 0) (pos i).2 (n / 2 ^ i % 2))
def posHi (A N i : Nat) : Nat × Nat := ((A + (N - 1 - i)) / 8, 7 - (A + (N - 1 - i)) % 8)
theorem sets_len (pos : Nat → Nat × Nat) (n : Int) (b : List Int) : ∀ i, (sets pos n b i).length = b.length
  | 0 => rfl
  | i + 1 => by rw [sets, List.length_set, sets_len pos n b i]
theorem sets_bytes {pos : Nat → Nat × Nat} {n : Int} {b : List Int} (hb : Bytes b) (hp : ∀ i, (pos i).2 < 8) : ∀ i, Bytes (sets pos n b i)
  | 0 => hb
  | i + 1 => (sets_bytes hb hp i).set (set_fact ((sets_bytes hb hp i).getD _) (hp i) (by omega)).2
theorem posHi8 (A N i : Nat) : (posHi A N i).2 < 8 := by simp only [posHi]; omega
end Go.AE.Gn
set_option linter.unusedSimpArgs false
set_option linter.unusedVariables false
namespace Go.AE.Gn
open Go Go.AE
theorem nextI {i : Nat} (h : i < 1000000000000) : IntKind.wrap .i64 ((i : Int) + 1) = ((i + 1 : Nat) : Int) := by rw [w64 (by omega) (by omega)]; omega
def hv (b : List Int) (a n : Nat) : Int := sumHi (fun j => highBit b (a + j)) n
def lv (b : List Int) (a n : Nat) : Int := sumLo (fun j => lowBit b (a + j)) n
def hset (b : List Int) (a n : Nat) (v : Int) : List Int := sets (posHi a n) v b n
theorem hset_len (b : List Int) (a n : Nat) (v : Int) : (hset b a n v).length = b.length := sets_len _ _ _ _
theorem hset_bytes {b : List Int} (hb : Bytes b) (a n : Nat) (v : Int) : Bytes (hset b a n v) := sets_bytes hb (posHi8 a n) n
def hlaid (A N : Nat → Nat) (V : Nat → Int) (c : List Int) : Nat → List Int
  | 0 => c
  | i + 1 => hset (hlaid A N V c i) (A i) (N i) (V i)
end Go.AE.Gn
set_option linter.unusedSimpArgs false
set_option linter.unusedVariables false
namespace Go.AE.Gn
open Go Go.AE
def wideS (b v : Nat) : Int := (List.range 8).foldl (fun o i => 2 * o + (((v / 2 ^ (b - 1 - i % b) % 2 : Nat)) : Int)) 0
def wideV (b : Nat) (x : Int) : Int := wideS b (x % 2 ^ b).toNat
def mixV (a b k o add : Int) : Int := (a * (o - k) + b * k + add) / o
end Go.AE.Gn
set_option linter.unusedSimpArgs false
set_option linter.unusedVariables false
namespace Go.AE.Gn
open Go Go.AE
def tab (N : Nat) (g : Nat → Int) : List Int := (List.range N).map g
theorem beqT {a b : Int} (h : a = b) : (a == b) = true := by simpa using h
end Go.AE.Gn
set_option linter.unusedVariables false
set_option linter.unusedSimpArgs false
namespace Go.AE.Gn
open Go Go.AE
structure BM where
  P : Nat
  W : Nat
  T : Nat
  H : Nat
  C : Nat
  A : Nat
  e : Nat
  o : Nat
  f : Nat
  s : Nat
  base : Nat
structure BM.Ok (m : BM) : Prop where
  P1 : 1 ≤ m.P
  P3 : m.P ≤ 3
  W6 : m.W ≤ 6
  T2 : m.T ≤ 2
  H1 : m.H ≤ 1
  C1 : 1 ≤ m.C
  C7 : m.C ≤ 7
  A8 : m.A ≤ 8
  e1 : m.e ≤ 1
  o1 : m.o ≤ 1
  eo : m.e + m.o ≤ 1
  Ce : m.C + m.e + m.o ≤ 8
  Ae : m.A + m.e + m.o ≤ 8
  f2 : 2 ≤ m.f
  f4 : m.f ≤ 4
  s3 : m.s ≤ 3
  s0 : m.s = 0 ∨ 2 ≤ m.s
  Hs : m.s = 0 → m.H = 0
  b8 : m.base ≤ 8
  all : m.base + m.W + m.T + m.H + 6 * m.P * m.C + 2 * m.P * m.A + 2 * m.P * m.e + m.P * m.o + (16 * m.f - m.P) + (if m.s = 0 then 0 else 16 * m.s - 1) ≤ 128
def e0 (b : List Int) (m : BM) (p0 : Nat) (j : Nat) : Int := if j % 4 = 3 then lv b (p0 + 6 * m.P * m.C + j / 4 * m.A) m.A else lv b (p0 + j % 4 * (2 * m.P * m.C) + j / 4 * m.C) m.C
def bitV (b : List Int) (m : BM) (p1 i : Nat) : Int := if m.e = 1 then lv b (p1 + i) 1 else if m.o = 1 then lv b (p1 + i / 2) 1 else 0
end Go.AE.Gn
set_option linter.unusedVariables false
set_option linter.unusedSimpArgs false
namespace Go.AE.Gn
open Go Go.AE
def wL (n : Nat) : List Int := if n = 2 then [0, 21, 43, 64] else if n = 3 then bctable_WeightsT6 else bctable_WeightsT7
def mx (a z p : Int) (n : Nat) : Int := mixV a z ((wL n).getD p.toNat 0) 64 32
end Go.AE.Gn
set_option linter.unusedVariables false
set_option linter.unusedSimpArgs false
namespace Go.AE.Gn
open Go Go.AE
def g1 (b : List Int) (m : BM) (p0 p1 j : Nat) : Int := 2 ^ (m.e + m.o) * e0 b m p0 j + bitV b m p1 (j / 4)
end Go.AE.Gn
set_option linter.unusedSimpArgs false
set_option linter.unusedVariables false
namespace Go.AE.Gn
open Go Go.AE
theorem getD_all {p : Int → Prop} (h0 : p 0) {l : List Int} (h : ∀ x ∈ l, p x) (i : Nat) : p (l.getD i 0) := by
  rw [List.getD_eq_getElem?_getD]
  by_cases hi : i < l.length
  · rw [List.getElem?_eq_getElem hi]
    exact h _ (List.getElem_mem hi)
  · rw [List.getElem?_eq_none (by omega)]
    exact h0
def n10 (d : Bool) (A B : List Int) (c : Nat) : Int := if d then A.getD c 0 + B.getD c 0 else B.getD c 0
def bad10 (A B : List Int) (c : Nat) : Prop := n10 true A B c < 0 ∨ 31 < n10 true A B c
instance (A B : List Int) (c : Nat) : Decidable (bad10 A B c) := by unfold bad10; exact inferInstance
end Go.AE.Gn
set_option linter.unusedSimpArgs false
set_option linter.unusedVariables false
namespace Go.AE.Gn
open Go Go.AE
abbrev Fits (n : Nat) (v : Int) : Prop := 0 ≤ v ∧ v < 2 ^ n
def lay1 (st : List Int × Bool) (a n : Nat) (v : Int) : List Int × Bool := if st.2 = true ∧ Fits n v then (hset st.1 a n v, true) else (st.1, false)
structure Laid (A N : Nat → Nat) (V : Nat → Int) (m : Nat) (st : List Int × Bool) : Prop where
  len : st.1.length = 8
  bytes : Bytes st.1
  fine : st.2 = true ↔ ∀ i, i < m → Fits (N i) (V i)
  eq : st.2 = true → st.1 = hlaid A N V [0, 0, 0, 0, 0, 0, 0, 0] m
theorem Laid.nil (A N : Nat → Nat) (V : Nat → Int) : Laid A N V 0 ([0, 0, 0, 0, 0, 0, 0, 0], true) :=
  ⟨rfl, fun x hx => by simp at hx; omega, by simp, fun _ => rfl⟩
theorem lay1_keep {st : List Int × Bool} (hl : st.1.length = 8) (hb : Bytes st.1) (a n : Nat) (v : Int) : (lay1 st a n v).1.length = 8 ∧ Bytes (lay1 st a n v).1 := by
  unfold lay1
  split
  · exact ⟨by rw [hset_len, hl], hset_bytes hb _ _ _⟩
  · exact ⟨hl, hb⟩
theorem Laid.step {A N : Nat → Nat} {V : Nat → Int} {m : Nat} {st : List Int × Bool} (h : Laid A N V m st) : Laid A N V (m + 1) (lay1 st (A m) (N m) (V m)) := by
  have hk := lay1_keep h.len h.bytes (A m) (N m) (V m)
  refine ⟨hk.1, hk.2, ?_, ?_⟩
  · unfold lay1
    by_cases hc : st.2 = true ∧ Fits (N m) (V m)
    · rw [if_pos hc]
      simp only [true_iff]
      intro i hi
      rcases Nat.lt_or_ge i m with h1 | h1
      · exact h.fine.1 hc.1 i h1
      · have : i = m := by omega
        subst this
        exact hc.2
    · rw [if_neg hc]
      simp only [Bool.false_eq_true, false_iff]
      exact fun hall => hc ⟨h.fine.2 fun i hi => hall i (by omega), hall m (by omega)⟩
  · unfold lay1
    split
    · rename_i hc
      intro _
      show hset st.1 (A m) (N m) (V m) = _
      rw [h.eq hc.1]
      rfl
    · intro h2; cases h2
def Ok10 (d : Bool) (A B T W : List Int) : Prop :=
  (∀ c, c < 3 → if d then (0 ≤ A.getD c 0 ∧ A.getD c 0 ≤ 31) ∧ (-4 ≤ B.getD c 0 ∧ B.getD c 0 ≤ 3) else (0 ≤ A.getD c 0 ∧ A.getD c 0 ≤ 15) ∧ (0 ≤ B.getD c 0 ∧ B.getD c 0 ≤ 15)) ∧
  (∀ i, i < 16 → 0 ≤ W.getD i 0 ∧ W.getD i 0 ≤ 3) ∧ (0 ≤ T.getD 0 0 ∧ T.getD 0 0 ≤ 7) ∧ (0 ≤ T.getD 1 0 ∧ T.getD 1 0 ≤ 7)
def Is64 (l : List Int) : Prop := ∀ i, IntKind.i64.has (l.getD i 0)
theorem Is64.of {l : List Int} (h : ∀ x ∈ l, IntKind.i64.has x) : Is64 l := fun i => getD_all (p := fun x => IntKind.i64.has x) (has_iff.2 (by decide)) h i
theorem Laid.off {A N : Nat → Nat} {V : Nat → Int} {m : Nat} {st st' : List Int × Bool} (h : Laid A N V m st) (h0 : st.2 = false) (hl : st'.1.length = 8) (hb : Bytes st'.1) (hf : st'.2 = false) : Laid A N V (m + 1) st' := by
  refine ⟨hl, hb, ?_, ?_⟩
  · rw [hf]
    simp only [Bool.false_eq_true, false_iff]
    intro hall
    rw [h.fine.2 fun i hi => hall i (by omega)] at h0
    cases h0
  · rw [hf]
    intro h2
    cases h2
instance (d : Bool) (A B T W : List Int) : Decidable (Ok10 d A B T W) := by
  unfold Ok10
  have : ∀ c, Decidable (if d then (0 ≤ A.getD c 0 ∧ A.getD c 0 ≤ 31) ∧ (-4 ≤ B.getD c 0 ∧ B.getD c 0 ≤ 3) else (0 ≤ A.getD c 0 ∧ A.getD c 0 ≤ 15) ∧ (0 ≤ B.getD c 0 ∧ B.getD c 0 ≤ 15)) := fun c => by
    cases d <;> simp only [Bool.false_eq_true, if_false, if_true] <;> exact inferInstance
  exact inferInstance
end Go.AE.Gn
set_option linter.unusedVariables false
set_option linter.unusedSimpArgs false
namespace Go.AE.Gn
open Go Go.AE
def pk (b : List Int) (L : List Nat) : Nat → Int
  | 0 => 0
  | i + 1 => 2 * pk b L i + hv b (L.getD i 0) 1
def plainV (x y z : Int) : List Int := [wideV 4 x, wideV 4 y, wideV 4 z, 255]
def Small (x : Int) : Prop := 0 ≤ x ∧ x < 100000
theorem Small.w {x : Int} (h : Small x) : -9000000000000000000 ≤ x ∧ x ≤ 9000000000000000000 := by unfold Small at h; omega
def distV (n : Int) : Int := etctwo_DistanceT1261.getD (n % 8).toNat 0
end Go.AE.Gn
set_option linter.unusedVariables false
set_option linter.unusedSimpArgs false
namespace Go.AE.Gn
open Go Go.AE
def hL (b : List Int) : List Int := plainV (hv b 1 4) (pk b [5, 6, 7, 11] 4) (pk b [12, 14, 15, 16] 4)
def hM (b : List Int) : List Int := plainV (hv b 17 4) (hv b 21 4) (hv b 25 4)
def hX (b : List Int) : Int := 256 * hv b 1 4 + 16 * pk b [5, 6, 7, 11] 4 + pk b [12, 14, 15, 16] 4
def hY (b : List Int) : Int := 256 * hv b 17 4 + 16 * hv b 21 4 + hv b 25 4
def hD (b : List Int) : Int := distV (if hY b ≤ hX b then 2 * pk b [29, 31] 2 + 1 else 2 * pk b [29, 31] 2)
end Go.AE.Gn
set_option linter.unusedVariables false
set_option linter.unusedSimpArgs false
namespace Go.AE.Gn
open Go Go.AE
theorem zero_row : [(0 : Int), 0, 0, 0] = tab 4 fun _ => 0 := rfl
end Go.AE.Gn
set_option linter.unusedSimpArgs false
set_option linter.unusedVariables false
namespace Go.AE.Gn
open Go Go.AE
def eacN (i : Nat) : Nat := match i with | 0 => 8 | 1 => 4 | 2 => 4 | _ + 3 => 3
def eacV (base times table : Int) (w : List Int) (i : Nat) : Int := match i with | 0 => base | 1 => times | 2 => table | i + 3 => w.getD i 0
def EacFit (base times table : Int) (w : List Int) : Prop := (0 ≤ base ∧ base ≤ 255) ∧ (0 ≤ times ∧ times ≤ 15) ∧ (0 ≤ table ∧ table ≤ 15) ∧ w.length = 16 ∧ ∀ i, i < 16 → 0 ≤ w.getD i 0 ∧ w.getD i 0 ≤ 7
theorem EacFit.V {base times table : Int} {w : List Int} (h : EacFit base times table w) : ∀ i, i < 19 → 0 ≤ eacV base times table w i ∧ eacV base times table w i < 2 ^ eacN i := by
  obtain ⟨h1, h2, h3, h4, h5⟩ := h
  intro i hi
  match i with
  | 0 => simp only [eacV, eacN]; omega
  | 1 => simp only [eacV, eacN]; omega
  | 2 => simp only [eacV, eacN]; omega
  | i + 3 =>
    have := h5 i (by omega)
    simp only [eacV, eacN]
    omega
end Go.AE.Gn
set_option linter.unusedSimpArgs false
set_option linter.unusedVariables false
namespace Go.AE.Gn
open Go Go.AE
theorem awake13 : law13_awake 600 = some (true, ()) := by kernel_rfl
end Go.AE.Gn
set_option linter.unusedSimpArgs false
set_option linter.unusedVariables false
namespace Go.AE.Gn
open Go Go.AE
def bytes13 (k : Nat) : Nat := match k with | 1 | 4 | 7 | 8 | 9 | 11 => 8 | _ => 16
def mask13 (k : Nat) : Int := match k with | 1 | 7 | 8 => 7 | 2 | 3 | 6 | 9 | 10 => 15 | 4 | 11 => 1 | _ => 3
def wide13 (k : Nat) : Bool := match k with | 11 | 12 => true | _ => false
def Fmt (k : Nat) : Prop := 1 ≤ k ∧ k ≤ 12
theorem fmt_cases {p : Nat → Prop} (h1 : p 1) (h2 : p 2) (h3 : p 3) (h4 : p 4) (h5 : p 5) (h6 : p 6) (h7 : p 7) (h8 : p 8) (h9 : p 9) (h10 : p 10) (h11 : p 11) (h12 : p 12) {k : Nat} (h : Fmt k) : p k := by
  obtain ⟨a, b⟩ := h
  have : k = 1 ∨ k = 2 ∨ k = 3 ∨ k = 4 ∨ k = 5 ∨ k = 6 ∨ k = 7 ∨ k = 8 ∨ k = 9 ∨ k = 10 ∨ k = 11 ∨ k = 12 := by omega
  rcases this with rfl | rfl | rfl | rfl | rfl | rfl | rfl | rfl | rfl | rfl | rfl | rfl <;> assumption
theorem Of_is (F : Nat) {k : Nat} (h : Fmt k) : format_Of F (k : Int) = some (((bytes13 k : Int), (mask13 k, (wide13 k, ()))), (0, ())) := by
  refine fmt_cases (p := fun k => format_Of F (k : Int) = some (((bytes13 k : Int), (mask13 k, (wide13 k, ()))), (0, ()))) ?_ ?_ ?_ ?_ ?_ ?_ ?_ ?_ ?_ ?_ ?_ ?_ h <;> rfl
theorem Of_bad (F : Nat) {f : Int} (h : ¬ (1 ≤ f ∧ f ≤ 12)) : format_Of F f = some ((0, (0, (false, ()))), (5, ())) := by
  have hn : ∀ c : Int, 1 ≤ c → c ≤ 12 → (f == c) = false := fun c h1 h2 => beqF (by omega)
  unfold format_Of
  rw [hn 1 (by decide) (by decide), hn 7 (by decide) (by decide), hn 8 (by decide) (by decide), hn 2 (by decide) (by decide), hn 3 (by decide) (by decide), hn 6 (by decide) (by decide), hn 10 (by decide) (by decide), hn 9 (by decide) (by decide), hn 4 (by decide) (by decide), hn 11 (by decide) (by decide), hn 5 (by decide) (by decide), hn 12 (by decide) (by decide)]
  rfl
theorem fmt_of {f : Int} (h : 1 ≤ f ∧ f ≤ 12) : ∃ k, Fmt k ∧ f = (k : Int) := ⟨f.toNat, ⟨by omega, by omega⟩, by omega⟩
section
variable {b : List Int}
end
end Go.AE.Gn
set_option linter.unusedSimpArgs false
set_option linter.unusedVariables false
namespace Go.AE.Gn
open Go Go.AE
theorem rOf_is (F : Nat) (f : Int) : ref13_Of F f = format_Of F f ∧ ∃ r, format_Of F f = some r := by
  by_cases h : 1 ≤ f ∧ f ≤ 12
  · obtain ⟨k, hk, rfl⟩ := fmt_of h
    rw [Of_is F hk]
    refine ⟨?_, _, rfl⟩
    refine fmt_cases (p := fun k => ref13_Of F (k : Int) = some (((bytes13 k : Int), (mask13 k, (wide13 k, ()))), (0, ()))) ?_ ?_ ?_ ?_ ?_ ?_ ?_ ?_ ?_ ?_ ?_ ?_ hk <;> rfl
  · rw [Of_bad F h]
    refine ⟨?_, _, rfl⟩
    unfold ref13_Of
    by_cases h1 : f < 1
    · simp only [h1, decide_true, cond_true]
    · have h2 : 12 < f := by omega
      simp only [h1, decide_false, cond_false, h2, decide_true, cond_true]
theorem Times_eq (F : Nat) (a b : Int) : ref01_Times F a b = field_Times F a b ∧ ∃ r, field_Times F a b = some r := by
  unfold ref01_Times field_Times
  by_cases h1 : a < 0
  · simp only [h1, decide_true, cond_true]
    exact ⟨trivial, _, rfl⟩
  simp only [h1, decide_false, cond_false]
  by_cases h2 : b < 0
  · simp only [h2, decide_true, cond_true]
    exact ⟨trivial, _, rfl⟩
  simp only [h2, decide_false, cond_false]
  by_cases h3 : b = 0
  · subst h3
    by_cases h4 : a = 0
    · subst h4
      exact ⟨rfl, _, rfl⟩
    · simp only [beqF h4, cond_false, beq_self_eq_true, cond_true, show ¬ (0 : Int) < 0 by decide, decide_false, Int.mul_zero]
      exact ⟨rfl, _, rfl⟩
  · have h5 : 0 < b := by omega
    simp only [beqF h3, cond_false, h5, decide_true, cond_true, Bool.not_false]
    by_cases h4 : a = 0
    · subst h4
      have h6 : (2147483647 : Int).tdiv b = 2147483647 / b := tdiv_nonneg (by decide)
      have h7 : 0 ≤ (2147483647 : Int) / b := Int.ediv_nonneg (by decide) (by omega)
      have h8 : (2147483647 : Int) / b ≤ 2147483647 := Int.ediv_le_self _ (by decide)
      rw [h6, w64 (by omega) (by omega)]
      have h9 : ¬ (2147483647 : Int) / b < 0 := by omega
      simp only [beq_self_eq_true, cond_true, h9, decide_false, cond_false, Int.zero_mul]
      exact ⟨rfl, _, rfl⟩
    · simp only [beqF h4, cond_false]
      refine ⟨trivial, ?_⟩
      cases decide (IntKind.i64.wrap ((2147483647 : Int).tdiv b) < a) <;> exact ⟨_, rfl⟩
theorem rBytes_is (F : Nat) (f w h : Int) : ref13_Bytes F f w h = format_Bytes F f w h ∧ ∃ r, format_Bytes F f w h = some r := by
  unfold ref13_Bytes format_Bytes
  obtain ⟨e1, x, e2⟩ := rOf_is F f
  rw [e1, e2]
  simp only [Option.bind_some]
  cases x.2.1 != 0
  · simp only [cond_false]
    by_cases h1 : w < 1
    · simp only [h1, decide_true, cond_true]; exact ⟨trivial, _, rfl⟩
    by_cases h2 : h < 1
    · simp only [h1, h2, decide_true, decide_false, cond_true, cond_false]; exact ⟨trivial, _, rfl⟩
    simp only [h1, h2, decide_false, cond_false]
    have e3 : ref04_Tiles F w h = image_Tiles F w h := rfl
    rw [e3]
    have e4 : ∃ r, image_Tiles F w h = some r := by
      unfold image_Tiles
      simp only [h1, h2, decide_false, cond_false]
      exact ⟨_, rfl⟩
    obtain ⟨t, e4⟩ := e4
    rw [e4]
    simp only [Option.bind_some]
    obtain ⟨e5, n, e6⟩ := Times_eq F t.1 t.2.1
    rw [e5, e6]
    simp only [Option.bind_some]
    cases n.2.1 != 0
    · simp only [cond_false]
      obtain ⟨e7, m, e8⟩ := Times_eq F n.1 x.1.1
      rw [e7, e8]
      exact ⟨rfl, _, rfl⟩
    · exact ⟨rfl, _, rfl⟩
  · exact ⟨rfl, _, rfl⟩
theorem codeF1_bad {f : Int} (h : ¬ (1 ≤ f ∧ f ≤ 12)) (y : Int) : codeF1 f y = some (.inl [0, 5]) := by
  have hn : ∀ c : Int, 1 ≤ c → c ≤ 12 → (f == c) = false := fun c h1 h2 => beqF (by omega)
  unfold codeF1
  rw [hn 1 (by decide) (by decide), hn 7 (by decide) (by decide), hn 8 (by decide) (by decide), hn 2 (by decide) (by decide), hn 3 (by decide) (by decide), hn 6 (by decide) (by decide), hn 10 (by decide) (by decide), hn 9 (by decide) (by decide), hn 4 (by decide) (by decide), hn 11 (by decide) (by decide), hn 5 (by decide) (by decide), hn 12 (by decide) (by decide)]
  rfl
theorem codeF1_fmt {k : Nat} (h : Fmt k) (y : Int) : codeF1 (k : Int) y = cond (y != 1) (cond (y != 2) (some (.inl [0, 1])) (some (.inr [(k : Int), y]))) (some (.inr [(k : Int), y])) := by
  refine fmt_cases (p := fun k => codeF1 (k : Int) y = cond (y != 1) (cond (y != 2) (some (.inl [0, 1])) (some (.inr [(k : Int), y]))) (some (.inr [(k : Int), y]))) ?_ ?_ ?_ ?_ ?_ ?_ ?_ ?_ ?_ ?_ ?_ ?_ h <;> rfl
theorem fmt_or {k : Nat} (h : Fmt k) : k = 1 ∨ k = 2 ∨ k = 3 ∨ k = 4 ∨ k = 5 ∨ k = 6 ∨ k = 7 ∨ k = 8 ∨ k = 9 ∨ k = 10 ∨ k = 11 ∨ k = 12 := by unfold Fmt at h; omega
theorem rCode_is (F : Nat) (f y : Int) : ref13_Code F f y = codeF f y ∧ ∃ r, codeF f y = some r := by
  by_cases h : 1 ≤ f ∧ f ≤ 12
  · obtain ⟨k, hk, rfl⟩ := fmt_of h
    unfold ref13_Code
    rw [(rOf_is F _).1, Of_is F hk]
    unfold codeF
    rw [codeF1_fmt hk]
    simp only [Option.bind_some, bne_self_eq_false, cond_false]
    by_cases h1 : y = 1
    · subst h1
      rcases fmt_or hk with rfl | rfl | rfl | rfl | rfl | rfl | rfl | rfl | rfl | rfl | rfl | rfl <;> exact ⟨rfl, _, rfl⟩
    · by_cases h2 : y = 2
      · subst h2
        rcases fmt_or hk with rfl | rfl | rfl | rfl | rfl | rfl | rfl | rfl | rfl | rfl | rfl | rfl <;> exact ⟨rfl, _, rfl⟩
      · simp only [bneT h1, bneT h2, cond_true]
        exact ⟨rfl, _, rfl⟩
  · unfold ref13_Code codeF
    rw [(rOf_is F f).1, Of_bad F h, codeF1_bad h]
    exact ⟨rfl, _, rfl⟩
theorem Format_l0_none {x : Int} {L : List Int} (hl : L.length ≤ 1000) (h : ∀ j, j < L.length → L.getD j 0 = x → x = 0) : ∀ (d i k : Nat), i + d = L.length → d < k → ref13_Format_l0 600 k x L (i : Int) = some (.inr ()) := by
  intro d
  induction d with
  | zero =>
    intro i k h1 h2
    obtain ⟨k, rfl⟩ : ∃ k', k = k' + 1 := ⟨k - 1, by omega⟩
    show ref13_Format_l0S 600 (ref13_Format_l0 600 k) x L i = _
    unfold ref13_Format_l0S
    have : ¬ (i : Int) < (L.length : Int) := by omega
    simp only [this, decide_false, cond_false]
  | succ d ih =>
    intro i k h1 h2
    obtain ⟨k, rfl⟩ : ∃ k', k = k' + 1 := ⟨k - 1, by omega⟩
    show ref13_Format_l0S 600 (ref13_Format_l0 600 k) x L i = _
    unfold ref13_Format_l0S
    have h3 : (i : Int) < (L.length : Int) := by omega
    simp only [h3, decide_true, cond_true, Int.natCast_nonneg, Bool.and_self, Int.toNat_natCast, nextI (show i < 1000000000000 by omega)]
    have nx := ih (i + 1) k (by omega) (by omega)
    by_cases h4 : L.getD i 0 = x
    · have h5 := h i (by omega) h4
      subst h5
      simp only [beqT h4, cond_true, bne_self_eq_false, cond_false]
      exact nx
    · simp only [beqF h4, cond_false]
      exact nx
theorem fmt_closed : codesT.all (fun q => (match ref13_Format_l0 600 600 q.2.2 (if q.2.1 = 1 then ref13_codesT3702 else ref13_codesT3703) 1 with | some (.inl r) => r.1 == q.1 | _ => false) && formatL q.2.2 q.2.1 == some q.1) = true := by decide +kernel
theorem tab_closed1 : (List.range ref13_codesT3702.length).all (fun j => ref13_codesT3702.getD j 0 == 0 || codesT.any fun q => q.2.1 == 1 && q.2.2 == ref13_codesT3702.getD j 0) = true := by decide +kernel
theorem tab_closed2 : (List.range ref13_codesT3703.length).all (fun j => ref13_codesT3703.getD j 0 == 0 || codesT.any fun q => q.2.1 == 2 && q.2.2 == ref13_codesT3703.getD j 0) = true := by decide +kernel
theorem scan_is (x y : Int) (hy : y = 1 ∨ y = 2) : ∃ r, ref13_Format_l0 600 600 x (if y = 1 then ref13_codesT3702 else ref13_codesT3703) 1 = some r ∧ (match r with | .inl r => some (r.1, (0, ())) | .inr _ => some (0, (5, ()))) = orE 5 (formatL x y) := by
  by_cases h : ∃ q ∈ codesT, q.2.1 = y ∧ q.2.2 = x
  · obtain ⟨q, hq, rfl, rfl⟩ := h
    have := List.all_eq_true.1 fmt_closed q hq
    simp only [Bool.and_eq_true, beq_iff_eq] at this
    obtain ⟨h1, h2⟩ := this
    split at h1
    · rename_i r hr
      refine ⟨.inl r, hr, ?_⟩
      have h3 : r.1 = q.1 := by simpa using h1
      rw [h2, ← h3]
      rfl
    · cases h1
  · have hn : formatL x y = none := formatL_none fun q hq hh => h ⟨q, hq, hh⟩
    refine ⟨.inr (), ?_, by rw [hn]; rfl⟩
    have key : ∀ L : List Int, L.length = 13 → (List.range L.length).all (fun j => L.getD j 0 == 0 || codesT.any fun q => q.2.1 == y && q.2.2 == L.getD j 0) = true → ref13_Format_l0 600 600 x L 1 = some (.inr ()) := by
      intro L hL hall
      refine Format_l0_none (by omega) (fun j hj hx => ?_) 12 1 600 (by omega) (by omega)
      have := List.all_eq_true.1 hall j (List.mem_range.2 hj)
      rw [Bool.or_eq_true] at this
      rcases this with h1 | h1
      · rw [← hx]; simpa using h1
      · obtain ⟨q, hq, hqq⟩ := List.any_eq_true.1 h1
        simp only [Bool.and_eq_true, beq_iff_eq] at hqq
        exact absurd ⟨q, hq, hqq.1, by rw [hqq.2, hx]⟩ h
    rcases hy with rfl | rfl
    · exact key _ rfl tab_closed1
    · exact key _ rfl tab_closed2
theorem rFormat_is (x y : Int) : ref13_Format 600 x y = formatF x y ∧ ∃ r, formatF x y = some r := by
  have some_orE : ∀ e o, ∃ r, orE e o = some r := fun e o => by cases o <;> exact ⟨_, rfl⟩
  unfold ref13_Format formatF formatF1
  by_cases h1 : y = 1
  · subst h1
    obtain ⟨r, e1, e2⟩ := scan_is x 1 (.inl rfl)
    simp only [if_true] at e1
    obtain ⟨q, hq⟩ := some_orE 5 (formatL x 1)
    refine ⟨?_, q, hq⟩
    show (ref13_Format_l0 600 600 x ref13_codesT3702 1).bind _ = orE 5 (formatL x 1)
    rw [e1, ← e2]
    cases r <;> rfl
  · by_cases h2 : y = 2
    · subst h2
      by_cases h3 : x = 33777
      · subst h3
        exact ⟨rfl, _, rfl⟩
      · obtain ⟨r, e1, e2⟩ := scan_is x 2 (.inr rfl)
        simp only [show ¬ (2 : Int) = 1 by decide, if_false] at e1
        obtain ⟨q, hq⟩ := some_orE 5 (formatL x 2)
        simp only [beqF h3, Int.reduceBNe, Int.reduceBEq, cond_true, cond_false]
        refine ⟨?_, q, hq⟩
        show (ref13_Format_l0 600 600 x ref13_codesT3703 1).bind _ = orE 5 (formatL x 2)
        rw [e1, ← e2]
        cases r <;> rfl
    · simp only [bneT h1, bneT h2, cond_true]
      exact ⟨rfl, _, rfl⟩
theorem rLetters_is (F : Nat) (s : List Int) : ref13_Letters F s = lettersF s ∧ ∃ r, lettersF s = some r := by
  refine ⟨?_, by unfold lettersF; cases lettersL s <;> exact ⟨_, rfl⟩⟩
  unfold ref13_Letters lettersF lettersL lettersT
  simp only [List.find?]
  cases ([(68 : Int), 88, 84, 49] == s) with
  | true => rfl
  | false =>
  cases ([(68 : Int), 88, 84, 51] == s) with
  | true => rfl
  | false =>
  cases ([(68 : Int), 88, 84, 53] == s) with
  | true => rfl
  | false =>
  cases ([(65 : Int), 84, 73, 49] == s) with
  | true => rfl
  | false =>
  cases ([(65 : Int), 84, 73, 50] == s) with
  | true => rfl
  | false =>
  cases ([(66 : Int), 67, 52, 85] == s) with
  | true => rfl
  | false =>
  cases ([(66 : Int), 67, 53, 85] == s) with
  | true => rfl
  | false => rfl
theorem law13_FormatTells_true (a0 a1 : List Int) (h0 : a0.length = 4 ∧ ∀ x ∈ a0, IntKind.i64.has x) : ∃ F, law13_FormatTells F a0 a1 = some (true, ()) := by
  refine ⟨600, ?_⟩
  unfold law13_FormatTells
  rw [awake13]
  simp only [Option.bind_some]
  cases decide ((1073741824 : Int) < a0.getD 1 0)
  case true => rfl
  cases decide ((1073741824 : Int) < a0.getD 2 0)
  case true => rfl
  simp only [cond_false]
  obtain ⟨e1, r1, q1⟩ := rOf_is 600 (a0.getD 0 0)
  obtain ⟨e2, r2, q2⟩ := rBytes_is 600 (a0.getD 0 0) (a0.getD 1 0) (a0.getD 2 0)
  obtain ⟨e3, r3, q3⟩ := rCode_is 600 (a0.getD 0 0) (a0.getD 3 0)
  obtain ⟨e4, r4, q4⟩ := rFormat_is (a0.getD 1 0) (a0.getD 3 0)
  obtain ⟨e5, r5, q5⟩ := rLetters_is 600 a1
  unfold format_Code format_Format format_Letters
  rw [e1, e2, e3, e4, e5, q1, q2, q3, q4, q5]
  simp only [Option.bind_some, beq_self_eq_true, cond_true]
end Go.AE.Gn

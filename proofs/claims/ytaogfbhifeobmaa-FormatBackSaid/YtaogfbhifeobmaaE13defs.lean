/- Printed by a program of mine (gen.py): what the Go functions of this part come to. -/
import Derived.Test.YtaogfbhifeobmaaFw24
import Derived.Test.YtaogfbhifeobmaaA02defs
import Derived.Test.YtaogfbhifeobmaaA07defs
import Derived.Test.YtaogfbhifeobmaaA08defs
import Derived.Test.YtaogfbhifeobmaaB06defs
import Derived.Test.YtaogfbhifeobmaaB10defs
import Derived.Test.YtaogfbhifeobmaaC09defs
import Derived.Test.YtaogfbhifeobmaaC11defs
import Derived.Test.YtaogfbhifeobmaaA12defs
set_option linter.unusedSimpArgs false
set_option linter.unusedVariables false
namespace Go.AE.Gn
open Go Go.AE

/-- swatch/format.Of -/
def format_Of (F : Nat) (a0 : Int) : Option ((Int × (Int × (Bool × Unit))) × (Int × Unit)) :=
  cond (a0 == (1 : Int))
    (some (((8 : Int), ((7 : Int), (false, ()))), ((0 : Int), ())))
    (cond (a0 == (7 : Int))
      (some (((8 : Int), ((7 : Int), (false, ()))), ((0 : Int), ())))
      (cond (a0 == (8 : Int))
        (some (((8 : Int), ((7 : Int), (false, ()))), ((0 : Int), ())))
        (cond (a0 == (2 : Int))
          (some (((16 : Int), ((15 : Int), (false, ()))), ((0 : Int), ())))
          (cond (a0 == (3 : Int))
            (some (((16 : Int), ((15 : Int), (false, ()))), ((0 : Int), ())))
            (cond (a0 == (6 : Int))
              (some (((16 : Int), ((15 : Int), (false, ()))), ((0 : Int), ())))
              (cond (a0 == (10 : Int))
                (some (((16 : Int), ((15 : Int), (false, ()))), ((0 : Int), ())))
                (cond (a0 == (9 : Int))
                  (some (((8 : Int), ((15 : Int), (false, ()))), ((0 : Int), ())))
                  (cond (a0 == (4 : Int))
                    (some (((8 : Int), ((1 : Int), ((a0 == (11 : Int)), ()))), ((0 : Int), ())))
                    (let b12 : Bool := (a0 == (11 : Int))
                    cond b12
                      (some (((8 : Int), ((1 : Int), (b12, ()))), ((0 : Int), ())))
                      (cond (a0 == (5 : Int))
                        (some (((16 : Int), ((3 : Int), ((a0 == (12 : Int)), ()))), ((0 : Int), ())))
                        (let b15 : Bool := (a0 == (12 : Int))
                        cond b15
                          (some (((16 : Int), ((3 : Int), (b15, ()))), ((0 : Int), ())))
                          (some (((0 : Int), ((0 : Int), (false, ()))), ((5 : Int), ()))))))))))))))

def law13_awakeT17 : List Int := [9, 9, 0, 0, 0, 0, 0, 0, 255, 255, 0, 0, 0, 0, 0, 0]
def format_DecodeT19 : List Int := [0, 0, 0, 0, 0, 0, 0, 0, 0, 0, 0, 0, 0, 0, 0, 0, 0, 0, 0, 0, 0, 0, 0, 0, 0, 0, 0, 0, 0, 0, 0, 0, 0, 0, 0, 0, 0, 0, 0, 0, 0, 0, 0, 0, 0, 0, 0, 0, 0, 0, 0, 0, 0, 0, 0, 0, 0, 0, 0, 0, 0, 0, 0, 0]
def format_decodeT239 : List Int := [0, 0, 0, 0, 0, 0, 0, 0, 0, 0, 0, 0, 0, 0, 0, 0]
/-- swatch/format.plain -/
def format_plain (F : Nat) (a0 : List Int) (a1 : Int) : Option (List Int × Unit) :=
  some (a0, ())

def format_with_l0S (F : Nat) (rec : Int → List Int → List Int → List Int → Int → Option (List Int × (List Int × Unit))) (x0 : Int) (x1 : List Int) (x2 : List Int) (x3 : List Int) (x4 : Int) : Option (List Int × (List Int × Unit)) :=
  cond (decide (x4 < (16 : Int)))
    (let b344 : Bool := ((decide ((0 : Int) ≤ x4)) && (decide (x4 < (16 : Int))))
    cond b344
      (cond b344
        (cond ((decide ((0 : Int) ≤ x0)) && (decide (x0 < (4 : Int))))
          (rec x0 (List.set x1 (((Int.toNat x4) * 4) + (Int.toNat x0)) (List.getD x3 (Int.toNat x4) (0 : Int))) x2 x3 (IntKind.wrap .i64 (x4 + (1 : Int))))
          (none))
        (none))
      (none))
    (some (x1, (x2, ())))

def format_with_l0 (F : Nat) : Nat → Int → List Int → List Int → List Int → Int → Option (List Int × (List Int × Unit))
  | 0, _, _, _, _, _ => none
  | k + 1, x0, x1, x2, x3, x4 => format_with_l0S F (format_with_l0 F k) x0 x1 x2 x3 x4

/-- swatch/format.with -/
def format_with (F : Nat) (a0 : List Int) (a1 : Int) (a2 : List Int) (a3 : Int) : Option (List Int × Unit) :=
  (format_with_l0 F F a1 a0 format_DecodeT19 a2 (0 : Int)).bind fun r351 =>
  some (r351.1, ())

/-- swatch/format.decode$1 -/
def format_decode_c1 (F : Nat) (a0 : List Int) (a1 : Int) (a2 : Int) (a3 : Bool) : Option (List Int × (Int × Unit)) :=
  cond a3
    ((eac_Decode F a0 true).bind fun r598 =>
    some (r598.1, (r598.2.1, ())))
    ((bcfour_Decode F a0).bind fun r599 =>
    some (r599.1, (r599.2.1, ())))

/-- swatch/format.decode$2 -/
def format_decode_c2 (F : Nat) (a0 : List Int) (a1 : Int) (a2 : List Int) (a3 : Int) (a4 : Int) (a5 : Bool) : Option (List Int × Unit) :=
  (format_decode_c1 F a2 a3 a4 a5).bind fun r603 =>
  (format_with F a0 a1 r603.1 r603.2.1).bind fun r604 =>
  some (r604.1, ())

def format_blank_l0S (F : Nat) (rec : Bool → List Int → List Int → Int → Option (List Int × (List Int × Unit))) (x0 : Bool) (x1 : List Int) (x2 : List Int) (x3 : Int) : Option (List Int × (List Int × Unit)) :=
  cond (decide (x3 < (16 : Int)))
    (let b618 : Bool := ((decide ((0 : Int) ≤ x3)) && (decide (x3 < (16 : Int))))
    cond b618
      (let n620 : Nat := (3 + ((Int.toNat x3) * 4))
      let l621 : List Int := (List.set x2 n620 (255 : Int))
      cond x0
        (cond b618
          (rec x0 x1 (List.set l621 n620 (2047 : Int)) (IntKind.wrap .i64 (x3 + (1 : Int))))
          (none))
        (rec x0 x1 l621 (IntKind.wrap .i64 (x3 + (1 : Int)))))
      (none))
    (some (x1, (x2, ())))

def format_blank_l0 (F : Nat) : Nat → Bool → List Int → List Int → Int → Option (List Int × (List Int × Unit))
  | 0, _, _, _, _ => none
  | k + 1, x0, x1, x2, x3 => format_blank_l0S F (format_blank_l0 F k) x0 x1 x2 x3

/-- swatch/format.blank -/
def format_blank (F : Nat) (a0 : Bool) : Option (List Int × Unit) :=
  (format_blank_l0 F F a0 format_DecodeT19 format_DecodeT19 (0 : Int)).bind fun r625 =>
  some (r625.2.1, ())

/-- swatch/format.decode -/
def format_decode (F : Nat) (a0 : Int) (a1 : (Int × (Int × (Bool × Unit)))) (a2 : List Int) (a3 : List Int) (a4 : List Int) : Option (List Int × (Int × Unit)) :=
  cond (a0 == (2 : Int))
    ((bcfour_Fours F a2).bind fun r238 =>
    (bcone_Decode F a3 true).bind fun r329 =>
    (format_plain F r329.1 r329.2.1).bind fun r330 =>
    (format_with F r330.1 (3 : Int) r238.1 r238.2.1).bind fun r352 =>
    some (r352.1, (r238.2.1, ())))
    (cond (a0 == (3 : Int))
      ((bcone_Decode F a3 true).bind fun r354 =>
      (format_plain F r354.1 r354.2.1).bind fun r355 =>
      (format_decode_c2 F r355.1 (3 : Int) a2 a1.1 a1.2.1 a1.2.2.1).bind fun r605 =>
      some (r605.1, ((0 : Int), ())))
      (cond (a0 == (4 : Int))
        ((format_blank F a1.2.2.1).bind fun r626 =>
        (format_decode_c2 F r626.1 (0 : Int) a2 a1.1 a1.2.1 a1.2.2.1).bind fun r627 =>
        some (r627.1, ((0 : Int), ())))
        (cond (a0 == (11 : Int))
          ((format_blank F a1.2.2.1).bind fun r629 =>
          (format_decode_c2 F r629.1 (0 : Int) a2 a1.1 a1.2.1 a1.2.2.1).bind fun r630 =>
          some (r630.1, ((0 : Int), ())))
          (cond (a0 == (5 : Int))
            ((format_blank F a1.2.2.1).bind fun r632 =>
            (format_decode_c2 F r632.1 (0 : Int) a2 a1.1 a1.2.1 a1.2.2.1).bind fun r633 =>
            (format_decode_c2 F r633.1 (1 : Int) a3 a1.1 a1.2.1 a1.2.2.1).bind fun r634 =>
            some (r634.1, ((0 : Int), ())))
            (cond (a0 == (12 : Int))
              ((format_blank F a1.2.2.1).bind fun r636 =>
              (format_decode_c2 F r636.1 (0 : Int) a2 a1.1 a1.2.1 a1.2.2.1).bind fun r637 =>
              (format_decode_c2 F r637.1 (1 : Int) a3 a1.1 a1.2.1 a1.2.2.1).bind fun r638 =>
              some (r638.1, ((0 : Int), ())))
              (cond (a0 == (6 : Int))
                ((bcseven_Decode F a4).bind fun r2195 =>
                some (r2195.1, (r2195.2.1, ())))
                (cond (a0 == (7 : Int))
                  ((etcone_Decode F a4).bind fun r2588 =>
                  some (r2588.1, (r2588.2.1, ())))
                  (cond (a0 == (8 : Int))
                    ((etctwo_Decode F a4 (a0 == (9 : Int))).bind fun r3387 =>
                    some (r3387.1, (r3387.2.1, ())))
                    (let b3388 : Bool := (a0 == (9 : Int))
                    cond b3388
                      ((etctwo_Decode F a4 b3388).bind fun r3389 =>
                      some (r3389.1, (r3389.2.1, ())))
                      (cond (a0 == (10 : Int))
                        ((eac_Decode F a2 false).bind fun r3391 =>
                        (etctwo_Decode F a3 false).bind fun r3392 =>
                        (format_plain F r3392.1 r3392.2.1).bind fun r3393 =>
                        (format_with F r3393.1 (3 : Int) r3391.1 r3391.2.1).bind fun r3394 =>
                        some (r3394.1, (r3391.2.1, ())))
                        ((bcone_Decode F a4 false).bind fun r3395 =>
                        some (r3395.1, (r3395.2.1, ())))))))))))))

/-- swatch/format.Decode -/
def format_Decode (F : Nat) (a0 : Int) (a1 : List Int) : Option (List Int × (Int × Unit)) :=
  (format_Of F a0).bind fun r20 =>
  cond (r20.2.1 != (0 : Int))
    (some (format_DecodeT19, (r20.2.1, ())))
    (let v22 : Int := (((List.length a1) : Nat) : Int)
    cond (v22 != r20.1.1)
      (some (format_DecodeT19, ((1 : Int), ())))
      (cond (decide (8 ≤ (List.length a1)))
        (let v25 : Int := (IntKind.wrap .i64 (v22 - (8 : Int)))
        cond ((decide ((0 : Int) ≤ v25)) && ((decide ((Int.toNat v25) ≤ (List.length a1))) && true))
          ((format_decode F a0 (r20.1.1, (r20.1.2.1, (r20.1.2.2.1, ()))) (List.take 8 a1) (List.take (psub (List.length a1) (Int.toNat v25)) (List.drop (Int.toNat v25) a1)) a1).bind fun r3398 =>
          some (r3398.1, (r3398.2.1, ())))
          (none))
        (none)))

/-- swatch/image.Tiles -/
def image_Tiles (F : Nat) (a0 : Int) (a1 : Int) : Option (Int × (Int × Unit)) :=
  cond (decide (a0 < (1 : Int)))
    (some ((0 : Int), ((0 : Int), ())))
    (cond (decide (a1 < (1 : Int)))
      (some ((0 : Int), ((0 : Int), ())))
      (some ((IntKind.wrap .i64 ((IntKind.wrap .i64 (Int.tdiv (IntKind.wrap .i64 (a0 - (1 : Int))) (4 : Int))) + (1 : Int))), ((IntKind.wrap .i64 ((IntKind.wrap .i64 (Int.tdiv (IntKind.wrap .i64 (a1 - (1 : Int))) (4 : Int))) + (1 : Int))), ()))))

/-- swatch/field.Times -/
def field_Times (F : Nat) (a0 : Int) (a1 : Int) : Option (Int × (Int × Unit)) :=
  cond (decide (a0 < (0 : Int)))
    (some ((0 : Int), ((1 : Int), ())))
    (cond (decide (a1 < (0 : Int)))
      (some ((0 : Int), ((1 : Int), ())))
      (cond (decide ((0 : Int) < a1))
        (cond (!(a1 == (0 : Int)))
          (let v3417 : Int := (IntKind.wrap .i64 (Int.tdiv (2147483647 : Int) a1))
          cond (decide (v3417 < a0))
            (some ((0 : Int), ((10 : Int), ())))
            (some ((IntKind.wrap .i64 (a0 * a1)), ((0 : Int), ()))))
          (none))
        (some ((IntKind.wrap .i64 (a0 * a1)), ((0 : Int), ())))))

/-- swatch/format.Bytes -/
def format_Bytes (F : Nat) (a0 : Int) (a1 : Int) (a2 : Int) : Option (Int × (Int × Unit)) :=
  (format_Of F a0).bind fun r3400 =>
  cond (r3400.2.1 != (0 : Int))
    (some ((0 : Int), (r3400.2.1, ())))
    (cond (decide (a1 < (1 : Int)))
      (some ((0 : Int), ((1 : Int), ())))
      (cond (decide (a2 < (1 : Int)))
        (some ((0 : Int), ((1 : Int), ())))
        ((image_Tiles F a1 a2).bind fun r3412 =>
        (field_Times F r3412.1 r3412.2.1).bind fun r3421 =>
        cond (r3421.2.1 != (0 : Int))
          (some ((0 : Int), (r3421.2.1, ())))
          ((field_Times F r3421.1 r3400.1.1).bind fun r3423 =>
          some (r3423.1, (r3423.2.1, ()))))))

/-- swatch/format.Code -/
def format_Code (F : Nat) (a0 : Int) (a1 : Int) : Option (Int × (Int × Unit)) := codeF a0 a1

/-- swatch/format.Letters -/
def format_Letters (F : Nat) (a0 : List Int) : Option (Int × (Int × Unit)) := lettersF a0

def format_Scale_l2S (F : Nat) (rec : List Int → List Int → Int → Int → List Int → Int → Option (List Int × (List Int × (Int × Unit)))) (x0 : List Int) (x1 : List Int) (x2 : Int) (x3 : Int) (x4 : List Int) (x5 : Int) : Option (List Int × (List Int × (Int × Unit))) :=
  cond (decide (x5 < (4 : Int)))
    (let b3503 : Bool := ((decide ((0 : Int) ≤ x5)) && (decide (x5 < (4 : Int))))
    cond b3503
      (let v3504 : Int := (List.getD x4 (Int.toNat x5) (0 : Int))
      cond ((decide ((0 : Int) ≤ x2)) && (decide (x2 < (16 : Int))))
        (cond b3503
          (rec (List.set x0 (((Int.toNat x2) * 4) + (Int.toNat x5)) (IntKind.wrap .i64 ((IntKind.wrap .i64 ((8 : Int) * v3504)) + (IntKind.wrap .i64 (Int.tdiv v3504 (32 : Int)))))) x1 x2 x3 x4 (IntKind.wrap .i64 (x5 + (1 : Int))))
          (none))
        (none))
      (none))
    (some (x0, (x1, (x3, ()))))

def format_Scale_l2 (F : Nat) : Nat → List Int → List Int → Int → Int → List Int → Int → Option (List Int × (List Int × (Int × Unit)))
  | 0, _, _, _, _, _, _ => none
  | k + 1, x0, x1, x2, x3, x4, x5 => format_Scale_l2S F (format_Scale_l2 F k) x0 x1 x2 x3 x4 x5

def format_Scale_l0S (F : Nat) (rec : List Int → List Int → Int → Option (List Int × (List Int × Unit))) (x0 : List Int) (x1 : List Int) (x2 : Int) : Option (List Int × (List Int × Unit)) :=
  cond (decide (x2 < (16 : Int)))
    (cond ((decide ((0 : Int) ≤ x2)) && (decide (x2 < (16 : Int))))
      ((format_Scale_l2 F F x0 x1 x2 x2 (List.take 4 (List.drop ((Int.toNat x2) * 4) x0)) (0 : Int)).bind fun r3513 =>
      rec r3513.1 r3513.2.1 (IntKind.wrap .i64 (r3513.2.2.1 + (1 : Int))))
      (none))
    (some (x0, (x1, ())))

def format_Scale_l0 (F : Nat) : Nat → List Int → List Int → Int → Option (List Int × (List Int × Unit))
  | 0, _, _, _ => none
  | k + 1, x0, x1, x2 => format_Scale_l0S F (format_Scale_l0 F k) x0 x1 x2

/-- swatch/format.Scale -/
def format_Scale (F : Nat) (a0 : Int) (a1 : List Int) : Option (List Int × Unit) :=
  (format_Of F a0).bind fun r3432 =>
  cond (!r3432.1.2.2.1)
    (some (a1, ()))
    ((format_Scale_l0 F F a1 format_DecodeT19 (0 : Int)).bind fun r3515 =>
    some (r3515.1, ()))

def level_Error_l2S (F : Nat) (rec : Int → List Int → List Int → Int → Int → Int → Int → Option (Int × (List Int × (List Int × (Int × (Int × Unit)))))) (x0 : Int) (x1 : List Int) (x2 : List Int) (x3 : Int) (x4 : Int) (x5 : Int) (x6 : Int) : Option (Int × (List Int × (List Int × (Int × (Int × Unit))))) :=
  cond (decide (x6 < (4 : Int)))
    (cond (decide ((0 : Int) ≤ x6))
      (cond ((iand .i64 (ishr .i64 x0 x6) (1 : Int)) == (1 : Int))
        (let b3612 : Bool := ((decide ((0 : Int) ≤ x4)) && (decide (x4 < (16 : Int))))
        cond b3612
          (let b3614 : Bool := ((decide ((0 : Int) ≤ x6)) && (decide (x6 < (4 : Int))))
          cond b3614
            (let n3615 : Nat := (((Int.toNat x4) * 4) + (Int.toNat x6))
            cond b3612
              (cond b3614
                ((level_square F (IntKind.wrap .i64 ((List.getD x1 n3615 (0 : Int)) - (List.getD x2 n3615 (0 : Int))))).bind fun r3619 =>
                rec x0 x1 x2 (IntKind.wrap .i64 (x3 + r3619.1)) x4 x5 (IntKind.wrap .i64 (x6 + (1 : Int))))
                (none))
              (none))
            (none))
          (none))
        (rec x0 x1 x2 x3 x4 x5 (IntKind.wrap .i64 (x6 + (1 : Int)))))
      (none))
    (some (x0, (x1, (x2, (x3, (x5, ()))))))

def level_Error_l2 (F : Nat) : Nat → Int → List Int → List Int → Int → Int → Int → Int → Option (Int × (List Int × (List Int × (Int × (Int × Unit)))))
  | 0, _, _, _, _, _, _, _ => none
  | k + 1, x0, x1, x2, x3, x4, x5, x6 => level_Error_l2S F (level_Error_l2 F k) x0 x1 x2 x3 x4 x5 x6

def level_Error_l0S (F : Nat) (rec : Int → List Int → List Int → Int → Int → Option (Int × Unit)) (x0 : Int) (x1 : List Int) (x2 : List Int) (x3 : Int) (x4 : Int) : Option (Int × Unit) :=
  cond (decide (x4 < (16 : Int)))
    ((level_Error_l2 F F x0 x1 x2 x3 x4 x4 (0 : Int)).bind fun r3623 =>
    rec r3623.1 r3623.2.1 r3623.2.2.1 r3623.2.2.2.1 (IntKind.wrap .i64 (r3623.2.2.2.2.1 + (1 : Int))))
    (some (x3, ()))

def level_Error_l0 (F : Nat) : Nat → Int → List Int → List Int → Int → Int → Option (Int × Unit)
  | 0, _, _, _, _, _ => none
  | k + 1, x0, x1, x2, x3, x4 => level_Error_l0S F (level_Error_l0 F k) x0 x1 x2 x3 x4

/-- swatch/level.Error -/
def level_Error (F : Nat) (a0 : List Int) (a1 : List Int) (a2 : Int) : Option (Int × Unit) :=
  (level_Error_l0 F F a2 a0 a1 (0 : Int) (0 : Int)).bind fun r3625 =>
  some (r3625.1, ())

/-- swatch/format.Error -/
def format_Error (F : Nat) (a0 : Int) (a1 : List Int) (a2 : List Int) : Option (Int × (Int × Unit)) :=
  (format_Decode F a0 a1).bind fun r3429 =>
  cond (r3429.2.1 != (0 : Int))
    (some ((0 : Int), (r3429.2.1, ())))
    ((format_Of F a0).bind fun r3431 =>
    (format_Scale F a0 a2).bind fun r3516 =>
    (level_Error F r3516.1 r3429.1 r3431.1.2.1).bind fun r3626 =>
    some (r3626.1, ((0 : Int), ())))

/-- swatch/swatchlaw13.awake -/
def law13_awake (F : Nat) : Option (Bool × Unit) :=
  (format_Of F (3 : Int)).bind fun r16 =>
  (format_Decode F (3 : Int) law13_awakeT17).bind fun r3399 =>
  (format_Bytes F (1 : Int) (5 : Int) (4 : Int)).bind fun r3424 =>
  (format_Code F (7 : Int) (2 : Int)).bind fun r3425 =>
  (format_Code F (7 : Int) (1 : Int)).bind fun r3426 =>
  (format_Letters F [(65 : Int), (84 : Int), (73 : Int), (50 : Int)]).bind fun r3427 =>
  (format_Error F (3 : Int) format_decodeT239 r3399.1).bind fun r3627 =>
  cond (r16.2.1 == (0 : Int))
    (cond ((r16.1.1 == (16 : Int)) && ((r16.1.2.1 == (15 : Int)) && (r16.1.2.2.1 == false)))
      (cond (r3399.2.1 == (0 : Int))
        (cond ((List.take 4 (List.drop 20 r3399.1)) == [(255 : Int), (255 : Int), (255 : Int), (9 : Int)])
          (cond (r3424.1 == (16 : Int))
            (cond (r3424.2.1 == (0 : Int))
              (cond (r3425.1 == (36196 : Int))
                (cond (r3425.2.1 == (0 : Int))
                  (cond (r3426.2.1 == (9 : Int))
                    (cond (r3427.1 == (5 : Int))
                      (cond (r3427.2.1 == (0 : Int))
                        (cond (r3627.1 == (3122496 : Int))
                          (cond (r3627.2.1 == (0 : Int))
                            ((format_Scale F (11 : Int) r3399.1).bind fun r3642 =>
                            some (((List.getD (List.take 4 r3642.1) 3 (0 : Int)) == (72 : Int)), ()))
                            (some (false, ())))
                          (some (false, ())))
                        (some (false, ())))
                      (some (false, ())))
                    (some (false, ())))
                  (some (false, ())))
                (some (false, ())))
              (some (false, ())))
            (some (false, ())))
          (some (false, ())))
        (some (false, ())))
      (some (false, ())))
    (some (false, ()))

def ref13_Bytewise_l2S (F : Nat) (rec : List Int → Int → Int → Option (Unit ⊕ (List Int × (Int × Unit)))) (x0 : List Int) (x1 : Int) (x2 : Int) : Option (Unit ⊕ (List Int × (Int × Unit))) :=
  cond (decide (x2 < (4 : Int)))
    (let b3697 : Bool := ((decide ((0 : Int) ≤ x1)) && (decide (x1 < (16 : Int))))
    cond b3697
      (let b3699 : Bool := ((decide ((0 : Int) ≤ x2)) && (decide (x2 < (4 : Int))))
      cond b3699
        (let v3701 : Int := (List.getD x0 (((Int.toNat x1) * 4) + (Int.toNat x2)) (0 : Int))
        cond (decide (v3701 < (0 : Int)))
          (some (.inl ()))
          (cond b3697
            (cond b3699
              (cond (decide ((255 : Int) < v3701))
                (some (.inl ()))
                (rec x0 x1 (IntKind.wrap .i64 (x2 + (1 : Int)))))
              (none))
            (none)))
        (none))
      (none))
    (some (.inr (x0, (x1, ()))))

def ref13_Bytewise_l2 (F : Nat) : Nat → List Int → Int → Int → Option (Unit ⊕ (List Int × (Int × Unit)))
  | 0, _, _, _ => none
  | k + 1, x0, x1, x2 => ref13_Bytewise_l2S F (ref13_Bytewise_l2 F k) x0 x1 x2

def ref13_Bytewise_l0S (F : Nat) (rec : List Int → Int → Option (Unit ⊕ Unit)) (x0 : List Int) (x1 : Int) : Option (Unit ⊕ Unit) :=
  cond (decide (x1 < (16 : Int)))
    ((ref13_Bytewise_l2 F F x0 x1 (0 : Int)).bind fun r3705 => match r3705 with
      | .inl r3705 => (some (.inl ()))
      | .inr r3705 => (rec r3705.1 (IntKind.wrap .i64 (r3705.2.1 + (1 : Int)))))
    (some (.inr ()))

def ref13_Bytewise_l0 (F : Nat) : Nat → List Int → Int → Option (Unit ⊕ Unit)
  | 0, _, _ => none
  | k + 1, x0, x1 => ref13_Bytewise_l0S F (ref13_Bytewise_l0 F k) x0 x1

/-- swatch/swatchref13.Bytewise -/
def ref13_Bytewise (F : Nat) (a0 : List Int) : Option (Bool × Unit) :=
  (ref13_Bytewise_l0 F F a0 (0 : Int)).bind fun r3707 => match r3707 with
    | .inl r3707 => (some (false, ()))
    | .inr r3707 => (some (true, ()))

def law13_FormatKeeps_l2S (F : Nat) (rec : Bool → Int → Int → Bool → List Int → Int → List Int → Int → Int → Int → Bool → Int → Int → Int → Option (Unit ⊕ (Bool × (Int × (Int × (Bool × (List Int × (Int × (List Int × (Int × (Int × (Int × (Bool × (Int × (Int × Unit))))))))))))))) (x0 : Bool) (x1 : Int) (x2 : Int) (x3 : Bool) (x4 : List Int) (x5 : Int) (x6 : List Int) (x7 : Int) (x8 : Int) (x9 : Int) (x10 : Bool) (x11 : Int) (x12 : Int) (x13 : Int) : Option (Unit ⊕ (Bool × (Int × (Int × (Bool × (List Int × (Int × (List Int × (Int × (Int × (Int × (Bool × (Int × (Int × Unit)))))))))))))) :=
  cond (decide (x13 < (16 : Int)))
    (let b3953 : Bool := ((decide ((0 : Int) ≤ x13)) && (decide (x13 < (16 : Int))))
    cond b3953
      (let b3955 : Bool := ((decide ((0 : Int) ≤ x12)) && (decide (x12 < (4 : Int))))
      cond b3955
        (let n3956 : Nat := (((Int.toNat x13) * 4) + (Int.toNat x12))
        let v3957 : Int := (List.getD x4 n3956 (0 : Int))
        cond (decide (v3957 < (0 : Int)))
          (some (.inl ()))
          (cond b3953
            (cond b3955
              (cond (decide (x9 < v3957))
                (some (.inl ()))
                (cond b3953
                  (cond b3955
                    (let v3960 : Int := (List.getD x6 n3956 (0 : Int))
                    cond (decide (v3960 < (0 : Int)))
                      (some (.inl ()))
                      (cond b3953
                        (cond b3955
                          (cond (decide (x9 < v3960))
                            (some (.inl ()))
                            (cond (!(x11 == (0 : Int)))
                              (cond ((Int.tmod (IntKind.wrap .i64 (Int.tdiv x2 x11)) (2 : Int)) == (1 : Int))
                                (cond x10
                                  (cond b3953
                                    (cond b3955
                                      (cond b3953
                                        (cond b3955
                                          (rec x0 x1 x2 x3 x4 x5 x6 x7 x8 x9 (v3957 == v3960) x11 x12 (IntKind.wrap .i64 (x13 + (1 : Int))))
                                          (none))
                                        (none))
                                      (none))
                                    (none))
                                  (rec x0 x1 x2 x3 x4 x5 x6 x7 x8 x9 false x11 x12 (IntKind.wrap .i64 (x13 + (1 : Int)))))
                                (rec x0 x1 x2 x3 x4 x5 x6 x7 x8 x9 x10 x11 x12 (IntKind.wrap .i64 (x13 + (1 : Int)))))
                              (none)))
                          (none))
                        (none)))
                    (none))
                  (none)))
              (none))
            (none)))
        (none))
      (none))
    (some (.inr (x0, (x1, (x2, (x3, (x4, (x5, (x6, (x7, (x8, (x9, (x10, (x11, (x12, ())))))))))))))))

def law13_FormatKeeps_l2 (F : Nat) : Nat → Bool → Int → Int → Bool → List Int → Int → List Int → Int → Int → Int → Bool → Int → Int → Int → Option (Unit ⊕ (Bool × (Int × (Int × (Bool × (List Int × (Int × (List Int × (Int × (Int × (Int × (Bool × (Int × (Int × Unit))))))))))))))
  | 0, _, _, _, _, _, _, _, _, _, _, _, _, _, _ => none
  | k + 1, x0, x1, x2, x3, x4, x5, x6, x7, x8, x9, x10, x11, x12, x13 => law13_FormatKeeps_l2S F (law13_FormatKeeps_l2 F k) x0 x1 x2 x3 x4 x5 x6 x7 x8 x9 x10 x11 x12 x13

def law13_FormatKeeps_l0S (F : Nat) (rec : Bool → Int → Int → Bool → List Int → Int → List Int → Int → Int → Int → Bool → Int → Int → Option (Unit ⊕ (Bool × (Int × (Int × (Int × (Bool × Unit))))))) (x0 : Bool) (x1 : Int) (x2 : Int) (x3 : Bool) (x4 : List Int) (x5 : Int) (x6 : List Int) (x7 : Int) (x8 : Int) (x9 : Int) (x10 : Bool) (x11 : Int) (x12 : Int) : Option (Unit ⊕ (Bool × (Int × (Int × (Int × (Bool × Unit)))))) :=
  cond (decide (x12 < (4 : Int)))
    ((law13_FormatKeeps_l2 F F x0 x1 x2 x3 x4 x5 x6 x7 x8 x9 x10 x11 x12 (0 : Int)).bind fun r3971 => match r3971 with
      | .inl r3971 => (some (.inl ()))
      | .inr r3971 => (rec r3971.1 r3971.2.1 r3971.2.2.1 r3971.2.2.2.1 r3971.2.2.2.2.1 r3971.2.2.2.2.2.1 r3971.2.2.2.2.2.2.1 r3971.2.2.2.2.2.2.2.1 r3971.2.2.2.2.2.2.2.2.1 r3971.2.2.2.2.2.2.2.2.2.1 r3971.2.2.2.2.2.2.2.2.2.2.1 (IntKind.wrap .i64 ((2 : Int) * r3971.2.2.2.2.2.2.2.2.2.2.2.1)) (IntKind.wrap .i64 (r3971.2.2.2.2.2.2.2.2.2.2.2.2.1 + (1 : Int)))))
    (some (.inr (x0, (x5, (x7, (x8, (x10, ())))))))

def law13_FormatKeeps_l0 (F : Nat) : Nat → Bool → Int → Int → Bool → List Int → Int → List Int → Int → Int → Int → Bool → Int → Int → Option (Unit ⊕ (Bool × (Int × (Int × (Int × (Bool × Unit))))))
  | 0, _, _, _, _, _, _, _, _, _, _, _, _, _ => none
  | k + 1, x0, x1, x2, x3, x4, x5, x6, x7, x8, x9, x10, x11, x12 => law13_FormatKeeps_l0S F (law13_FormatKeeps_l0 F k) x0 x1 x2 x3 x4 x5 x6 x7 x8 x9 x10 x11 x12

/-- swatch/swatchlaw13.FormatKeeps -/
def law13_FormatKeeps (F : Nat) (a0 : Int) (a1 : List Int) (a2 : List Int) : Option (Bool × Unit) :=
  (law13_awake F).bind fun r3880 =>
  (ref13_Bytewise F a2).bind fun r3881 =>
  (format_Of F a0).bind fun r3882 =>
  cond (!r3881.1)
    (some (r3880.1, ()))
    (cond (r3882.2.1 != (0 : Int))
      (some (r3880.1, ()))
      (cond ((((List.length a1) : Nat) : Int) != r3882.1.1)
        (some (r3880.1, ()))
        ((format_Decode F a0 a1).bind fun r3887 =>
        (format_Scale F a0 a2).bind fun r3888 =>
        (format_Error F a0 a1 a2).bind fun r3889 =>
        cond r3882.1.2.2.1
          ((law13_FormatKeeps_l0 F F r3880.1 r3882.1.1 r3882.1.2.1 r3882.1.2.2.1 r3887.1 r3887.2.1 r3888.1 r3889.1 r3889.2.1 (2047 : Int) true (1 : Int) (0 : Int)).bind fun r3974 => match r3974 with
            | .inl r3974 => (some (false, ()))
            | .inr r3974 => (cond r3974.1
                (cond (r3974.2.1 == (0 : Int))
                  (cond (r3974.2.2.2.1 == (0 : Int))
                    (cond (decide ((0 : Int) ≤ r3974.2.2.1))
                      (some (((r3974.2.2.1 == (0 : Int)) == r3974.2.2.2.2.1), ()))
                      (some (false, ())))
                    (some (false, ())))
                  (some (false, ())))
                (some (false, ()))))
          ((law13_FormatKeeps_l0 F F r3880.1 r3882.1.1 r3882.1.2.1 r3882.1.2.2.1 r3887.1 r3887.2.1 r3888.1 r3889.1 r3889.2.1 (255 : Int) true (1 : Int) (0 : Int)).bind fun r4003 => match r4003 with
            | .inl r4003 => (some (false, ()))
            | .inr r4003 => (cond r4003.1
                (cond (r4003.2.1 == (0 : Int))
                  (cond (r4003.2.2.2.1 == (0 : Int))
                    (cond (decide ((0 : Int) ≤ r4003.2.2.1))
                      (some (((r4003.2.2.1 == (0 : Int)) == r4003.2.2.2.2.1), ()))
                      (some (false, ())))
                    (some (false, ())))
                  (some (false, ())))
                (some (false, ())))))))

/-- swatch/format.Format -/
def format_Format (F : Nat) (a0 : Int) (a1 : Int) : Option (Int × (Int × Unit)) := formatF a0 a1

/-- swatch/swatchlaw13.FormatBack -/
def law13_FormatBack (F : Nat) (a0 : Int) (a1 : Int) : Option (Bool × Unit) :=
  (law13_awake F).bind fun r4009 =>
  (format_Code F a0 a1).bind fun r4010 =>
  cond (r4010.2.1 != (0 : Int))
    (cond r4009.1
      (cond (r4010.2.1 == (5 : Int))
        (some (true, ()))
        (cond (r4010.2.1 == (1 : Int))
          (some (true, ()))
          (some ((r4010.2.1 == (9 : Int)), ()))))
      (some (false, ())))
    ((format_Format F r4010.1 a1).bind fun r4015 =>
    cond r4009.1
      (cond (r4015.2.1 == (0 : Int))
        (cond (r4015.1 == a0)
          (some ((decide ((0 : Int) < r4010.1)), ()))
          (some (false, ())))
        (some (false, ())))
      (some (false, ())))

end Go.AE.Gn

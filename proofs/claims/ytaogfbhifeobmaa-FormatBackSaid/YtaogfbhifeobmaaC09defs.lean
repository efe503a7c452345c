/- Printed by a program of mine (gen.py): what the Go functions of this part come to. -/
import Derived.Test.YtaogfbhifeobmaaA02defs
import Derived.Test.YtaogfbhifeobmaaA07defs
import Derived.Test.YtaogfbhifeobmaaA08defs
set_option linter.unusedSimpArgs false
set_option linter.unusedVariables false
namespace Go.AE.Gn
open Go Go.AE

def law09_awakeT2 : List Int := [127, 0, 64, 127, 0, 0, 64, 127]
def law09_awakeT3 : List Int := [0, 15, 8, 0, 0, 0, 0, 0, 0, 0, 0, 0, 0, 0, 0, 0]
def bcseven_SixT4 : List Int := [0, 0, 0, 0, 0, 0, 0, 0, 0, 0, 0, 0, 0, 0, 0, 0]
/-- swatch/bcseven.Six$1 -/
def bcseven_Six_c1 (F : Nat) (a0 : Int) (a1 : Int) (a2 : List Int) (a3 : Int) (a4 : Bool) : Option (List Int × (Int × (Bool × Unit))) :=
  (bits_SetLow F a2 a3 a1 (IntKind.wrap .u64 a0)).bind fun r148 =>
  cond a4
    (let b150 : Bool := (r148.2.1 == (0 : Int))
    cond b150
      (some (r148.1, ((IntKind.wrap .i64 (a3 + a1)), (b150, ()))))
      (some (a2, (a3, (b150, ())))))
    (some (a2, (a3, (false, ()))))

def bcseven_Six_l0S (F : Nat) (rec : List Int → List Int → List Int → List Int → Bool → Int → Int → Option (List Int × (List Int × (List Int × (Bool × (Int × Unit)))))) (x0 : List Int) (x1 : List Int) (x2 : List Int) (x3 : List Int) (x4 : Bool) (x5 : Int) (x6 : Int) : Option (List Int × (List Int × (List Int × (Bool × (Int × Unit))))) :=
  cond (decide (x6 < (4 : Int)))
    (let b236 : Bool := ((decide ((0 : Int) ≤ x6)) && (decide (x6 < (4 : Int))))
    cond b236
      ((bcseven_Six_c1 F (List.getD x0 (Int.toNat x6) (0 : Int)) (7 : Int) x3 x5 x4).bind fun r239 =>
      cond b236
        ((bcseven_Six_c1 F (List.getD x0 (4 + (Int.toNat x6)) (0 : Int)) (7 : Int) r239.1 r239.2.1 r239.2.2.1).bind fun r242 =>
        rec x0 x1 x2 r242.1 r242.2.2.1 r242.2.1 (IntKind.wrap .i64 (x6 + (1 : Int))))
        (none))
      (none))
    (some (x1, (x2, (x3, (x4, (x5, ()))))))

def bcseven_Six_l0 (F : Nat) : Nat → List Int → List Int → List Int → List Int → Bool → Int → Int → Option (List Int × (List Int × (List Int × (Bool × (Int × Unit)))))
  | 0, _, _, _, _, _, _, _ => none
  | k + 1, x0, x1, x2, x3, x4, x5, x6 => bcseven_Six_l0S F (bcseven_Six_l0 F k) x0 x1 x2 x3 x4 x5 x6

def bcseven_Six_l2S (F : Nat) (rec : List Int → Bool → Int → List Int → Int → Option (List Int × (Bool × Unit))) (x0 : List Int) (x1 : Bool) (x2 : Int) (x3 : List Int) (x4 : Int) : Option (List Int × (Bool × Unit)) :=
  cond (decide (x4 < (16 : Int)))
    (cond ((decide ((0 : Int) ≤ x4)) && (decide (x4 < (16 : Int))))
      (let v271 : Int := (IntKind.wrap .i64 (x4 + (1 : Int)))
      cond (!(v271 == (0 : Int)))
        ((bcseven_Six_c1 F (List.getD x3 (Int.toNat x4) (0 : Int)) (IntKind.wrap .i64 ((4 : Int) - (IntKind.wrap .i64 (Int.tdiv (1 : Int) v271)))) x0 x2 x1).bind fun r275 =>
        rec r275.1 r275.2.2.1 r275.2.1 x3 v271)
        (none))
      (none))
    (some (x0, (x1, ())))

def bcseven_Six_l2 (F : Nat) : Nat → List Int → Bool → Int → List Int → Int → Option (List Int × (Bool × Unit))
  | 0, _, _, _, _, _ => none
  | k + 1, x0, x1, x2, x3, x4 => bcseven_Six_l2S F (bcseven_Six_l2 F k) x0 x1 x2 x3 x4

/-- swatch/bcseven.Six -/
def bcseven_Six (F : Nat) (a0 : List Int) (a1 : List Int) (a2 : List Int) : Option (List Int × (Int × Unit)) :=
  (bits_SetLow F bcseven_SixT4 (6 : Int) (1 : Int) (1 : Int)).bind fun r214 =>
  (bcseven_Six_l0 F F a0 a1 a2 r214.1 true (7 : Int) (0 : Int)).bind fun r245 =>
  (bcseven_Six_c1 F (List.getD r245.1 0 (0 : Int)) (1 : Int) r245.2.2.1 r245.2.2.2.2.1 r245.2.2.2.1).bind fun r248 =>
  (bcseven_Six_c1 F (List.getD r245.1 1 (0 : Int)) (1 : Int) r248.1 r248.2.1 r248.2.2.1).bind fun r251 =>
  (bcseven_Six_l2 F F r251.1 r251.2.2.1 r251.2.1 r245.2.1 (0 : Int)).bind fun r277 =>
  cond (!r277.2.1)
    (some ([], ((1 : Int), ())))
    (some (r277.1, ((0 : Int), ())))

def bcseven_DecodeT283 : List Int := [0, 0, 0, 0, 0, 0, 0, 0, 0, 0, 0, 0, 0, 0, 0, 0, 0, 0, 0, 0, 0, 0, 0, 0, 0, 0, 0, 0, 0, 0, 0, 0, 0, 0, 0, 0, 0, 0, 0, 0, 0, 0, 0, 0, 0, 0, 0, 0, 0, 0, 0, 0, 0, 0, 0, 0, 0, 0, 0, 0, 0, 0, 0, 0]
def math_bits_TrailingZeros8T292 : List Int := [8, 0, 1, 0, 2, 0, 1, 0, 3, 0, 1, 0, 2, 0, 1, 0, 4, 0, 1, 0, 2, 0, 1, 0, 3, 0, 1, 0, 2, 0, 1, 0, 5, 0, 1, 0, 2, 0, 1, 0, 3, 0, 1, 0, 2, 0, 1, 0, 4, 0, 1, 0, 2, 0, 1, 0, 3, 0, 1, 0, 2, 0, 1, 0, 6, 0, 1, 0, 2, 0, 1, 0, 3, 0, 1, 0, 2, 0, 1, 0, 4, 0, 1, 0, 2, 0, 1, 0, 3, 0, 1, 0, 2, 0, 1, 0, 5, 0, 1, 0, 2, 0, 1, 0, 3, 0, 1, 0, 2, 0, 1, 0, 4, 0, 1, 0, 2, 0, 1, 0, 3, 0, 1, 0, 2, 0, 1, 0, 7, 0, 1, 0, 2, 0, 1, 0, 3, 0, 1, 0, 2, 0, 1, 0, 4, 0, 1, 0, 2, 0, 1, 0, 3, 0, 1, 0, 2, 0, 1, 0, 5, 0, 1, 0, 2, 0, 1, 0, 3, 0, 1, 0, 2, 0, 1, 0, 4, 0, 1, 0, 2, 0, 1, 0, 3, 0, 1, 0, 2, 0, 1, 0, 6, 0, 1, 0, 2, 0, 1, 0, 3, 0, 1, 0, 2, 0, 1, 0, 4, 0, 1, 0, 2, 0, 1, 0, 3, 0, 1, 0, 2, 0, 1, 0, 5, 0, 1, 0, 2, 0, 1, 0, 3, 0, 1, 0, 2, 0, 1, 0, 4, 0, 1, 0, 2, 0, 1, 0, 3, 0, 1, 0, 2, 0, 1, 0]
/-- math/bits.TrailingZeros8 -/
def math_bits_TrailingZeros8 (F : Nat) (a0 : Int) : Option (Int × Unit) :=
  cond ((decide ((0 : Int) ≤ a0)) && (decide (a0 < (256 : Int))))
    (some ((List.getD math_bits_TrailingZeros8T292 (Int.toNat a0) (0 : Int)), ()))
    (none)

/-- swatch/bcseven.Mode -/
def bcseven_Mode (F : Nat) (a0 : List Int) : Option (Int × Unit) :=
  cond ((((List.length a0) : Nat) : Int) != (16 : Int))
    (some ((8 : Int), ()))
    (cond (decide ((0 : Int) < (((List.length a0) : Nat) : Int)))
      ((math_bits_TrailingZeros8 F (List.getD a0 0 (0 : Int))).bind fun r294 =>
      some (r294.1, ()))
      (none))

def bctable_ModesT298 : List Int := [3, 4, 0, 0, 4, 0, 1, 0, 3, 0, 2, 6, 0, 0, 6, 0, 0, 1, 3, 0, 3, 6, 0, 0, 5, 0, 0, 0, 2, 0, 2, 6, 0, 0, 7, 0, 1, 0, 2, 0, 1, 0, 2, 1, 5, 6, 0, 0, 2, 3, 1, 0, 2, 0, 7, 8, 0, 0, 2, 2, 1, 0, 0, 0, 7, 7, 1, 0, 4, 0, 2, 6, 0, 0, 5, 5, 1, 0, 2, 0]
/-- swatch/bctable.Modes -/
def bctable_Modes (F : Nat) : Option (List Int × Unit) :=
  some (bctable_ModesT298, ())

/-- swatch/bcseven.read$1 -/
def bcseven_read_c1 (F : Nat) (a0 : Int) (a1 : List Int) (a2 : Int) : Option (Int × (Int × Unit)) :=
  (bits_Low F a1 a2 a0).bind fun r381 =>
  some ((IntKind.wrap .i64 r381.1), ((IntKind.wrap .i64 (a2 + a0)), ()))

/-- swatch/bcseven.dealt -/
def bcseven_dealt (F : Nat) (a0 : (Int × (Int × (Int × (Int × (Int × (Int × (Int × (Int × (Int × (Int × Unit))))))))))) (a1 : Int) : Option (Int × Unit) :=
  cond (a1 == (3 : Int))
    (some (a0.2.2.2.2.2.1, ()))
    (some (a0.2.2.2.2.1, ()))

def bcseven_fields_widen_read_c1_l2S (F : Nat) (rec : List Int → Int → Int → Int → Int → Int → Int → Int → Int → Int → Int → Int → Int → Int → List Int → List Int → List Int → Int → Int → Int → Int → Int → Int → List Int → Int → Option (List Int × (Int × (Int × (Int × (Int × (Int × (Int × (Int × (Int × (Int × (Int × (Int × (Int × (Int × (List Int × (List Int × (List Int × (Int × (Int × (Int × (Int × (Int × (Int × Unit)))))))))))))))))))))))) (x0 : List Int) (x1 : Int) (x2 : Int) (x3 : Int) (x4 : Int) (x5 : Int) (x6 : Int) (x7 : Int) (x8 : Int) (x9 : Int) (x10 : Int) (x11 : Int) (x12 : Int) (x13 : Int) (x14 : List Int) (x15 : List Int) (x16 : List Int) (x17 : Int) (x18 : Int) (x19 : Int) (x20 : Int) (x21 : Int) (x22 : Int) (x23 : List Int) (x24 : Int) : Option (List Int × (Int × (Int × (Int × (Int × (Int × (Int × (Int × (Int × (Int × (Int × (Int × (Int × (Int × (List Int × (List Int × (List Int × (Int × (Int × (Int × (Int × (Int × (Int × Unit))))))))))))))))))))))) :=
  let n1205 : Nat := ((List.length x0) / 4)
  cond (decide (x24 < (4 : Int)))
    (let b1208 : Bool := ((decide ((0 : Int) ≤ x24)) && (decide (x24 < (4 : Int))))
    cond b1208
      (cond (decide ((0 : Int) ≤ x18))
        ((bcseven_dealt F (x1, (x2, (x3, (x4, (x5, (x6, (x7, (x8, (x9, (x10, ())))))))))) x24).bind fun r1213 =>
        (level_Wide F (ior .i64 (ishl .i64 (List.getD x23 (Int.toNat x24) (0 : Int)) x18) x19) (IntKind.wrap .i64 (r1213.1 + x18))).bind fun r1215 =>
        cond ((decide ((0 : Int) ≤ x20)) && (decide (x20 < ((n1205 : Nat) : Int))))
          (cond b1208
            (rec (List.set x0 (((Int.toNat x20) * 4) + (Int.toNat x24)) r1215.1) x1 x2 x3 x4 x5 x6 x7 x8 x9 x10 x11 x12 x13 x14 x15 x16 x17 x18 x19 x20 x21 x22 x23 (IntKind.wrap .i64 (x24 + (1 : Int))))
            (none))
          (none))
        (none))
      (none))
    (some (x0, (x1, (x2, (x3, (x4, (x5, (x6, (x7, (x8, (x9, (x10, (x11, (x12, (x13, (x14, (x15, (x16, (x17, (x18, (x19, (x20, (x21, (x22, ()))))))))))))))))))))))))

def bcseven_fields_widen_read_c1_l2 (F : Nat) : Nat → List Int → Int → Int → Int → Int → Int → Int → Int → Int → Int → Int → Int → Int → Int → List Int → List Int → List Int → Int → Int → Int → Int → Int → Int → List Int → Int → Option (List Int × (Int × (Int × (Int × (Int × (Int × (Int × (Int × (Int × (Int × (Int × (Int × (Int × (Int × (List Int × (List Int × (List Int × (Int × (Int × (Int × (Int × (Int × (Int × Unit)))))))))))))))))))))))
  | 0, _, _, _, _, _, _, _, _, _, _, _, _, _, _, _, _, _, _, _, _, _, _, _, _, _ => none
  | k + 1, x0, x1, x2, x3, x4, x5, x6, x7, x8, x9, x10, x11, x12, x13, x14, x15, x16, x17, x18, x19, x20, x21, x22, x23, x24 => bcseven_fields_widen_read_c1_l2S F (bcseven_fields_widen_read_c1_l2 F k) x0 x1 x2 x3 x4 x5 x6 x7 x8 x9 x10 x11 x12 x13 x14 x15 x16 x17 x18 x19 x20 x21 x22 x23 x24

def bcseven_fields_widen_read_c1_l0S (F : Nat) (rec : List Int → Int → Int → Int → Int → Int → Int → Int → Int → Int → Int → Int → Int → Int → List Int → List Int → List Int → Int → Int → Int → Int → Int → Option (List Int × (Int × (Int × (Int × (Int × (Int × (Int × (Int × (Int × (Int × (Int × (Int × (Int × (Int × (List Int × (List Int × (List Int × (Int × Unit))))))))))))))))))) (x0 : List Int) (x1 : Int) (x2 : Int) (x3 : Int) (x4 : Int) (x5 : Int) (x6 : Int) (x7 : Int) (x8 : Int) (x9 : Int) (x10 : Int) (x11 : Int) (x12 : Int) (x13 : Int) (x14 : List Int) (x15 : List Int) (x16 : List Int) (x17 : Int) (x18 : Int) (x19 : Int) (x20 : Int) (x21 : Int) : Option (List Int × (Int × (Int × (Int × (Int × (Int × (Int × (Int × (Int × (Int × (Int × (Int × (Int × (Int × (List Int × (List Int × (List Int × (Int × Unit)))))))))))))))))) :=
  let n1181 : Nat := ((List.length x0) / 4)
  cond (decide (x21 < x20))
    (cond (x7 == (1 : Int))
      ((bcseven_read_c1 F (1 : Int) x16 x17).bind fun r1185 =>
      cond ((decide ((0 : Int) ≤ x21)) && (decide (x21 < ((n1181 : Nat) : Int))))
        ((bcseven_fields_widen_read_c1_l2 F F x0 x1 x2 x3 x4 x5 x6 x7 x8 x9 x10 x11 x12 x13 x14 x15 x16 r1185.2.1 x18 r1185.1 x21 x20 x21 (List.take 4 (List.drop ((Int.toNat x21) * 4) x0)) (0 : Int)).bind fun r1221 =>
        let n1222 : Nat := ((List.length r1221.1) / 4)
        cond (r1221.2.2.2.2.2.2.1 == (0 : Int))
          (cond ((decide ((0 : Int) ≤ r1221.2.2.2.2.2.2.2.2.2.2.2.2.2.2.2.2.2.2.2.2.1)) && (decide (r1221.2.2.2.2.2.2.2.2.2.2.2.2.2.2.2.2.2.2.2.2.1 < ((n1222 : Nat) : Int))))
            (rec (List.set r1221.1 (3 + ((Int.toNat r1221.2.2.2.2.2.2.2.2.2.2.2.2.2.2.2.2.2.2.2.2.1) * 4)) (255 : Int)) r1221.2.1 r1221.2.2.1 r1221.2.2.2.1 r1221.2.2.2.2.1 r1221.2.2.2.2.2.1 r1221.2.2.2.2.2.2.1 r1221.2.2.2.2.2.2.2.1 r1221.2.2.2.2.2.2.2.2.1 r1221.2.2.2.2.2.2.2.2.2.1 r1221.2.2.2.2.2.2.2.2.2.2.1 r1221.2.2.2.2.2.2.2.2.2.2.2.1 r1221.2.2.2.2.2.2.2.2.2.2.2.2.1 r1221.2.2.2.2.2.2.2.2.2.2.2.2.2.1 r1221.2.2.2.2.2.2.2.2.2.2.2.2.2.2.1 r1221.2.2.2.2.2.2.2.2.2.2.2.2.2.2.2.1 r1221.2.2.2.2.2.2.2.2.2.2.2.2.2.2.2.2.1 r1221.2.2.2.2.2.2.2.2.2.2.2.2.2.2.2.2.2.1 r1221.2.2.2.2.2.2.2.2.2.2.2.2.2.2.2.2.2.2.1 r1221.2.2.2.2.2.2.2.2.2.2.2.2.2.2.2.2.2.2.2.1 r1221.2.2.2.2.2.2.2.2.2.2.2.2.2.2.2.2.2.2.2.2.2.1 (IntKind.wrap .i64 (r1221.2.2.2.2.2.2.2.2.2.2.2.2.2.2.2.2.2.2.2.2.2.2.1 + (1 : Int))))
            (none))
          (rec r1221.1 r1221.2.1 r1221.2.2.1 r1221.2.2.2.1 r1221.2.2.2.2.1 r1221.2.2.2.2.2.1 r1221.2.2.2.2.2.2.1 r1221.2.2.2.2.2.2.2.1 r1221.2.2.2.2.2.2.2.2.1 r1221.2.2.2.2.2.2.2.2.2.1 r1221.2.2.2.2.2.2.2.2.2.2.1 r1221.2.2.2.2.2.2.2.2.2.2.2.1 r1221.2.2.2.2.2.2.2.2.2.2.2.2.1 r1221.2.2.2.2.2.2.2.2.2.2.2.2.2.1 r1221.2.2.2.2.2.2.2.2.2.2.2.2.2.2.1 r1221.2.2.2.2.2.2.2.2.2.2.2.2.2.2.2.1 r1221.2.2.2.2.2.2.2.2.2.2.2.2.2.2.2.2.1 r1221.2.2.2.2.2.2.2.2.2.2.2.2.2.2.2.2.2.1 r1221.2.2.2.2.2.2.2.2.2.2.2.2.2.2.2.2.2.2.1 r1221.2.2.2.2.2.2.2.2.2.2.2.2.2.2.2.2.2.2.2.1 r1221.2.2.2.2.2.2.2.2.2.2.2.2.2.2.2.2.2.2.2.2.2.1 (IntKind.wrap .i64 (r1221.2.2.2.2.2.2.2.2.2.2.2.2.2.2.2.2.2.2.2.2.2.2.1 + (1 : Int)))))
        (none))
      (cond (x8 == (1 : Int))
        (cond ((Int.tmod x21 (2 : Int)) == (0 : Int))
          ((bcseven_read_c1 F (1 : Int) x16 x17).bind fun r1234 =>
          cond ((decide ((0 : Int) ≤ x21)) && (decide (x21 < ((n1181 : Nat) : Int))))
            ((bcseven_fields_widen_read_c1_l2 F F x0 x1 x2 x3 x4 x5 x6 x7 x8 x9 x10 x11 x12 x13 x14 x15 x16 r1234.2.1 x18 r1234.1 x21 x20 x21 (List.take 4 (List.drop ((Int.toNat x21) * 4) x0)) (0 : Int)).bind fun r1254 =>
            let n1255 : Nat := ((List.length r1254.1) / 4)
            cond (r1254.2.2.2.2.2.2.1 == (0 : Int))
              (cond ((decide ((0 : Int) ≤ r1254.2.2.2.2.2.2.2.2.2.2.2.2.2.2.2.2.2.2.2.2.1)) && (decide (r1254.2.2.2.2.2.2.2.2.2.2.2.2.2.2.2.2.2.2.2.2.1 < ((n1255 : Nat) : Int))))
                (rec (List.set r1254.1 (3 + ((Int.toNat r1254.2.2.2.2.2.2.2.2.2.2.2.2.2.2.2.2.2.2.2.2.1) * 4)) (255 : Int)) r1254.2.1 r1254.2.2.1 r1254.2.2.2.1 r1254.2.2.2.2.1 r1254.2.2.2.2.2.1 r1254.2.2.2.2.2.2.1 r1254.2.2.2.2.2.2.2.1 r1254.2.2.2.2.2.2.2.2.1 r1254.2.2.2.2.2.2.2.2.2.1 r1254.2.2.2.2.2.2.2.2.2.2.1 r1254.2.2.2.2.2.2.2.2.2.2.2.1 r1254.2.2.2.2.2.2.2.2.2.2.2.2.1 r1254.2.2.2.2.2.2.2.2.2.2.2.2.2.1 r1254.2.2.2.2.2.2.2.2.2.2.2.2.2.2.1 r1254.2.2.2.2.2.2.2.2.2.2.2.2.2.2.2.1 r1254.2.2.2.2.2.2.2.2.2.2.2.2.2.2.2.2.1 r1254.2.2.2.2.2.2.2.2.2.2.2.2.2.2.2.2.2.1 r1254.2.2.2.2.2.2.2.2.2.2.2.2.2.2.2.2.2.2.1 r1254.2.2.2.2.2.2.2.2.2.2.2.2.2.2.2.2.2.2.2.1 r1254.2.2.2.2.2.2.2.2.2.2.2.2.2.2.2.2.2.2.2.2.2.1 (IntKind.wrap .i64 (r1254.2.2.2.2.2.2.2.2.2.2.2.2.2.2.2.2.2.2.2.2.2.2.1 + (1 : Int))))
                (none))
              (rec r1254.1 r1254.2.1 r1254.2.2.1 r1254.2.2.2.1 r1254.2.2.2.2.1 r1254.2.2.2.2.2.1 r1254.2.2.2.2.2.2.1 r1254.2.2.2.2.2.2.2.1 r1254.2.2.2.2.2.2.2.2.1 r1254.2.2.2.2.2.2.2.2.2.1 r1254.2.2.2.2.2.2.2.2.2.2.1 r1254.2.2.2.2.2.2.2.2.2.2.2.1 r1254.2.2.2.2.2.2.2.2.2.2.2.2.1 r1254.2.2.2.2.2.2.2.2.2.2.2.2.2.1 r1254.2.2.2.2.2.2.2.2.2.2.2.2.2.2.1 r1254.2.2.2.2.2.2.2.2.2.2.2.2.2.2.2.1 r1254.2.2.2.2.2.2.2.2.2.2.2.2.2.2.2.2.1 r1254.2.2.2.2.2.2.2.2.2.2.2.2.2.2.2.2.2.1 r1254.2.2.2.2.2.2.2.2.2.2.2.2.2.2.2.2.2.2.1 r1254.2.2.2.2.2.2.2.2.2.2.2.2.2.2.2.2.2.2.2.1 r1254.2.2.2.2.2.2.2.2.2.2.2.2.2.2.2.2.2.2.2.2.2.1 (IntKind.wrap .i64 (r1254.2.2.2.2.2.2.2.2.2.2.2.2.2.2.2.2.2.2.2.2.2.2.1 + (1 : Int)))))
            (none))
          (cond ((decide ((0 : Int) ≤ x21)) && (decide (x21 < ((n1181 : Nat) : Int))))
            ((bcseven_fields_widen_read_c1_l2 F F x0 x1 x2 x3 x4 x5 x6 x7 x8 x9 x10 x11 x12 x13 x14 x15 x16 x17 x18 x19 x21 x20 x21 (List.take 4 (List.drop ((Int.toNat x21) * 4) x0)) (0 : Int)).bind fun r1283 =>
            let n1284 : Nat := ((List.length r1283.1) / 4)
            cond (r1283.2.2.2.2.2.2.1 == (0 : Int))
              (cond ((decide ((0 : Int) ≤ r1283.2.2.2.2.2.2.2.2.2.2.2.2.2.2.2.2.2.2.2.2.1)) && (decide (r1283.2.2.2.2.2.2.2.2.2.2.2.2.2.2.2.2.2.2.2.2.1 < ((n1284 : Nat) : Int))))
                (rec (List.set r1283.1 (3 + ((Int.toNat r1283.2.2.2.2.2.2.2.2.2.2.2.2.2.2.2.2.2.2.2.2.1) * 4)) (255 : Int)) r1283.2.1 r1283.2.2.1 r1283.2.2.2.1 r1283.2.2.2.2.1 r1283.2.2.2.2.2.1 r1283.2.2.2.2.2.2.1 r1283.2.2.2.2.2.2.2.1 r1283.2.2.2.2.2.2.2.2.1 r1283.2.2.2.2.2.2.2.2.2.1 r1283.2.2.2.2.2.2.2.2.2.2.1 r1283.2.2.2.2.2.2.2.2.2.2.2.1 r1283.2.2.2.2.2.2.2.2.2.2.2.2.1 r1283.2.2.2.2.2.2.2.2.2.2.2.2.2.1 r1283.2.2.2.2.2.2.2.2.2.2.2.2.2.2.1 r1283.2.2.2.2.2.2.2.2.2.2.2.2.2.2.2.1 r1283.2.2.2.2.2.2.2.2.2.2.2.2.2.2.2.2.1 r1283.2.2.2.2.2.2.2.2.2.2.2.2.2.2.2.2.2.1 r1283.2.2.2.2.2.2.2.2.2.2.2.2.2.2.2.2.2.2.1 r1283.2.2.2.2.2.2.2.2.2.2.2.2.2.2.2.2.2.2.2.1 r1283.2.2.2.2.2.2.2.2.2.2.2.2.2.2.2.2.2.2.2.2.2.1 (IntKind.wrap .i64 (r1283.2.2.2.2.2.2.2.2.2.2.2.2.2.2.2.2.2.2.2.2.2.2.1 + (1 : Int))))
                (none))
              (rec r1283.1 r1283.2.1 r1283.2.2.1 r1283.2.2.2.1 r1283.2.2.2.2.1 r1283.2.2.2.2.2.1 r1283.2.2.2.2.2.2.1 r1283.2.2.2.2.2.2.2.1 r1283.2.2.2.2.2.2.2.2.1 r1283.2.2.2.2.2.2.2.2.2.1 r1283.2.2.2.2.2.2.2.2.2.2.1 r1283.2.2.2.2.2.2.2.2.2.2.2.1 r1283.2.2.2.2.2.2.2.2.2.2.2.2.1 r1283.2.2.2.2.2.2.2.2.2.2.2.2.2.1 r1283.2.2.2.2.2.2.2.2.2.2.2.2.2.2.1 r1283.2.2.2.2.2.2.2.2.2.2.2.2.2.2.2.1 r1283.2.2.2.2.2.2.2.2.2.2.2.2.2.2.2.2.1 r1283.2.2.2.2.2.2.2.2.2.2.2.2.2.2.2.2.2.1 r1283.2.2.2.2.2.2.2.2.2.2.2.2.2.2.2.2.2.2.1 r1283.2.2.2.2.2.2.2.2.2.2.2.2.2.2.2.2.2.2.2.1 r1283.2.2.2.2.2.2.2.2.2.2.2.2.2.2.2.2.2.2.2.2.2.1 (IntKind.wrap .i64 (r1283.2.2.2.2.2.2.2.2.2.2.2.2.2.2.2.2.2.2.2.2.2.2.1 + (1 : Int)))))
            (none)))
        (cond ((decide ((0 : Int) ≤ x21)) && (decide (x21 < ((n1181 : Nat) : Int))))
          ((bcseven_fields_widen_read_c1_l2 F F x0 x1 x2 x3 x4 x5 x6 x7 x8 x9 x10 x11 x12 x13 x14 x15 x16 x17 x18 x19 x21 x20 x21 (List.take 4 (List.drop ((Int.toNat x21) * 4) x0)) (0 : Int)).bind fun r1312 =>
          let n1313 : Nat := ((List.length r1312.1) / 4)
          cond (r1312.2.2.2.2.2.2.1 == (0 : Int))
            (cond ((decide ((0 : Int) ≤ r1312.2.2.2.2.2.2.2.2.2.2.2.2.2.2.2.2.2.2.2.2.1)) && (decide (r1312.2.2.2.2.2.2.2.2.2.2.2.2.2.2.2.2.2.2.2.2.1 < ((n1313 : Nat) : Int))))
              (rec (List.set r1312.1 (3 + ((Int.toNat r1312.2.2.2.2.2.2.2.2.2.2.2.2.2.2.2.2.2.2.2.2.1) * 4)) (255 : Int)) r1312.2.1 r1312.2.2.1 r1312.2.2.2.1 r1312.2.2.2.2.1 r1312.2.2.2.2.2.1 r1312.2.2.2.2.2.2.1 r1312.2.2.2.2.2.2.2.1 r1312.2.2.2.2.2.2.2.2.1 r1312.2.2.2.2.2.2.2.2.2.1 r1312.2.2.2.2.2.2.2.2.2.2.1 r1312.2.2.2.2.2.2.2.2.2.2.2.1 r1312.2.2.2.2.2.2.2.2.2.2.2.2.1 r1312.2.2.2.2.2.2.2.2.2.2.2.2.2.1 r1312.2.2.2.2.2.2.2.2.2.2.2.2.2.2.1 r1312.2.2.2.2.2.2.2.2.2.2.2.2.2.2.2.1 r1312.2.2.2.2.2.2.2.2.2.2.2.2.2.2.2.2.1 r1312.2.2.2.2.2.2.2.2.2.2.2.2.2.2.2.2.2.1 r1312.2.2.2.2.2.2.2.2.2.2.2.2.2.2.2.2.2.2.1 r1312.2.2.2.2.2.2.2.2.2.2.2.2.2.2.2.2.2.2.2.1 r1312.2.2.2.2.2.2.2.2.2.2.2.2.2.2.2.2.2.2.2.2.2.1 (IntKind.wrap .i64 (r1312.2.2.2.2.2.2.2.2.2.2.2.2.2.2.2.2.2.2.2.2.2.2.1 + (1 : Int))))
              (none))
            (rec r1312.1 r1312.2.1 r1312.2.2.1 r1312.2.2.2.1 r1312.2.2.2.2.1 r1312.2.2.2.2.2.1 r1312.2.2.2.2.2.2.1 r1312.2.2.2.2.2.2.2.1 r1312.2.2.2.2.2.2.2.2.1 r1312.2.2.2.2.2.2.2.2.2.1 r1312.2.2.2.2.2.2.2.2.2.2.1 r1312.2.2.2.2.2.2.2.2.2.2.2.1 r1312.2.2.2.2.2.2.2.2.2.2.2.2.1 r1312.2.2.2.2.2.2.2.2.2.2.2.2.2.1 r1312.2.2.2.2.2.2.2.2.2.2.2.2.2.2.1 r1312.2.2.2.2.2.2.2.2.2.2.2.2.2.2.2.1 r1312.2.2.2.2.2.2.2.2.2.2.2.2.2.2.2.2.1 r1312.2.2.2.2.2.2.2.2.2.2.2.2.2.2.2.2.2.1 r1312.2.2.2.2.2.2.2.2.2.2.2.2.2.2.2.2.2.2.1 r1312.2.2.2.2.2.2.2.2.2.2.2.2.2.2.2.2.2.2.2.1 r1312.2.2.2.2.2.2.2.2.2.2.2.2.2.2.2.2.2.2.2.2.2.1 (IntKind.wrap .i64 (r1312.2.2.2.2.2.2.2.2.2.2.2.2.2.2.2.2.2.2.2.2.2.2.1 + (1 : Int)))))
          (none))))
    (some (x0, (x1, (x2, (x3, (x4, (x5, (x6, (x7, (x8, (x9, (x10, (x11, (x12, (x13, (x14, (x15, (x16, (x17, ())))))))))))))))))))

def bcseven_fields_widen_read_c1_l0 (F : Nat) : Nat → List Int → Int → Int → Int → Int → Int → Int → Int → Int → Int → Int → Int → Int → Int → List Int → List Int → List Int → Int → Int → Int → Int → Int → Option (List Int × (Int × (Int × (Int × (Int × (Int × (Int × (Int × (Int × (Int × (Int × (Int × (Int × (Int × (List Int × (List Int × (List Int × (Int × Unit))))))))))))))))))
  | 0, _, _, _, _, _, _, _, _, _, _, _, _, _, _, _, _, _, _, _, _, _, _ => none
  | k + 1, x0, x1, x2, x3, x4, x5, x6, x7, x8, x9, x10, x11, x12, x13, x14, x15, x16, x17, x18, x19, x20, x21 => bcseven_fields_widen_read_c1_l0S F (bcseven_fields_widen_read_c1_l0 F k) x0 x1 x2 x3 x4 x5 x6 x7 x8 x9 x10 x11 x12 x13 x14 x15 x16 x17 x18 x19 x20 x21

/-- (*swatch/bcseven.fields).widen -/
def bcseven_fields_widen_read_c1 (F : Nat) (a0 : List Int) (a1 : Int) (a2 : Int) (a3 : Int) (a4 : Int) (a5 : Int) (a6 : Int) (a7 : Int) (a8 : Int) (a9 : Int) (a10 : Int) (a11 : Int) (a12 : Int) (a13 : Int) (a14 : List Int) (a15 : List Int) (a16 : List Int) (a17 : Int) : Option (List Int × (Int × Unit)) :=
  (bcseven_fields_widen_read_c1_l0 F F a0 a1 a2 a3 a4 a5 a6 a7 a8 a9 a10 a11 a12 a13 a14 a15 a16 a17 (IntKind.wrap .i64 (a7 + a8)) (0 : Int) ((((List.length a0) / 4) : Nat) : Int) (0 : Int)).bind fun r1322 =>
  some (r1322.1, (r1322.2.2.2.2.2.2.2.2.2.2.2.2.2.2.2.2.2.1, ()))

def bcseven_fields_lacks_l0S (F : Nat) (rec : List Int → Int → Int → Int → Int → Int → Int → Int → Int → Int → Int → Int → Int → Int → List Int → List Int → Int → Bool → Int → Option (Bool × Unit)) (x0 : List Int) (x1 : Int) (x2 : Int) (x3 : Int) (x4 : Int) (x5 : Int) (x6 : Int) (x7 : Int) (x8 : Int) (x9 : Int) (x10 : Int) (x11 : Int) (x12 : Int) (x13 : Int) (x14 : List Int) (x15 : List Int) (x16 : Int) (x17 : Bool) (x18 : Int) : Option (Bool × Unit) :=
  cond (decide (x18 < x1))
    (cond x17
      (rec x0 x1 x2 x3 x4 x5 x6 x7 x8 x9 x10 x11 x12 x13 x14 x15 x16 true (IntKind.wrap .i64 (x18 + (1 : Int))))
      ((bctable_Anchor F x1 x11 x18).bind fun r1381 =>
      rec x0 x1 x2 x3 x4 x5 x6 x7 x8 x9 x10 x11 x12 x13 x14 x15 x16 (r1381.1 == x16) (IntKind.wrap .i64 (x18 + (1 : Int)))))
    (some (x17, ()))

def bcseven_fields_lacks_l0 (F : Nat) : Nat → List Int → Int → Int → Int → Int → Int → Int → Int → Int → Int → Int → Int → Int → Int → List Int → List Int → Int → Bool → Int → Option (Bool × Unit)
  | 0, _, _, _, _, _, _, _, _, _, _, _, _, _, _, _, _, _, _, _ => none
  | k + 1, x0, x1, x2, x3, x4, x5, x6, x7, x8, x9, x10, x11, x12, x13, x14, x15, x16, x17, x18 => bcseven_fields_lacks_l0S F (bcseven_fields_lacks_l0 F k) x0 x1 x2 x3 x4 x5 x6 x7 x8 x9 x10 x11 x12 x13 x14 x15 x16 x17 x18

/-- (*swatch/bcseven.fields).lacks -/
def bcseven_fields_lacks (F : Nat) (a0 : List Int) (a1 : Int) (a2 : Int) (a3 : Int) (a4 : Int) (a5 : Int) (a6 : Int) (a7 : Int) (a8 : Int) (a9 : Int) (a10 : Int) (a11 : Int) (a12 : Int) (a13 : Int) (a14 : List Int) (a15 : List Int) (a16 : Int) : Option (Int × Unit) :=
  (bcseven_fields_lacks_l0 F F a0 a1 a2 a3 a4 a5 a6 a7 a8 a9 a10 a11 a12 a13 a14 a15 a16 (a16 == (0 : Int)) (1 : Int)).bind fun r1384 =>
  cond r1384.1
    (some ((1 : Int), ()))
    (some ((0 : Int), ()))

def bcseven_read_l2S (F : Nat) (rec : List Int → List Int → List Int → Int → Int → Int → Int → Int → Int → Int → Int → Int → Int → Int → Int → Int → List Int → List Int → List Int → Int → Int → Int → Int → Int → Option (List Int × (List Int × (List Int × (Int × (Int × (Int × (Int × (Int × (Int × (Int × (Int × (Int × (Int × (Int × (Int × (Int × (List Int × (List Int × (List Int × (Int × (Int × Unit)))))))))))))))))))))) (x0 : List Int) (x1 : List Int) (x2 : List Int) (x3 : Int) (x4 : Int) (x5 : Int) (x6 : Int) (x7 : Int) (x8 : Int) (x9 : Int) (x10 : Int) (x11 : Int) (x12 : Int) (x13 : Int) (x14 : Int) (x15 : Int) (x16 : List Int) (x17 : List Int) (x18 : List Int) (x19 : Int) (x20 : Int) (x21 : Int) (x22 : Int) (x23 : Int) : Option (List Int × (List Int × (List Int × (Int × (Int × (Int × (Int × (Int × (Int × (Int × (Int × (Int × (Int × (Int × (Int × (Int × (List Int × (List Int × (List Int × (Int × (Int × Unit))))))))))))))))))))) :=
  let n1542 : Nat := ((List.length x2) / 4)
  cond (decide (x23 < x22))
    (cond ((decide ((0 : Int) ≤ x23)) && (decide (x23 < ((n1542 : Nat) : Int))))
      ((bcseven_dealt F (x3, (x4, (x5, (x6, (x7, (x8, (x9, (x10, (x11, (x12, ())))))))))) x20).bind fun r1547 =>
      (bcseven_read_c1 F r1547.1 x18 x19).bind fun r1548 =>
      cond ((decide ((0 : Int) ≤ x20)) && (decide (x20 < (4 : Int))))
        (rec x0 x1 (List.set x2 (((Int.toNat x23) * 4) + (Int.toNat x20)) r1548.1) x3 x4 x5 x6 x7 x8 x9 x10 x11 x12 x13 x14 x15 x16 x17 x18 r1548.2.1 x20 x21 x22 (IntKind.wrap .i64 (x23 + (1 : Int))))
        (none))
      (none))
    (some (x0, (x1, (x2, (x3, (x4, (x5, (x6, (x7, (x8, (x9, (x10, (x11, (x12, (x13, (x14, (x15, (x16, (x17, (x18, (x19, (x21, ()))))))))))))))))))))))

def bcseven_read_l2 (F : Nat) : Nat → List Int → List Int → List Int → Int → Int → Int → Int → Int → Int → Int → Int → Int → Int → Int → Int → Int → List Int → List Int → List Int → Int → Int → Int → Int → Int → Option (List Int × (List Int × (List Int × (Int × (Int × (Int × (Int × (Int × (Int × (Int × (Int × (Int × (Int × (Int × (Int × (Int × (List Int × (List Int × (List Int × (Int × (Int × Unit)))))))))))))))))))))
  | 0, _, _, _, _, _, _, _, _, _, _, _, _, _, _, _, _, _, _, _, _, _, _, _, _ => none
  | k + 1, x0, x1, x2, x3, x4, x5, x6, x7, x8, x9, x10, x11, x12, x13, x14, x15, x16, x17, x18, x19, x20, x21, x22, x23 => bcseven_read_l2S F (bcseven_read_l2 F k) x0 x1 x2 x3 x4 x5 x6 x7 x8 x9 x10 x11 x12 x13 x14 x15 x16 x17 x18 x19 x20 x21 x22 x23

def bcseven_read_l0S (F : Nat) (rec : List Int → List Int → List Int → Int → Int → Int → Int → Int → Int → Int → Int → Int → Int → Int → Int → Int → List Int → List Int → List Int → Int → Int → Option (List Int × (List Int × (List Int × (Int × (Int × (Int × (Int × (Int × (Int × (Int × (Int × (Int × (Int × (Int × (Int × (Int × (List Int × (List Int × (List Int × (Int × Unit))))))))))))))))))))) (x0 : List Int) (x1 : List Int) (x2 : List Int) (x3 : Int) (x4 : Int) (x5 : Int) (x6 : Int) (x7 : Int) (x8 : Int) (x9 : Int) (x10 : Int) (x11 : Int) (x12 : Int) (x13 : Int) (x14 : Int) (x15 : Int) (x16 : List Int) (x17 : List Int) (x18 : List Int) (x19 : Int) (x20 : Int) : Option (List Int × (List Int × (List Int × (Int × (Int × (Int × (Int × (Int × (Int × (Int × (Int × (Int × (Int × (Int × (Int × (Int × (List Int × (List Int × (List Int × (Int × Unit)))))))))))))))))))) :=
  cond (decide (x20 < (4 : Int)))
    ((bcseven_read_l2 F F x0 x1 x2 x3 x4 x5 x6 x7 x8 x9 x10 x11 x12 x13 x14 x15 x16 x17 x18 x19 x20 x20 ((((List.length x2) / 4) : Nat) : Int) (0 : Int)).bind fun r1553 =>
    rec r1553.1 r1553.2.1 r1553.2.2.1 r1553.2.2.2.1 r1553.2.2.2.2.1 r1553.2.2.2.2.2.1 r1553.2.2.2.2.2.2.1 r1553.2.2.2.2.2.2.2.1 r1553.2.2.2.2.2.2.2.2.1 r1553.2.2.2.2.2.2.2.2.2.1 r1553.2.2.2.2.2.2.2.2.2.2.1 r1553.2.2.2.2.2.2.2.2.2.2.2.1 r1553.2.2.2.2.2.2.2.2.2.2.2.2.1 r1553.2.2.2.2.2.2.2.2.2.2.2.2.2.1 r1553.2.2.2.2.2.2.2.2.2.2.2.2.2.2.1 r1553.2.2.2.2.2.2.2.2.2.2.2.2.2.2.2.1 r1553.2.2.2.2.2.2.2.2.2.2.2.2.2.2.2.2.1 r1553.2.2.2.2.2.2.2.2.2.2.2.2.2.2.2.2.2.1 r1553.2.2.2.2.2.2.2.2.2.2.2.2.2.2.2.2.2.2.1 r1553.2.2.2.2.2.2.2.2.2.2.2.2.2.2.2.2.2.2.2.1 (IntKind.wrap .i64 (r1553.2.2.2.2.2.2.2.2.2.2.2.2.2.2.2.2.2.2.2.2.1 + (1 : Int))))
    (some (x0, (x1, (x2, (x3, (x4, (x5, (x6, (x7, (x8, (x9, (x10, (x11, (x12, (x13, (x14, (x15, (x16, (x17, (x18, (x19, ())))))))))))))))))))))

def bcseven_read_l0 (F : Nat) : Nat → List Int → List Int → List Int → Int → Int → Int → Int → Int → Int → Int → Int → Int → Int → Int → Int → Int → List Int → List Int → List Int → Int → Int → Option (List Int × (List Int × (List Int × (Int × (Int × (Int × (Int × (Int × (Int × (Int × (Int × (Int × (Int × (Int × (Int × (Int × (List Int × (List Int × (List Int × (Int × Unit))))))))))))))))))))
  | 0, _, _, _, _, _, _, _, _, _, _, _, _, _, _, _, _, _, _, _, _, _ => none
  | k + 1, x0, x1, x2, x3, x4, x5, x6, x7, x8, x9, x10, x11, x12, x13, x14, x15, x16, x17, x18, x19, x20 => bcseven_read_l0S F (bcseven_read_l0 F k) x0 x1 x2 x3 x4 x5 x6 x7 x8 x9 x10 x11 x12 x13 x14 x15 x16 x17 x18 x19 x20

def bcseven_read_l4S (F : Nat) (rec : List Int → List Int → List Int → Int → Int → Int → Int → Int → Int → Int → Int → Int → Int → Int → Int → Int → List Int → List Int → List Int → Int → Int → Option (List Int × (List Int × (List Int × (Int × (Int × (Int × (Int × (Int × (Int × (Int × (Int × (Int × (Int × (Int × (Int × (Int × (List Int × (List Int × (List Int × (Int × Unit))))))))))))))))))))) (x0 : List Int) (x1 : List Int) (x2 : List Int) (x3 : Int) (x4 : Int) (x5 : Int) (x6 : Int) (x7 : Int) (x8 : Int) (x9 : Int) (x10 : Int) (x11 : Int) (x12 : Int) (x13 : Int) (x14 : Int) (x15 : Int) (x16 : List Int) (x17 : List Int) (x18 : List Int) (x19 : Int) (x20 : Int) : Option (List Int × (List Int × (List Int × (Int × (Int × (Int × (Int × (Int × (Int × (Int × (Int × (Int × (Int × (Int × (Int × (Int × (List Int × (List Int × (List Int × (Int × Unit)))))))))))))))))))) :=
  cond (decide (x20 < (16 : Int)))
    ((bcseven_fields_lacks F x2 x3 x4 x5 x6 x7 x8 x9 x10 x11 x12 x13 x14 x15 x16 x17 x20).bind fun r1580 =>
    (bcseven_read_c1 F (IntKind.wrap .i64 (x11 - r1580.1)) x18 x19).bind fun r1582 =>
    cond ((decide ((0 : Int) ≤ x20)) && (decide (x20 < (16 : Int))))
      (rec x0 x1 x2 x3 x4 x5 x6 x7 x8 x9 x10 x11 x12 x13 x14 x15 (List.set x16 (Int.toNat x20) r1582.1) x17 x18 r1582.2.1 (IntKind.wrap .i64 (x20 + (1 : Int))))
      (none))
    (some (x0, (x1, (x2, (x3, (x4, (x5, (x6, (x7, (x8, (x9, (x10, (x11, (x12, (x13, (x14, (x15, (x16, (x17, (x18, (x19, ())))))))))))))))))))))

def bcseven_read_l4 (F : Nat) : Nat → List Int → List Int → List Int → Int → Int → Int → Int → Int → Int → Int → Int → Int → Int → Int → Int → Int → List Int → List Int → List Int → Int → Int → Option (List Int × (List Int × (List Int × (Int × (Int × (Int × (Int × (Int × (Int × (Int × (Int × (Int × (Int × (Int × (Int × (Int × (List Int × (List Int × (List Int × (Int × Unit))))))))))))))))))))
  | 0, _, _, _, _, _, _, _, _, _, _, _, _, _, _, _, _, _, _, _, _, _ => none
  | k + 1, x0, x1, x2, x3, x4, x5, x6, x7, x8, x9, x10, x11, x12, x13, x14, x15, x16, x17, x18, x19, x20 => bcseven_read_l4S F (bcseven_read_l4 F k) x0 x1 x2 x3 x4 x5 x6 x7 x8 x9 x10 x11 x12 x13 x14 x15 x16 x17 x18 x19 x20

def bcseven_read_l6S (F : Nat) (rec : List Int → List Int → List Int → Int → Int → Int → Int → Int → Int → Int → Int → Int → Int → Int → Int → Int → List Int → List Int → List Int → Int → Int → Option (List Int × (List Int × (List Int × (Int × (Int × (Int × (Int × (Int × (Int × (Int × (Int × (Int × (Int × (Int × (Int × (Int × (List Int × (List Int × Unit))))))))))))))))))) (x0 : List Int) (x1 : List Int) (x2 : List Int) (x3 : Int) (x4 : Int) (x5 : Int) (x6 : Int) (x7 : Int) (x8 : Int) (x9 : Int) (x10 : Int) (x11 : Int) (x12 : Int) (x13 : Int) (x14 : Int) (x15 : Int) (x16 : List Int) (x17 : List Int) (x18 : List Int) (x19 : Int) (x20 : Int) : Option (List Int × (List Int × (List Int × (Int × (Int × (Int × (Int × (Int × (Int × (Int × (Int × (Int × (Int × (Int × (Int × (Int × (List Int × (List Int × Unit)))))))))))))))))) :=
  cond (decide (x20 < (16 : Int)))
    (let v1610 : Int := (IntKind.wrap .i64 (x20 + (1 : Int)))
    cond (!(v1610 == (0 : Int)))
      ((bcseven_read_c1 F (IntKind.wrap .i64 (x12 - (IntKind.wrap .i64 (Int.tdiv (1 : Int) v1610)))) x18 x19).bind fun r1614 =>
      cond ((decide ((0 : Int) ≤ x20)) && (decide (x20 < (16 : Int))))
        (rec x0 x1 x2 x3 x4 x5 x6 x7 x8 x9 x10 x11 x12 x13 x14 x15 x16 (List.set x17 (Int.toNat x20) r1614.1) x18 r1614.2.1 v1610)
        (none))
      (none))
    (some (x0, (x1, (x2, (x3, (x4, (x5, (x6, (x7, (x8, (x9, (x10, (x11, (x12, (x13, (x14, (x15, (x16, (x17, ())))))))))))))))))))

def bcseven_read_l6 (F : Nat) : Nat → List Int → List Int → List Int → Int → Int → Int → Int → Int → Int → Int → Int → Int → Int → Int → Int → Int → List Int → List Int → List Int → Int → Int → Option (List Int × (List Int × (List Int × (Int × (Int × (Int × (Int × (Int × (Int × (Int × (Int × (Int × (Int × (Int × (Int × (Int × (List Int × (List Int × Unit))))))))))))))))))
  | 0, _, _, _, _, _, _, _, _, _, _, _, _, _, _, _, _, _, _, _, _, _ => none
  | k + 1, x0, x1, x2, x3, x4, x5, x6, x7, x8, x9, x10, x11, x12, x13, x14, x15, x16, x17, x18, x19, x20 => bcseven_read_l6S F (bcseven_read_l6 F k) x0 x1 x2 x3 x4 x5 x6 x7 x8 x9 x10 x11 x12 x13 x14 x15 x16 x17 x18 x19 x20

/-- swatch/bcseven.read -/
def bcseven_read (F : Nat) (a0 : List Int) (a1 : Int) : Option (Int × (Int × (Int × (Int × (Int × (Int × (Int × (Int × (Int × (Int × (Int × (Int × (Int × (List Int × (List Int × (List Int × Unit)))))))))))))))) :=
  (bctable_Modes F).bind fun r1443 =>
  let n1444 : Nat := ((List.length r1443.1) / 10)
  cond ((decide ((0 : Int) ≤ a1)) && (decide (a1 < ((n1444 : Nat) : Int))))
    (let l1447 : List Int := (List.take 10 (List.drop ((Int.toNat a1) * 10) r1443.1))
    let v1448 : Int := (List.getD l1447 0 (0 : Int))
    let v1449 : Int := (List.getD l1447 1 (0 : Int))
    let v1450 : Int := (List.getD l1447 2 (0 : Int))
    let v1451 : Int := (List.getD l1447 3 (0 : Int))
    (bcseven_read_c1 F v1449 a0 (IntKind.wrap .i64 (a1 + (1 : Int)))).bind fun r1459 =>
    (bcseven_read_c1 F v1450 a0 r1459.2.1).bind fun r1460 =>
    (bcseven_read_c1 F v1451 a0 r1460.2.1).bind fun r1461 =>
    let v1462 : Int := (IntKind.wrap .i64 ((2 : Int) * v1448))
    cond ((decide ((0 : Int) ≤ v1462)) && ((decide (v1462 ≤ (1099511627776 : Int))) && (decide (v1462 = v1462))))
      ((bcseven_read_l0 F F bcseven_SixT4 bcseven_SixT4 (List.replicate ((Int.toNat v1462) * 4) (0 : Int)) v1448 v1449 v1450 v1451 (List.getD l1447 4 (0 : Int)) (List.getD l1447 5 (0 : Int)) (List.getD l1447 6 (0 : Int)) (List.getD l1447 7 (0 : Int)) (List.getD l1447 8 (0 : Int)) (List.getD l1447 9 (0 : Int)) r1459.1 r1460.1 r1461.1 bcseven_SixT4 bcseven_SixT4 a0 r1461.2.1 (0 : Int)).bind fun r1557 =>
      (bcseven_fields_widen_read_c1 F r1557.2.2.1 r1557.2.2.2.1 r1557.2.2.2.2.1 r1557.2.2.2.2.2.1 r1557.2.2.2.2.2.2.1 r1557.2.2.2.2.2.2.2.1 r1557.2.2.2.2.2.2.2.2.1 r1557.2.2.2.2.2.2.2.2.2.1 r1557.2.2.2.2.2.2.2.2.2.2.1 r1557.2.2.2.2.2.2.2.2.2.2.2.1 r1557.2.2.2.2.2.2.2.2.2.2.2.2.1 r1557.2.2.2.2.2.2.2.2.2.2.2.2.2.1 r1557.2.2.2.2.2.2.2.2.2.2.2.2.2.2.1 r1557.2.2.2.2.2.2.2.2.2.2.2.2.2.2.2.1 r1557.2.2.2.2.2.2.2.2.2.2.2.2.2.2.2.2.1 r1557.2.2.2.2.2.2.2.2.2.2.2.2.2.2.2.2.2.1 r1557.2.2.2.2.2.2.2.2.2.2.2.2.2.2.2.2.2.2.1 r1557.2.2.2.2.2.2.2.2.2.2.2.2.2.2.2.2.2.2.2.1).bind fun r1560 =>
      (bcseven_read_l4 F F r1557.1 r1557.2.1 r1560.1 r1557.2.2.2.1 r1557.2.2.2.2.1 r1557.2.2.2.2.2.1 r1557.2.2.2.2.2.2.1 r1557.2.2.2.2.2.2.2.1 r1557.2.2.2.2.2.2.2.2.1 r1557.2.2.2.2.2.2.2.2.2.1 r1557.2.2.2.2.2.2.2.2.2.2.1 r1557.2.2.2.2.2.2.2.2.2.2.2.1 r1557.2.2.2.2.2.2.2.2.2.2.2.2.1 r1557.2.2.2.2.2.2.2.2.2.2.2.2.2.1 r1557.2.2.2.2.2.2.2.2.2.2.2.2.2.2.1 r1557.2.2.2.2.2.2.2.2.2.2.2.2.2.2.2.1 r1557.2.2.2.2.2.2.2.2.2.2.2.2.2.2.2.2.1 r1557.2.2.2.2.2.2.2.2.2.2.2.2.2.2.2.2.2.1 r1557.2.2.2.2.2.2.2.2.2.2.2.2.2.2.2.2.2.2.1 r1560.2.1 (0 : Int)).bind fun r1587 =>
      cond (decide ((0 : Int) < r1587.2.2.2.2.2.2.2.2.2.2.2.2.1))
        ((bcseven_read_l6 F F r1587.1 r1587.2.1 r1587.2.2.1 r1587.2.2.2.1 r1587.2.2.2.2.1 r1587.2.2.2.2.2.1 r1587.2.2.2.2.2.2.1 r1587.2.2.2.2.2.2.2.1 r1587.2.2.2.2.2.2.2.2.1 r1587.2.2.2.2.2.2.2.2.2.1 r1587.2.2.2.2.2.2.2.2.2.2.1 r1587.2.2.2.2.2.2.2.2.2.2.2.1 r1587.2.2.2.2.2.2.2.2.2.2.2.2.1 r1587.2.2.2.2.2.2.2.2.2.2.2.2.2.1 r1587.2.2.2.2.2.2.2.2.2.2.2.2.2.2.1 r1587.2.2.2.2.2.2.2.2.2.2.2.2.2.2.2.1 r1587.2.2.2.2.2.2.2.2.2.2.2.2.2.2.2.2.1 r1587.2.2.2.2.2.2.2.2.2.2.2.2.2.2.2.2.2.1 r1587.2.2.2.2.2.2.2.2.2.2.2.2.2.2.2.2.2.2.1 r1587.2.2.2.2.2.2.2.2.2.2.2.2.2.2.2.2.2.2.2.1 (0 : Int)).bind fun r1618 =>
        some (r1618.2.2.2.1, (r1618.2.2.2.2.1, (r1618.2.2.2.2.2.1, (r1618.2.2.2.2.2.2.1, (r1618.2.2.2.2.2.2.2.1, (r1618.2.2.2.2.2.2.2.2.1, (r1618.2.2.2.2.2.2.2.2.2.1, (r1618.2.2.2.2.2.2.2.2.2.2.1, (r1618.2.2.2.2.2.2.2.2.2.2.2.1, (r1618.2.2.2.2.2.2.2.2.2.2.2.2.1, (r1618.2.2.2.2.2.2.2.2.2.2.2.2.2.1, (r1618.2.2.2.2.2.2.2.2.2.2.2.2.2.2.1, (r1618.2.2.2.2.2.2.2.2.2.2.2.2.2.2.2.1, (r1618.2.2.1, (r1618.2.2.2.2.2.2.2.2.2.2.2.2.2.2.2.2.1, (r1618.2.2.2.2.2.2.2.2.2.2.2.2.2.2.2.2.2.1, ())))))))))))))))))
        (some (r1587.2.2.2.1, (r1587.2.2.2.2.1, (r1587.2.2.2.2.2.1, (r1587.2.2.2.2.2.2.1, (r1587.2.2.2.2.2.2.2.1, (r1587.2.2.2.2.2.2.2.2.1, (r1587.2.2.2.2.2.2.2.2.2.1, (r1587.2.2.2.2.2.2.2.2.2.2.1, (r1587.2.2.2.2.2.2.2.2.2.2.2.1, (r1587.2.2.2.2.2.2.2.2.2.2.2.2.1, (r1587.2.2.2.2.2.2.2.2.2.2.2.2.2.1, (r1587.2.2.2.2.2.2.2.2.2.2.2.2.2.2.1, (r1587.2.2.2.2.2.2.2.2.2.2.2.2.2.2.2.1, (r1587.2.2.1, (r1587.2.2.2.2.2.2.2.2.2.2.2.2.2.2.2.2.1, (r1587.2.2.2.2.2.2.2.2.2.2.2.2.2.2.2.2.2.1, ()))))))))))))))))))
      (none))
    (none)

/-- swatch/bcseven.mix -/
def bcseven_mix (F : Nat) (a0 : Int) (a1 : Int) (a2 : Int) (a3 : Int) : Option (Int × Unit) :=
  (bctable_Weights F a3).bind fun r1671 =>
  let n1672 : Nat := (List.length r1671.1)
  cond ((decide ((0 : Int) ≤ a2)) && (decide (a2 < ((n1672 : Nat) : Int))))
    ((level_Mix F a0 a1 (List.getD r1671.1 (Int.toNat a2) (0 : Int)) (64 : Int) (32 : Int)).bind fun r1687 =>
    some (r1687.1, ()))
    (none)

def bcseven_fields_texel_l0S (F : Nat) (rec : List Int → Int → Int → Int → Int → Int → Int → Int → Int → Int → Int → Int → Int → Int → List Int → List Int → List Int → List Int → List Int → Int → Int → Int → Int → List Int → Int → Option (List Int × (Int × (Int × (Int × (Int × (Int × (Int × (Int × (Int × (Int × (Int × (Int × (Int × (Int × (List Int × (List Int × (List Int × (List Int × (List Int × (Int × (Int × (List Int × Unit))))))))))))))))))))))) (x0 : List Int) (x1 : Int) (x2 : Int) (x3 : Int) (x4 : Int) (x5 : Int) (x6 : Int) (x7 : Int) (x8 : Int) (x9 : Int) (x10 : Int) (x11 : Int) (x12 : Int) (x13 : Int) (x14 : List Int) (x15 : List Int) (x16 : List Int) (x17 : List Int) (x18 : List Int) (x19 : Int) (x20 : Int) (x21 : Int) (x22 : Int) (x23 : List Int) (x24 : Int) : Option (List Int × (Int × (Int × (Int × (Int × (Int × (Int × (Int × (Int × (Int × (Int × (Int × (Int × (Int × (List Int × (List Int × (List Int × (List Int × (List Int × (Int × (Int × (List Int × Unit)))))))))))))))))))))) :=
  cond (decide (x24 < (3 : Int)))
    (let b1824 : Bool := ((decide ((0 : Int) ≤ x24)) && (decide (x24 < (4 : Int))))
    cond b1824
      (cond b1824
        ((bcseven_mix F (List.getD x17 (Int.toNat x24) (0 : Int)) (List.getD x18 (Int.toNat x24) (0 : Int)) x19 x20).bind fun r1828 =>
        cond b1824
          (rec x0 x1 x2 x3 x4 x5 x6 x7 x8 x9 x10 x11 x12 x13 x14 x15 x16 x17 x18 x19 x20 x21 x22 (List.set x23 (Int.toNat x24) r1828.1) (IntKind.wrap .i64 (x24 + (1 : Int))))
          (none))
        (none))
      (none))
    (some (x0, (x1, (x2, (x3, (x4, (x5, (x6, (x7, (x8, (x9, (x10, (x11, (x12, (x13, (x14, (x15, (x16, (x17, (x18, (x21, (x22, (x23, ())))))))))))))))))))))))

def bcseven_fields_texel_l0 (F : Nat) : Nat → List Int → Int → Int → Int → Int → Int → Int → Int → Int → Int → Int → Int → Int → Int → List Int → List Int → List Int → List Int → List Int → Int → Int → Int → Int → List Int → Int → Option (List Int × (Int × (Int × (Int × (Int × (Int × (Int × (Int × (Int × (Int × (Int × (Int × (Int × (Int × (List Int × (List Int × (List Int × (List Int × (List Int × (Int × (Int × (List Int × Unit))))))))))))))))))))))
  | 0, _, _, _, _, _, _, _, _, _, _, _, _, _, _, _, _, _, _, _, _, _, _, _, _, _ => none
  | k + 1, x0, x1, x2, x3, x4, x5, x6, x7, x8, x9, x10, x11, x12, x13, x14, x15, x16, x17, x18, x19, x20, x21, x22, x23, x24 => bcseven_fields_texel_l0S F (bcseven_fields_texel_l0 F k) x0 x1 x2 x3 x4 x5 x6 x7 x8 x9 x10 x11 x12 x13 x14 x15 x16 x17 x18 x19 x20 x21 x22 x23 x24

/-- (*swatch/bcseven.fields).texel -/
def bcseven_fields_texel (F : Nat) (a0 : List Int) (a1 : Int) (a2 : Int) (a3 : Int) (a4 : Int) (a5 : Int) (a6 : Int) (a7 : Int) (a8 : Int) (a9 : Int) (a10 : Int) (a11 : Int) (a12 : Int) (a13 : Int) (a14 : List Int) (a15 : List Int) (a16 : Int) : Option (List Int × Unit) :=
  let n1792 : Nat := ((List.length a0) / 4)
  (bctable_Part F a1 a11 a16).bind fun r1793 =>
  let v1794 : Int := (IntKind.wrap .i64 ((2 : Int) * r1793.1))
  let v1795 : Int := (IntKind.wrap .i64 (v1794 + (1 : Int)))
  cond ((decide ((0 : Int) ≤ v1794)) && (decide (v1794 < ((n1792 : Nat) : Int))))
    (let l1798 : List Int := (List.take 4 (List.drop ((Int.toNat v1794) * 4) a0))
    cond ((decide ((0 : Int) ≤ v1795)) && (decide (v1795 < ((n1792 : Nat) : Int))))
      (let l1801 : List Int := (List.take 4 (List.drop ((Int.toNat v1795) * 4) a0))
      let b1802 : Bool := ((decide ((0 : Int) ≤ a16)) && (decide (a16 < (16 : Int))))
      cond b1802
        (let v1804 : Int := (List.getD a14 (Int.toNat a16) (0 : Int))
        cond (decide ((0 : Int) < a10))
          (cond b1802
            (let v1806 : Int := (List.getD a15 (Int.toNat a16) (0 : Int))
            cond (a13 == (1 : Int))
              ((bcseven_fields_texel_l0 F F a0 a1 a2 a3 a4 a5 a6 a7 a8 a9 a10 a11 a12 a13 a14 a15 [(0 : Int), (0 : Int), (0 : Int), (0 : Int)] l1798 l1801 v1806 a10 v1804 a9 [(0 : Int), (0 : Int), (0 : Int), (0 : Int)] (0 : Int)).bind fun r1831 =>
              (bcseven_mix F (List.getD r1831.2.2.2.2.2.2.2.2.2.2.2.2.2.2.2.2.2.1 3 (0 : Int)) (List.getD r1831.2.2.2.2.2.2.2.2.2.2.2.2.2.2.2.2.2.2.1 3 (0 : Int)) r1831.2.2.2.2.2.2.2.2.2.2.2.2.2.2.2.2.2.2.2.1 r1831.2.2.2.2.2.2.2.2.2.2.2.2.2.2.2.2.2.2.2.2.1).bind fun r1835 =>
              let l1836 : List Int := (List.set r1831.2.2.2.2.2.2.2.2.2.2.2.2.2.2.2.2.2.2.2.2.2.1 3 r1835.1)
              cond (decide ((0 : Int) < r1831.2.2.2.2.2.2.2.2.2.2.2.2.1))
                (let v1838 : Int := (IntKind.wrap .i64 (r1831.2.2.2.2.2.2.2.2.2.2.2.2.1 - (1 : Int)))
                let b1839 : Bool := ((decide ((0 : Int) ≤ v1838)) && (decide (v1838 < (4 : Int))))
                cond b1839
                  (cond b1839
                    (some ((List.set (List.set l1836 3 (List.getD l1836 (Int.toNat v1838) (0 : Int))) (Int.toNat v1838) (List.getD l1836 3 (0 : Int))), ()))
                    (none))
                  (none))
                (some (l1836, ())))
              ((bcseven_fields_texel_l0 F F a0 a1 a2 a3 a4 a5 a6 a7 a8 a9 a10 a11 a12 a13 a14 a15 [(0 : Int), (0 : Int), (0 : Int), (0 : Int)] l1798 l1801 v1804 a9 v1806 a10 [(0 : Int), (0 : Int), (0 : Int), (0 : Int)] (0 : Int)).bind fun r1854 =>
              (bcseven_mix F (List.getD r1854.2.2.2.2.2.2.2.2.2.2.2.2.2.2.2.2.2.1 3 (0 : Int)) (List.getD r1854.2.2.2.2.2.2.2.2.2.2.2.2.2.2.2.2.2.2.1 3 (0 : Int)) r1854.2.2.2.2.2.2.2.2.2.2.2.2.2.2.2.2.2.2.2.1 r1854.2.2.2.2.2.2.2.2.2.2.2.2.2.2.2.2.2.2.2.2.1).bind fun r1858 =>
              let l1859 : List Int := (List.set r1854.2.2.2.2.2.2.2.2.2.2.2.2.2.2.2.2.2.2.2.2.2.1 3 r1858.1)
              cond (decide ((0 : Int) < r1854.2.2.2.2.2.2.2.2.2.2.2.2.1))
                (let v1861 : Int := (IntKind.wrap .i64 (r1854.2.2.2.2.2.2.2.2.2.2.2.2.1 - (1 : Int)))
                let b1862 : Bool := ((decide ((0 : Int) ≤ v1861)) && (decide (v1861 < (4 : Int))))
                cond b1862
                  (cond b1862
                    (some ((List.set (List.set l1859 3 (List.getD l1859 (Int.toNat v1861) (0 : Int))) (Int.toNat v1861) (List.getD l1859 3 (0 : Int))), ()))
                    (none))
                  (none))
                (some (l1859, ()))))
            (none))
          (cond (a13 == (1 : Int))
            ((bcseven_fields_texel_l0 F F a0 a1 a2 a3 a4 a5 a6 a7 a8 a9 a10 a11 a12 a13 a14 a15 [(0 : Int), (0 : Int), (0 : Int), (0 : Int)] l1798 l1801 v1804 a9 v1804 a9 [(0 : Int), (0 : Int), (0 : Int), (0 : Int)] (0 : Int)).bind fun r1878 =>
            (bcseven_mix F (List.getD r1878.2.2.2.2.2.2.2.2.2.2.2.2.2.2.2.2.2.1 3 (0 : Int)) (List.getD r1878.2.2.2.2.2.2.2.2.2.2.2.2.2.2.2.2.2.2.1 3 (0 : Int)) r1878.2.2.2.2.2.2.2.2.2.2.2.2.2.2.2.2.2.2.2.1 r1878.2.2.2.2.2.2.2.2.2.2.2.2.2.2.2.2.2.2.2.2.1).bind fun r1882 =>
            let l1883 : List Int := (List.set r1878.2.2.2.2.2.2.2.2.2.2.2.2.2.2.2.2.2.2.2.2.2.1 3 r1882.1)
            cond (decide ((0 : Int) < r1878.2.2.2.2.2.2.2.2.2.2.2.2.1))
              (let v1885 : Int := (IntKind.wrap .i64 (r1878.2.2.2.2.2.2.2.2.2.2.2.2.1 - (1 : Int)))
              let b1886 : Bool := ((decide ((0 : Int) ≤ v1885)) && (decide (v1885 < (4 : Int))))
              cond b1886
                (cond b1886
                  (some ((List.set (List.set l1883 3 (List.getD l1883 (Int.toNat v1885) (0 : Int))) (Int.toNat v1885) (List.getD l1883 3 (0 : Int))), ()))
                  (none))
                (none))
              (some (l1883, ())))
            ((bcseven_fields_texel_l0 F F a0 a1 a2 a3 a4 a5 a6 a7 a8 a9 a10 a11 a12 a13 a14 a15 [(0 : Int), (0 : Int), (0 : Int), (0 : Int)] l1798 l1801 v1804 a9 v1804 a9 [(0 : Int), (0 : Int), (0 : Int), (0 : Int)] (0 : Int)).bind fun r1901 =>
            (bcseven_mix F (List.getD r1901.2.2.2.2.2.2.2.2.2.2.2.2.2.2.2.2.2.1 3 (0 : Int)) (List.getD r1901.2.2.2.2.2.2.2.2.2.2.2.2.2.2.2.2.2.2.1 3 (0 : Int)) r1901.2.2.2.2.2.2.2.2.2.2.2.2.2.2.2.2.2.2.2.1 r1901.2.2.2.2.2.2.2.2.2.2.2.2.2.2.2.2.2.2.2.2.1).bind fun r1905 =>
            let l1906 : List Int := (List.set r1901.2.2.2.2.2.2.2.2.2.2.2.2.2.2.2.2.2.2.2.2.2.1 3 r1905.1)
            cond (decide ((0 : Int) < r1901.2.2.2.2.2.2.2.2.2.2.2.2.1))
              (let v1908 : Int := (IntKind.wrap .i64 (r1901.2.2.2.2.2.2.2.2.2.2.2.2.1 - (1 : Int)))
              let b1909 : Bool := ((decide ((0 : Int) ≤ v1908)) && (decide (v1908 < (4 : Int))))
              cond b1909
                (cond b1909
                  (some ((List.set (List.set l1906 3 (List.getD l1906 (Int.toNat v1908) (0 : Int))) (Int.toNat v1908) (List.getD l1906 3 (0 : Int))), ()))
                  (none))
                (none))
              (some (l1906, ())))))
        (none))
      (none))
    (none)

def bcseven_Decode_l0S (F : Nat) (rec : List Int → List Int → List Int → Int → Int → Int → Int → Int → Int → Int → Int → Int → Int → Int → Int → Int → List Int → List Int → Int → Option (List Int × (List Int × Unit))) (x0 : List Int) (x1 : List Int) (x2 : List Int) (x3 : Int) (x4 : Int) (x5 : Int) (x6 : Int) (x7 : Int) (x8 : Int) (x9 : Int) (x10 : Int) (x11 : Int) (x12 : Int) (x13 : Int) (x14 : Int) (x15 : Int) (x16 : List Int) (x17 : List Int) (x18 : Int) : Option (List Int × (List Int × Unit)) :=
  cond (decide (x18 < (16 : Int)))
    ((bcseven_fields_texel F x2 x3 x4 x5 x6 x7 x8 x9 x10 x11 x12 x13 x14 x15 x16 x17 x18).bind fun r1926 =>
    cond ((decide ((0 : Int) ≤ x18)) && (decide (x18 < (16 : Int))))
      (let n1928 : Nat := ((Int.toNat x18) * 4)
      rec x0 (((List.take n1928 x1) ++ r1926.1) ++ (List.drop (n1928 + 4) x1)) x2 x3 x4 x5 x6 x7 x8 x9 x10 x11 x12 x13 x14 x15 x16 x17 (IntKind.wrap .i64 (x18 + (1 : Int))))
      (none))
    (some (x0, (x1, ())))

def bcseven_Decode_l0 (F : Nat) : Nat → List Int → List Int → List Int → Int → Int → Int → Int → Int → Int → Int → Int → Int → Int → Int → Int → Int → List Int → List Int → Int → Option (List Int × (List Int × Unit))
  | 0, _, _, _, _, _, _, _, _, _, _, _, _, _, _, _, _, _, _, _ => none
  | k + 1, x0, x1, x2, x3, x4, x5, x6, x7, x8, x9, x10, x11, x12, x13, x14, x15, x16, x17, x18 => bcseven_Decode_l0S F (bcseven_Decode_l0 F k) x0 x1 x2 x3 x4 x5 x6 x7 x8 x9 x10 x11 x12 x13 x14 x15 x16 x17 x18

/-- swatch/bcseven.Decode -/
def bcseven_Decode (F : Nat) (a0 : List Int) : Option (List Int × (Int × Unit)) :=
  cond ((((List.length a0) : Nat) : Int) != (16 : Int))
    (some (bcseven_DecodeT283, ((1 : Int), ())))
    ((bcseven_Mode F a0).bind fun r295 =>
    cond (r295.1 == (8 : Int))
      (some (bcseven_DecodeT283, ((0 : Int), ())))
      ((bcseven_read F a0 r295.1).bind fun r1620 =>
      (bcseven_Decode_l0 F F bcseven_DecodeT283 bcseven_DecodeT283 r1620.2.2.2.2.2.2.2.2.2.2.2.2.2.1 r1620.1 r1620.2.1 r1620.2.2.1 r1620.2.2.2.1 r1620.2.2.2.2.1 r1620.2.2.2.2.2.1 r1620.2.2.2.2.2.2.1 r1620.2.2.2.2.2.2.2.1 r1620.2.2.2.2.2.2.2.2.1 r1620.2.2.2.2.2.2.2.2.2.1 r1620.2.2.2.2.2.2.2.2.2.2.1 r1620.2.2.2.2.2.2.2.2.2.2.2.1 r1620.2.2.2.2.2.2.2.2.2.2.2.2.1 r1620.2.2.2.2.2.2.2.2.2.2.2.2.2.2.1 r1620.2.2.2.2.2.2.2.2.2.2.2.2.2.2.2.1 (0 : Int)).bind fun r1931 =>
      some (r1931.2.1, ((0 : Int), ()))))

/-- swatch/swatchlaw09.awake -/
def law09_awake (F : Nat) : Option (Bool × Unit) :=
  (bcseven_Six F law09_awakeT2 [(1 : Int), (0 : Int)] law09_awakeT3).bind fun r280 =>
  (bcseven_Decode F r280.1).bind fun r1932 =>
  (bcseven_Decode F bcseven_SixT4).bind fun r1933 =>
  cond (r280.2.1 == (0 : Int))
    (cond (r1932.2.1 == (0 : Int))
      (cond (r1933.2.1 == (0 : Int))
        ((bcseven_Mode F r280.1).bind fun r1937 =>
        cond (r1937.1 == (6 : Int))
          ((bcseven_Mode F []).bind fun r1939 =>
          cond (r1939.1 == (8 : Int))
            (cond ((List.take 4 r1932.1) == [(255 : Int), (1 : Int), (129 : Int), (255 : Int)])
              (cond ((List.take 4 (List.drop 4 r1932.1)) == [(0 : Int), (0 : Int), (128 : Int), (254 : Int)])
                (some ((r1933.1 == bcseven_DecodeT283), ()))
                (some (false, ())))
              (some (false, ())))
            (some (false, ())))
          (some (false, ())))
        (some (false, ())))
      (some (false, ())))
    (some (false, ()))

def ref09_Mode_l0S (F : Nat) (rec : List Int → Int → Option ((Int × Unit) ⊕ Unit)) (x0 : List Int) (x1 : Int) : Option ((Int × Unit) ⊕ Unit) :=
  cond (decide (x1 < (8 : Int)))
    ((ref02_Field F x0 x1 (1 : Int)).bind fun r2052 =>
    cond (r2052.1 == (1 : Int))
      (some (.inl (x1, ())))
      (rec x0 (IntKind.wrap .i64 (x1 + (1 : Int)))))
    (some (.inr ()))

def ref09_Mode_l0 (F : Nat) : Nat → List Int → Int → Option ((Int × Unit) ⊕ Unit)
  | 0, _, _ => none
  | k + 1, x0, x1 => ref09_Mode_l0S F (ref09_Mode_l0 F k) x0 x1

/-- swatch/swatchref09.Mode -/
def ref09_Mode (F : Nat) (a0 : List Int) : Option (Int × Unit) :=
  cond ((((List.length a0) : Nat) : Int) != (16 : Int))
    (some ((8 : Int), ()))
    ((ref09_Mode_l0 F F a0 (0 : Int)).bind fun r2055 => match r2055 with
      | .inl r2055 => (some (r2055.1, ()))
      | .inr r2055 => (some ((8 : Int), ())))

/-- swatch/swatchref08.Modes -/
def ref08_Modes (F : Nat) : Option (List Int × Unit) :=
  some (bctable_ModesT298, ())

/-- (*swatch/swatchref09.taker).take -/
def ref09_taker_take (F : Nat) (a0 : List Int) (a1 : Int) (a2 : Int) : Option (Int × (List Int × (Int × Unit))) :=
  (ref02_Field F a0 a1 a2).bind fun r2081 =>
  some (r2081.1, (a0, ((IntKind.wrap .i64 (a1 + a2)), ())))

/-- swatch/swatchref09.mix -/
def ref09_mix (F : Nat) (a0 : Int) (a1 : Int) (a2 : Int) (a3 : Int) : Option (Int × Unit) :=
  (ref08_Weights F a3).bind fun r3032 =>
  let n3033 : Nat := (List.length r3032.1)
  cond ((decide ((0 : Int) ≤ a2)) && (decide (a2 < ((n3033 : Nat) : Int))))
    ((ref03_Mix F a0 a1 (List.getD r3032.1 (Int.toNat a2) (0 : Int)) (64 : Int) (32 : Int)).bind fun r3047 =>
    some (r3047.1, ()))
    (none)

def ref09_Decode_l2S (F : Nat) (rec : List Int → List Int → Int → Int → Int → Int → Int → Int → Int → Int → Int → Int → List Int → Int → Int → Int → Int → List Int → Int → Int → Int → Option (List Int × (List Int × (Int × (Int × (Int × (Int × (Int × (Int × (Int × (Int × (Int × (Int × (List Int × (Int × (Int × (Int × (Int × (List Int × (Int × Unit)))))))))))))))))))) (x0 : List Int) (x1 : List Int) (x2 : Int) (x3 : Int) (x4 : Int) (x5 : Int) (x6 : Int) (x7 : Int) (x8 : Int) (x9 : Int) (x10 : Int) (x11 : Int) (x12 : List Int) (x13 : Int) (x14 : Int) (x15 : Int) (x16 : Int) (x17 : List Int) (x18 : Int) (x19 : Int) (x20 : Int) : Option (List Int × (List Int × (Int × (Int × (Int × (Int × (Int × (Int × (Int × (Int × (Int × (Int × (List Int × (Int × (Int × (Int × (Int × (List Int × (Int × Unit))))))))))))))))))) :=
  let n4319 : Nat := ((List.length x17) / 4)
  let v4321 : Int := ((n4319 : Nat) : Int)
  cond (decide (x20 < v4321))
    (cond ((decide ((0 : Int) ≤ x20)) && (decide (x20 < ((n4319 : Nat) : Int))))
      ((ref09_taker_take F x12 x13 x19).bind fun r4325 =>
      cond ((decide ((0 : Int) ≤ x18)) && (decide (x18 < (4 : Int))))
        (rec x0 x1 x2 x3 x4 x5 x6 x7 x8 x9 x10 x11 r4325.2.1 r4325.2.2.1 x14 x15 x16 (List.set x17 (((Int.toNat x20) * 4) + (Int.toNat x18)) r4325.1) x18 x19 (IntKind.wrap .i64 (x20 + (1 : Int))))
        (none))
      (none))
    (some (x0, (x1, (x2, (x3, (x4, (x5, (x6, (x7, (x8, (x9, (x10, (x11, (x12, (x13, (x14, (x15, (x16, (x17, (x18, ()))))))))))))))))))))

def ref09_Decode_l2 (F : Nat) : Nat → List Int → List Int → Int → Int → Int → Int → Int → Int → Int → Int → Int → Int → List Int → Int → Int → Int → Int → List Int → Int → Int → Int → Option (List Int × (List Int × (Int × (Int × (Int × (Int × (Int × (Int × (Int × (Int × (Int × (Int × (List Int × (Int × (Int × (Int × (Int × (List Int × (Int × Unit)))))))))))))))))))
  | 0, _, _, _, _, _, _, _, _, _, _, _, _, _, _, _, _, _, _, _, _, _ => none
  | k + 1, x0, x1, x2, x3, x4, x5, x6, x7, x8, x9, x10, x11, x12, x13, x14, x15, x16, x17, x18, x19, x20 => ref09_Decode_l2S F (ref09_Decode_l2 F k) x0 x1 x2 x3 x4 x5 x6 x7 x8 x9 x10 x11 x12 x13 x14 x15 x16 x17 x18 x19 x20

def ref09_Decode_l0S (F : Nat) (rec : List Int → List Int → Int → Int → Int → Int → Int → Int → Int → Int → Int → Int → List Int → Int → Int → Int → Int → List Int → Int → Option (List Int × (List Int × (Int × (Int × (Int × (Int × (Int × (Int × (Int × (Int × (Int × (Int × (List Int × (Int × (Int × (Int × (Int × (List Int × Unit))))))))))))))))))) (x0 : List Int) (x1 : List Int) (x2 : Int) (x3 : Int) (x4 : Int) (x5 : Int) (x6 : Int) (x7 : Int) (x8 : Int) (x9 : Int) (x10 : Int) (x11 : Int) (x12 : List Int) (x13 : Int) (x14 : Int) (x15 : Int) (x16 : Int) (x17 : List Int) (x18 : Int) : Option (List Int × (List Int × (Int × (Int × (Int × (Int × (Int × (Int × (Int × (Int × (Int × (Int × (List Int × (Int × (Int × (Int × (Int × (List Int × Unit)))))))))))))))))) :=
  cond (decide (x18 < (4 : Int)))
    (cond (x18 == (3 : Int))
      ((ref09_Decode_l2 F F x0 x1 x2 x3 x4 x5 x6 x7 x8 x9 x10 x11 x12 x13 x14 x15 x16 x17 x18 x7 (0 : Int)).bind fun r4331 =>
      rec r4331.1 r4331.2.1 r4331.2.2.1 r4331.2.2.2.1 r4331.2.2.2.2.1 r4331.2.2.2.2.2.1 r4331.2.2.2.2.2.2.1 r4331.2.2.2.2.2.2.2.1 r4331.2.2.2.2.2.2.2.2.1 r4331.2.2.2.2.2.2.2.2.2.1 r4331.2.2.2.2.2.2.2.2.2.2.1 r4331.2.2.2.2.2.2.2.2.2.2.2.1 r4331.2.2.2.2.2.2.2.2.2.2.2.2.1 r4331.2.2.2.2.2.2.2.2.2.2.2.2.2.1 r4331.2.2.2.2.2.2.2.2.2.2.2.2.2.2.1 r4331.2.2.2.2.2.2.2.2.2.2.2.2.2.2.2.1 r4331.2.2.2.2.2.2.2.2.2.2.2.2.2.2.2.2.1 r4331.2.2.2.2.2.2.2.2.2.2.2.2.2.2.2.2.2.1 (IntKind.wrap .i64 (r4331.2.2.2.2.2.2.2.2.2.2.2.2.2.2.2.2.2.2.1 + (1 : Int))))
      ((ref09_Decode_l2 F F x0 x1 x2 x3 x4 x5 x6 x7 x8 x9 x10 x11 x12 x13 x14 x15 x16 x17 x18 x6 (0 : Int)).bind fun r4347 =>
      rec r4347.1 r4347.2.1 r4347.2.2.1 r4347.2.2.2.1 r4347.2.2.2.2.1 r4347.2.2.2.2.2.1 r4347.2.2.2.2.2.2.1 r4347.2.2.2.2.2.2.2.1 r4347.2.2.2.2.2.2.2.2.1 r4347.2.2.2.2.2.2.2.2.2.1 r4347.2.2.2.2.2.2.2.2.2.2.1 r4347.2.2.2.2.2.2.2.2.2.2.2.1 r4347.2.2.2.2.2.2.2.2.2.2.2.2.1 r4347.2.2.2.2.2.2.2.2.2.2.2.2.2.1 r4347.2.2.2.2.2.2.2.2.2.2.2.2.2.2.1 r4347.2.2.2.2.2.2.2.2.2.2.2.2.2.2.2.1 r4347.2.2.2.2.2.2.2.2.2.2.2.2.2.2.2.2.1 r4347.2.2.2.2.2.2.2.2.2.2.2.2.2.2.2.2.2.1 (IntKind.wrap .i64 (r4347.2.2.2.2.2.2.2.2.2.2.2.2.2.2.2.2.2.2.1 + (1 : Int)))))
    (some (x0, (x1, (x2, (x3, (x4, (x5, (x6, (x7, (x8, (x9, (x10, (x11, (x12, (x13, (x14, (x15, (x16, (x17, ())))))))))))))))))))

def ref09_Decode_l0 (F : Nat) : Nat → List Int → List Int → Int → Int → Int → Int → Int → Int → Int → Int → Int → Int → List Int → Int → Int → Int → Int → List Int → Int → Option (List Int × (List Int × (Int × (Int × (Int × (Int × (Int × (Int × (Int × (Int × (Int × (Int × (List Int × (Int × (Int × (Int × (Int × (List Int × Unit))))))))))))))))))
  | 0, _, _, _, _, _, _, _, _, _, _, _, _, _, _, _, _, _, _, _ => none
  | k + 1, x0, x1, x2, x3, x4, x5, x6, x7, x8, x9, x10, x11, x12, x13, x14, x15, x16, x17, x18 => ref09_Decode_l0S F (ref09_Decode_l0 F k) x0 x1 x2 x3 x4 x5 x6 x7 x8 x9 x10 x11 x12 x13 x14 x15 x16 x17 x18

def ref09_Decode_l6S (F : Nat) (rec : List Int → List Int → Int → Int → Int → Int → Int → Int → Int → Int → Int → Int → List Int → Int → Int → Int → Int → List Int → Int → Int → Int → Option (List Int × (List Int × (Int × (Int × (Int × (Int × (Int × (Int × (Int × (Int × (Int × (Int × (List Int × (Int × (Int × (Int × (Int × (List Int × (Int × Unit)))))))))))))))))))) (x0 : List Int) (x1 : List Int) (x2 : Int) (x3 : Int) (x4 : Int) (x5 : Int) (x6 : Int) (x7 : Int) (x8 : Int) (x9 : Int) (x10 : Int) (x11 : Int) (x12 : List Int) (x13 : Int) (x14 : Int) (x15 : Int) (x16 : Int) (x17 : List Int) (x18 : Int) (x19 : Int) (x20 : Int) : Option (List Int × (List Int × (Int × (Int × (Int × (Int × (Int × (Int × (Int × (Int × (Int × (Int × (List Int × (Int × (Int × (Int × (Int × (List Int × (Int × Unit))))))))))))))))))) :=
  let n4407 : Nat := ((List.length x17) / 4)
  cond (decide (x20 < (4 : Int)))
    (let b4410 : Bool := ((decide ((0 : Int) ≤ x18)) && (decide (x18 < ((n4407 : Nat) : Int))))
    cond b4410
      (let b4412 : Bool := ((decide ((0 : Int) ≤ x20)) && (decide (x20 < (4 : Int))))
      cond b4412
        (let n4413 : Nat := (((Int.toNat x18) * 4) + (Int.toNat x20))
        cond b4410
          (cond b4412
            (rec x0 x1 x2 x3 x4 x5 x6 x7 x8 x9 x10 x11 x12 x13 x14 x15 x16 (List.set x17 n4413 (IntKind.wrap .i64 ((IntKind.wrap .i64 ((2 : Int) * (List.getD x17 n4413 (0 : Int)))) + x19))) x18 x19 (IntKind.wrap .i64 (x20 + (1 : Int))))
            (none))
          (none))
        (none))
      (none))
    (some (x0, (x1, (x2, (x3, (x4, (x5, (x6, (x7, (x8, (x9, (x10, (x11, (x12, (x13, (x14, (x15, (x16, (x17, (x18, ()))))))))))))))))))))

def ref09_Decode_l6 (F : Nat) : Nat → List Int → List Int → Int → Int → Int → Int → Int → Int → Int → Int → Int → Int → List Int → Int → Int → Int → Int → List Int → Int → Int → Int → Option (List Int × (List Int × (Int × (Int × (Int × (Int × (Int × (Int × (Int × (Int × (Int × (Int × (List Int × (Int × (Int × (Int × (Int × (List Int × (Int × Unit)))))))))))))))))))
  | 0, _, _, _, _, _, _, _, _, _, _, _, _, _, _, _, _, _, _, _, _, _ => none
  | k + 1, x0, x1, x2, x3, x4, x5, x6, x7, x8, x9, x10, x11, x12, x13, x14, x15, x16, x17, x18, x19, x20 => ref09_Decode_l6S F (ref09_Decode_l6 F k) x0 x1 x2 x3 x4 x5 x6 x7 x8 x9 x10 x11 x12 x13 x14 x15 x16 x17 x18 x19 x20

def ref09_Decode_l4S (F : Nat) (rec : List Int → List Int → Int → Int → Int → Int → Int → Int → Int → Int → Int → Int → List Int → Int → Int → Int → Int → List Int → Int → Option (List Int × (List Int × (Int × (Int × (Int × (Int × (Int × (Int × (Int × (Int × (Int × (Int × (List Int × (Int × (Int × (Int × (Int × (List Int × Unit))))))))))))))))))) (x0 : List Int) (x1 : List Int) (x2 : Int) (x3 : Int) (x4 : Int) (x5 : Int) (x6 : Int) (x7 : Int) (x8 : Int) (x9 : Int) (x10 : Int) (x11 : Int) (x12 : List Int) (x13 : Int) (x14 : Int) (x15 : Int) (x16 : Int) (x17 : List Int) (x18 : Int) : Option (List Int × (List Int × (Int × (Int × (Int × (Int × (Int × (Int × (Int × (Int × (Int × (Int × (List Int × (Int × (Int × (Int × (Int × (List Int × Unit)))))))))))))))))) :=
  let v4391 : Int := ((((List.length x17) / 4) : Nat) : Int)
  cond (decide (x18 < v4391))
    ((ref09_taker_take F x12 x13 (1 : Int)).bind fun r4393 =>
    (ref09_Decode_l6 F F x0 x1 x2 x3 x4 x5 x6 x7 x8 x9 x10 x11 r4393.2.1 r4393.2.2.1 x14 x15 x16 x17 x18 r4393.1 (0 : Int)).bind fun r4419 =>
    rec r4419.1 r4419.2.1 r4419.2.2.1 r4419.2.2.2.1 r4419.2.2.2.2.1 r4419.2.2.2.2.2.1 r4419.2.2.2.2.2.2.1 r4419.2.2.2.2.2.2.2.1 r4419.2.2.2.2.2.2.2.2.1 r4419.2.2.2.2.2.2.2.2.2.1 r4419.2.2.2.2.2.2.2.2.2.2.1 r4419.2.2.2.2.2.2.2.2.2.2.2.1 r4419.2.2.2.2.2.2.2.2.2.2.2.2.1 r4419.2.2.2.2.2.2.2.2.2.2.2.2.2.1 r4419.2.2.2.2.2.2.2.2.2.2.2.2.2.2.1 r4419.2.2.2.2.2.2.2.2.2.2.2.2.2.2.2.1 r4419.2.2.2.2.2.2.2.2.2.2.2.2.2.2.2.2.1 r4419.2.2.2.2.2.2.2.2.2.2.2.2.2.2.2.2.2.1 (IntKind.wrap .i64 (r4419.2.2.2.2.2.2.2.2.2.2.2.2.2.2.2.2.2.2.1 + (1 : Int))))
    (some (x0, (x1, (x2, (x3, (x4, (x5, (x6, (x7, (x8, (x9, (x10, (x11, (x12, (x13, (x14, (x15, (x16, (x17, ())))))))))))))))))))

def ref09_Decode_l4 (F : Nat) : Nat → List Int → List Int → Int → Int → Int → Int → Int → Int → Int → Int → Int → Int → List Int → Int → Int → Int → Int → List Int → Int → Option (List Int × (List Int × (Int × (Int × (Int × (Int × (Int × (Int × (Int × (Int × (Int × (Int × (List Int × (Int × (Int × (Int × (Int × (List Int × Unit))))))))))))))))))
  | 0, _, _, _, _, _, _, _, _, _, _, _, _, _, _, _, _, _, _, _ => none
  | k + 1, x0, x1, x2, x3, x4, x5, x6, x7, x8, x9, x10, x11, x12, x13, x14, x15, x16, x17, x18 => ref09_Decode_l4S F (ref09_Decode_l4 F k) x0 x1 x2 x3 x4 x5 x6 x7 x8 x9 x10 x11 x12 x13 x14 x15 x16 x17 x18

def ref09_Decode_l10S (F : Nat) (rec : List Int → List Int → Int → Int → Int → Int → Int → Int → Int → Int → Int → Int → List Int → Int → Int → Int → Int → List Int → Int → Int → Int → Option (List Int × (List Int × (Int × (Int × (Int × (Int × (Int × (Int × (Int × (Int × (Int × (Int × (List Int × (Int × (Int × (Int × (Int × (List Int × (Int × Unit)))))))))))))))))))) (x0 : List Int) (x1 : List Int) (x2 : Int) (x3 : Int) (x4 : Int) (x5 : Int) (x6 : Int) (x7 : Int) (x8 : Int) (x9 : Int) (x10 : Int) (x11 : Int) (x12 : List Int) (x13 : Int) (x14 : Int) (x15 : Int) (x16 : Int) (x17 : List Int) (x18 : Int) (x19 : Int) (x20 : Int) : Option (List Int × (List Int × (Int × (Int × (Int × (Int × (Int × (Int × (Int × (Int × (Int × (Int × (List Int × (Int × (Int × (Int × (Int × (List Int × (Int × Unit))))))))))))))))))) :=
  let n4503 : Nat := ((List.length x17) / 4)
  cond (decide (x20 < (4 : Int)))
    (let b4506 : Bool := ((decide ((0 : Int) ≤ x18)) && (decide (x18 < ((n4503 : Nat) : Int))))
    cond b4506
      (let b4508 : Bool := ((decide ((0 : Int) ≤ x20)) && (decide (x20 < (4 : Int))))
      cond b4508
        (let n4509 : Nat := (((Int.toNat x18) * 4) + (Int.toNat x20))
        cond b4506
          (cond b4508
            (let l4513 : List Int := (List.set x17 n4509 (IntKind.wrap .i64 ((IntKind.wrap .i64 ((2 : Int) * (List.getD x17 n4509 (0 : Int)))) + x19)))
            let v4514 : Int := (IntKind.wrap .i64 (x18 + (1 : Int)))
            let b4515 : Bool := ((decide ((0 : Int) ≤ v4514)) && (decide (v4514 < ((n4503 : Nat) : Int))))
            cond b4515
              (cond b4508
                (let n4517 : Nat := (((Int.toNat v4514) * 4) + (Int.toNat x20))
                cond b4515
                  (cond b4508
                    (rec x0 x1 x2 x3 x4 x5 x6 x7 x8 x9 x10 x11 x12 x13 x14 x15 x16 (List.set l4513 n4517 (IntKind.wrap .i64 ((IntKind.wrap .i64 ((2 : Int) * (List.getD l4513 n4517 (0 : Int)))) + x19))) x18 x19 (IntKind.wrap .i64 (x20 + (1 : Int))))
                    (none))
                  (none))
                (none))
              (none))
            (none))
          (none))
        (none))
      (none))
    (some (x0, (x1, (x2, (x3, (x4, (x5, (x6, (x7, (x8, (x9, (x10, (x11, (x12, (x13, (x14, (x15, (x16, (x17, (x18, ()))))))))))))))))))))

def ref09_Decode_l10 (F : Nat) : Nat → List Int → List Int → Int → Int → Int → Int → Int → Int → Int → Int → Int → Int → List Int → Int → Int → Int → Int → List Int → Int → Int → Int → Option (List Int × (List Int × (Int × (Int × (Int × (Int × (Int × (Int × (Int × (Int × (Int × (Int × (List Int × (Int × (Int × (Int × (Int × (List Int × (Int × Unit)))))))))))))))))))
  | 0, _, _, _, _, _, _, _, _, _, _, _, _, _, _, _, _, _, _, _, _, _ => none
  | k + 1, x0, x1, x2, x3, x4, x5, x6, x7, x8, x9, x10, x11, x12, x13, x14, x15, x16, x17, x18, x19, x20 => ref09_Decode_l10S F (ref09_Decode_l10 F k) x0 x1 x2 x3 x4 x5 x6 x7 x8 x9 x10 x11 x12 x13 x14 x15 x16 x17 x18 x19 x20

def ref09_Decode_l8S (F : Nat) (rec : List Int → List Int → Int → Int → Int → Int → Int → Int → Int → Int → Int → Int → List Int → Int → Int → Int → Int → List Int → Int → Option (List Int × (List Int × (Int × (Int × (Int × (Int × (Int × (Int × (Int × (Int × (Int × (Int × (List Int × (Int × (Int × (Int × (Int × (List Int × Unit))))))))))))))))))) (x0 : List Int) (x1 : List Int) (x2 : Int) (x3 : Int) (x4 : Int) (x5 : Int) (x6 : Int) (x7 : Int) (x8 : Int) (x9 : Int) (x10 : Int) (x11 : Int) (x12 : List Int) (x13 : Int) (x14 : Int) (x15 : Int) (x16 : Int) (x17 : List Int) (x18 : Int) : Option (List Int × (List Int × (Int × (Int × (Int × (Int × (Int × (Int × (Int × (Int × (Int × (Int × (List Int × (Int × (Int × (Int × (Int × (List Int × Unit)))))))))))))))))) :=
  let v4479 : Int := ((((List.length x17) / 4) : Nat) : Int)
  cond (decide (x18 < v4479))
    ((ref09_taker_take F x12 x13 (1 : Int)).bind fun r4481 =>
    (ref09_Decode_l10 F F x0 x1 x2 x3 x4 x5 x6 x7 x8 x9 x10 x11 r4481.2.1 r4481.2.2.1 x14 x15 x16 x17 x18 r4481.1 (0 : Int)).bind fun r4523 =>
    rec r4523.1 r4523.2.1 r4523.2.2.1 r4523.2.2.2.1 r4523.2.2.2.2.1 r4523.2.2.2.2.2.1 r4523.2.2.2.2.2.2.1 r4523.2.2.2.2.2.2.2.1 r4523.2.2.2.2.2.2.2.2.1 r4523.2.2.2.2.2.2.2.2.2.1 r4523.2.2.2.2.2.2.2.2.2.2.1 r4523.2.2.2.2.2.2.2.2.2.2.2.1 r4523.2.2.2.2.2.2.2.2.2.2.2.2.1 r4523.2.2.2.2.2.2.2.2.2.2.2.2.2.1 r4523.2.2.2.2.2.2.2.2.2.2.2.2.2.2.1 r4523.2.2.2.2.2.2.2.2.2.2.2.2.2.2.2.1 r4523.2.2.2.2.2.2.2.2.2.2.2.2.2.2.2.2.1 r4523.2.2.2.2.2.2.2.2.2.2.2.2.2.2.2.2.2.1 (IntKind.wrap .i64 (r4523.2.2.2.2.2.2.2.2.2.2.2.2.2.2.2.2.2.2.1 + (2 : Int))))
    (some (x0, (x1, (x2, (x3, (x4, (x5, (x6, (x7, (x8, (x9, (x10, (x11, (x12, (x13, (x14, (x15, (x16, (x17, ())))))))))))))))))))

def ref09_Decode_l8 (F : Nat) : Nat → List Int → List Int → Int → Int → Int → Int → Int → Int → Int → Int → Int → Int → List Int → Int → Int → Int → Int → List Int → Int → Option (List Int × (List Int × (Int × (Int × (Int × (Int × (Int × (Int × (Int × (Int × (Int × (Int × (List Int × (Int × (Int × (Int × (Int × (List Int × Unit))))))))))))))))))
  | 0, _, _, _, _, _, _, _, _, _, _, _, _, _, _, _, _, _, _, _ => none
  | k + 1, x0, x1, x2, x3, x4, x5, x6, x7, x8, x9, x10, x11, x12, x13, x14, x15, x16, x17, x18 => ref09_Decode_l8S F (ref09_Decode_l8 F k) x0 x1 x2 x3 x4 x5 x6 x7 x8 x9 x10 x11 x12 x13 x14 x15 x16 x17 x18

def ref09_Decode_l14S (F : Nat) (rec : List Int → List Int → Int → Int → Int → Int → Int → Int → Int → Int → Int → Int → List Int → Int → Int → Int → Int → List Int → Int → Int → Int → Option (List Int × (List Int × (Int × (Int × (Int × (Int × (Int × (Int × (Int × (Int × (Int × (Int × (List Int × (Int × (Int × (Int × (Int × (List Int × (Int × (Int × Unit))))))))))))))))))))) (x0 : List Int) (x1 : List Int) (x2 : Int) (x3 : Int) (x4 : Int) (x5 : Int) (x6 : Int) (x7 : Int) (x8 : Int) (x9 : Int) (x10 : Int) (x11 : Int) (x12 : List Int) (x13 : Int) (x14 : Int) (x15 : Int) (x16 : Int) (x17 : List Int) (x18 : Int) (x19 : Int) (x20 : Int) : Option (List Int × (List Int × (Int × (Int × (Int × (Int × (Int × (Int × (Int × (Int × (Int × (Int × (List Int × (Int × (Int × (Int × (Int × (List Int × (Int × (Int × Unit)))))))))))))))))))) :=
  let n4591 : Nat := ((List.length x17) / 4)
  cond (decide (x20 < (3 : Int)))
    (let b4594 : Bool := ((decide ((0 : Int) ≤ x19)) && (decide (x19 < ((n4591 : Nat) : Int))))
    cond b4594
      (let b4596 : Bool := ((decide ((0 : Int) ≤ x20)) && (decide (x20 < (4 : Int))))
      cond b4596
        (let n4597 : Nat := (((Int.toNat x19) * 4) + (Int.toNat x20))
        (ref03_Wide F (List.getD x17 n4597 (0 : Int)) (IntKind.wrap .i64 (x6 + x18))).bind fun r4600 =>
        cond b4594
          (cond b4596
            (rec x0 x1 x2 x3 x4 x5 x6 x7 x8 x9 x10 x11 x12 x13 x14 x15 x16 (List.set x17 n4597 r4600.1) x18 x19 (IntKind.wrap .i64 (x20 + (1 : Int))))
            (none))
          (none))
        (none))
      (none))
    (some (x0, (x1, (x2, (x3, (x4, (x5, (x6, (x7, (x8, (x9, (x10, (x11, (x12, (x13, (x14, (x15, (x16, (x17, (x18, (x19, ())))))))))))))))))))))

def ref09_Decode_l14 (F : Nat) : Nat → List Int → List Int → Int → Int → Int → Int → Int → Int → Int → Int → Int → Int → List Int → Int → Int → Int → Int → List Int → Int → Int → Int → Option (List Int × (List Int × (Int × (Int × (Int × (Int × (Int × (Int × (Int × (Int × (Int × (Int × (List Int × (Int × (Int × (Int × (Int × (List Int × (Int × (Int × Unit))))))))))))))))))))
  | 0, _, _, _, _, _, _, _, _, _, _, _, _, _, _, _, _, _, _, _, _, _ => none
  | k + 1, x0, x1, x2, x3, x4, x5, x6, x7, x8, x9, x10, x11, x12, x13, x14, x15, x16, x17, x18, x19, x20 => ref09_Decode_l14S F (ref09_Decode_l14 F k) x0 x1 x2 x3 x4 x5 x6 x7 x8 x9 x10 x11 x12 x13 x14 x15 x16 x17 x18 x19 x20

def ref09_Decode_l12S (F : Nat) (rec : List Int → List Int → Int → Int → Int → Int → Int → Int → Int → Int → Int → Int → List Int → Int → Int → Int → Int → List Int → Int → Int → Option (List Int × (List Int × (Int × (Int × (Int × (Int × (Int × (Int × (Int × (Int × (Int × (Int × (List Int × (Int × (Int × (Int × (Int × (List Int × Unit))))))))))))))))))) (x0 : List Int) (x1 : List Int) (x2 : Int) (x3 : Int) (x4 : Int) (x5 : Int) (x6 : Int) (x7 : Int) (x8 : Int) (x9 : Int) (x10 : Int) (x11 : Int) (x12 : List Int) (x13 : Int) (x14 : Int) (x15 : Int) (x16 : Int) (x17 : List Int) (x18 : Int) (x19 : Int) : Option (List Int × (List Int × (Int × (Int × (Int × (Int × (Int × (Int × (Int × (Int × (Int × (Int × (List Int × (Int × (Int × (Int × (Int × (List Int × Unit)))))))))))))))))) :=
  let v4577 : Int := ((((List.length x17) / 4) : Nat) : Int)
  cond (decide (x19 < v4577))
    ((ref09_Decode_l14 F F x0 x1 x2 x3 x4 x5 x6 x7 x8 x9 x10 x11 x12 x13 x14 x15 x16 x17 x18 x19 (0 : Int)).bind fun r4603 =>
    let n4604 : Nat := ((List.length r4603.2.2.2.2.2.2.2.2.2.2.2.2.2.2.2.2.2.1) / 4)
    cond (r4603.2.2.2.2.2.2.2.1 == (0 : Int))
      (cond ((decide ((0 : Int) ≤ r4603.2.2.2.2.2.2.2.2.2.2.2.2.2.2.2.2.2.2.2.1)) && (decide (r4603.2.2.2.2.2.2.2.2.2.2.2.2.2.2.2.2.2.2.2.1 < ((n4604 : Nat) : Int))))
        (rec r4603.1 r4603.2.1 r4603.2.2.1 r4603.2.2.2.1 r4603.2.2.2.2.1 r4603.2.2.2.2.2.1 r4603.2.2.2.2.2.2.1 r4603.2.2.2.2.2.2.2.1 r4603.2.2.2.2.2.2.2.2.1 r4603.2.2.2.2.2.2.2.2.2.1 r4603.2.2.2.2.2.2.2.2.2.2.1 r4603.2.2.2.2.2.2.2.2.2.2.2.1 r4603.2.2.2.2.2.2.2.2.2.2.2.2.1 r4603.2.2.2.2.2.2.2.2.2.2.2.2.2.1 r4603.2.2.2.2.2.2.2.2.2.2.2.2.2.2.1 r4603.2.2.2.2.2.2.2.2.2.2.2.2.2.2.2.1 r4603.2.2.2.2.2.2.2.2.2.2.2.2.2.2.2.2.1 (List.set r4603.2.2.2.2.2.2.2.2.2.2.2.2.2.2.2.2.2.1 (3 + ((Int.toNat r4603.2.2.2.2.2.2.2.2.2.2.2.2.2.2.2.2.2.2.2.1) * 4)) (255 : Int)) r4603.2.2.2.2.2.2.2.2.2.2.2.2.2.2.2.2.2.2.1 (IntKind.wrap .i64 (r4603.2.2.2.2.2.2.2.2.2.2.2.2.2.2.2.2.2.2.2.1 + (1 : Int))))
        (none))
      (let b4612 : Bool := ((decide ((0 : Int) ≤ r4603.2.2.2.2.2.2.2.2.2.2.2.2.2.2.2.2.2.2.2.1)) && (decide (r4603.2.2.2.2.2.2.2.2.2.2.2.2.2.2.2.2.2.2.2.1 < ((n4604 : Nat) : Int))))
      cond b4612
        (let n4614 : Nat := (3 + ((Int.toNat r4603.2.2.2.2.2.2.2.2.2.2.2.2.2.2.2.2.2.2.2.1) * 4))
        (ref03_Wide F (List.getD r4603.2.2.2.2.2.2.2.2.2.2.2.2.2.2.2.2.2.1 n4614 (0 : Int)) (IntKind.wrap .i64 (r4603.2.2.2.2.2.2.2.1 + r4603.2.2.2.2.2.2.2.2.2.2.2.2.2.2.2.2.2.2.1))).bind fun r4617 =>
        cond b4612
          (rec r4603.1 r4603.2.1 r4603.2.2.1 r4603.2.2.2.1 r4603.2.2.2.2.1 r4603.2.2.2.2.2.1 r4603.2.2.2.2.2.2.1 r4603.2.2.2.2.2.2.2.1 r4603.2.2.2.2.2.2.2.2.1 r4603.2.2.2.2.2.2.2.2.2.1 r4603.2.2.2.2.2.2.2.2.2.2.1 r4603.2.2.2.2.2.2.2.2.2.2.2.1 r4603.2.2.2.2.2.2.2.2.2.2.2.2.1 r4603.2.2.2.2.2.2.2.2.2.2.2.2.2.1 r4603.2.2.2.2.2.2.2.2.2.2.2.2.2.2.1 r4603.2.2.2.2.2.2.2.2.2.2.2.2.2.2.2.1 r4603.2.2.2.2.2.2.2.2.2.2.2.2.2.2.2.2.1 (List.set r4603.2.2.2.2.2.2.2.2.2.2.2.2.2.2.2.2.2.1 n4614 r4617.1) r4603.2.2.2.2.2.2.2.2.2.2.2.2.2.2.2.2.2.2.1 (IntKind.wrap .i64 (r4603.2.2.2.2.2.2.2.2.2.2.2.2.2.2.2.2.2.2.2.1 + (1 : Int))))
          (none))
        (none)))
    (some (x0, (x1, (x2, (x3, (x4, (x5, (x6, (x7, (x8, (x9, (x10, (x11, (x12, (x13, (x14, (x15, (x16, (x17, ())))))))))))))))))))

def ref09_Decode_l12 (F : Nat) : Nat → List Int → List Int → Int → Int → Int → Int → Int → Int → Int → Int → Int → Int → List Int → Int → Int → Int → Int → List Int → Int → Int → Option (List Int × (List Int × (Int × (Int × (Int × (Int × (Int × (Int × (Int × (Int × (Int × (Int × (List Int × (Int × (Int × (Int × (Int × (List Int × Unit))))))))))))))))))
  | 0, _, _, _, _, _, _, _, _, _, _, _, _, _, _, _, _, _, _, _, _ => none
  | k + 1, x0, x1, x2, x3, x4, x5, x6, x7, x8, x9, x10, x11, x12, x13, x14, x15, x16, x17, x18, x19 => ref09_Decode_l12S F (ref09_Decode_l12 F k) x0 x1 x2 x3 x4 x5 x6 x7 x8 x9 x10 x11 x12 x13 x14 x15 x16 x17 x18 x19

def ref09_Decode_l18S (F : Nat) (rec : List Int → List Int → Int → Int → Int → Int → Int → Int → Int → Int → Int → Int → List Int → Int → Int → Int → Int → List Int → List Int → List Int → Int → Int → Int → Option (List Int × (List Int × (Int × (Int × (Int × (Int × (Int × (Int × (Int × (Int × (Int × (Int × (List Int × (Int × (Int × (Int × (Int × (List Int × (List Int × (List Int × (Int × (Int × Unit))))))))))))))))))))))) (x0 : List Int) (x1 : List Int) (x2 : Int) (x3 : Int) (x4 : Int) (x5 : Int) (x6 : Int) (x7 : Int) (x8 : Int) (x9 : Int) (x10 : Int) (x11 : Int) (x12 : List Int) (x13 : Int) (x14 : Int) (x15 : Int) (x16 : Int) (x17 : List Int) (x18 : List Int) (x19 : List Int) (x20 : Int) (x21 : Int) (x22 : Int) : Option (List Int × (List Int × (Int × (Int × (Int × (Int × (Int × (Int × (Int × (Int × (Int × (Int × (List Int × (Int × (Int × (Int × (Int × (List Int × (List Int × (List Int × (Int × (Int × Unit)))))))))))))))))))))) :=
  cond (decide (x22 < x2))
    ((ref08_Anchor F x2 x14 x22).bind fun r4682 =>
    cond (r4682.1 == x20)
      (rec x0 x1 x2 x3 x4 x5 x6 x7 x8 x9 x10 x11 x12 x13 x14 x15 x16 x17 x18 x19 x20 (1 : Int) (IntKind.wrap .i64 (x22 + (1 : Int))))
      (rec x0 x1 x2 x3 x4 x5 x6 x7 x8 x9 x10 x11 x12 x13 x14 x15 x16 x17 x18 x19 x20 x21 (IntKind.wrap .i64 (x22 + (1 : Int)))))
    (some (x0, (x1, (x2, (x3, (x4, (x5, (x6, (x7, (x8, (x9, (x10, (x11, (x12, (x13, (x14, (x15, (x16, (x17, (x18, (x19, (x20, (x21, ())))))))))))))))))))))))

def ref09_Decode_l18 (F : Nat) : Nat → List Int → List Int → Int → Int → Int → Int → Int → Int → Int → Int → Int → Int → List Int → Int → Int → Int → Int → List Int → List Int → List Int → Int → Int → Int → Option (List Int × (List Int × (Int × (Int × (Int × (Int × (Int × (Int × (Int × (Int × (Int × (Int × (List Int × (Int × (Int × (Int × (Int × (List Int × (List Int × (List Int × (Int × (Int × Unit))))))))))))))))))))))
  | 0, _, _, _, _, _, _, _, _, _, _, _, _, _, _, _, _, _, _, _, _, _, _, _ => none
  | k + 1, x0, x1, x2, x3, x4, x5, x6, x7, x8, x9, x10, x11, x12, x13, x14, x15, x16, x17, x18, x19, x20, x21, x22 => ref09_Decode_l18S F (ref09_Decode_l18 F k) x0 x1 x2 x3 x4 x5 x6 x7 x8 x9 x10 x11 x12 x13 x14 x15 x16 x17 x18 x19 x20 x21 x22

def ref09_Decode_l16S (F : Nat) (rec : List Int → List Int → Int → Int → Int → Int → Int → Int → Int → Int → Int → Int → List Int → Int → Int → Int → Int → List Int → List Int → List Int → Int → Option (List Int × (List Int × (Int × (Int × (Int × (Int × (Int × (Int × (Int × (Int × (Int × (Int × (List Int × (Int × (Int × (Int × (Int × (List Int × (List Int × (List Int × Unit))))))))))))))))))))) (x0 : List Int) (x1 : List Int) (x2 : Int) (x3 : Int) (x4 : Int) (x5 : Int) (x6 : Int) (x7 : Int) (x8 : Int) (x9 : Int) (x10 : Int) (x11 : Int) (x12 : List Int) (x13 : Int) (x14 : Int) (x15 : Int) (x16 : Int) (x17 : List Int) (x18 : List Int) (x19 : List Int) (x20 : Int) : Option (List Int × (List Int × (Int × (Int × (Int × (Int × (Int × (Int × (Int × (Int × (Int × (Int × (List Int × (Int × (Int × (Int × (Int × (List Int × (List Int × (List Int × Unit)))))))))))))))))))) :=
  cond (decide (x20 < (16 : Int)))
    (cond (x20 == (0 : Int))
      ((ref09_Decode_l18 F F x0 x1 x2 x3 x4 x5 x6 x7 x8 x9 x10 x11 x12 x13 x14 x15 x16 x17 x18 x19 x20 (1 : Int) (1 : Int)).bind fun r4686 =>
      (ref09_taker_take F r4686.2.2.2.2.2.2.2.2.2.2.2.2.1 r4686.2.2.2.2.2.2.2.2.2.2.2.2.2.1 (IntKind.wrap .i64 (r4686.2.2.2.2.2.2.2.2.2.2.1 - r4686.2.2.2.2.2.2.2.2.2.2.2.2.2.2.2.2.2.2.2.2.2.1))).bind fun r4690 =>
      cond ((decide ((0 : Int) ≤ r4686.2.2.2.2.2.2.2.2.2.2.2.2.2.2.2.2.2.2.2.2.1)) && (decide (r4686.2.2.2.2.2.2.2.2.2.2.2.2.2.2.2.2.2.2.2.2.1 < (16 : Int))))
        (rec r4686.1 r4686.2.1 r4686.2.2.1 r4686.2.2.2.1 r4686.2.2.2.2.1 r4686.2.2.2.2.2.1 r4686.2.2.2.2.2.2.1 r4686.2.2.2.2.2.2.2.1 r4686.2.2.2.2.2.2.2.2.1 r4686.2.2.2.2.2.2.2.2.2.1 r4686.2.2.2.2.2.2.2.2.2.2.1 r4686.2.2.2.2.2.2.2.2.2.2.2.1 r4690.2.1 r4690.2.2.1 r4686.2.2.2.2.2.2.2.2.2.2.2.2.2.2.1 r4686.2.2.2.2.2.2.2.2.2.2.2.2.2.2.2.1 r4686.2.2.2.2.2.2.2.2.2.2.2.2.2.2.2.2.1 r4686.2.2.2.2.2.2.2.2.2.2.2.2.2.2.2.2.2.1 (List.set r4686.2.2.2.2.2.2.2.2.2.2.2.2.2.2.2.2.2.2.1 (Int.toNat r4686.2.2.2.2.2.2.2.2.2.2.2.2.2.2.2.2.2.2.2.2.1) r4690.1) r4686.2.2.2.2.2.2.2.2.2.2.2.2.2.2.2.2.2.2.2.1 (IntKind.wrap .i64 (r4686.2.2.2.2.2.2.2.2.2.2.2.2.2.2.2.2.2.2.2.2.1 + (1 : Int))))
        (none))
      ((ref09_Decode_l18 F F x0 x1 x2 x3 x4 x5 x6 x7 x8 x9 x10 x11 x12 x13 x14 x15 x16 x17 x18 x19 x20 (0 : Int) (1 : Int)).bind fun r4703 =>
      (ref09_taker_take F r4703.2.2.2.2.2.2.2.2.2.2.2.2.1 r4703.2.2.2.2.2.2.2.2.2.2.2.2.2.1 (IntKind.wrap .i64 (r4703.2.2.2.2.2.2.2.2.2.2.1 - r4703.2.2.2.2.2.2.2.2.2.2.2.2.2.2.2.2.2.2.2.2.2.1))).bind fun r4707 =>
      cond ((decide ((0 : Int) ≤ r4703.2.2.2.2.2.2.2.2.2.2.2.2.2.2.2.2.2.2.2.2.1)) && (decide (r4703.2.2.2.2.2.2.2.2.2.2.2.2.2.2.2.2.2.2.2.2.1 < (16 : Int))))
        (rec r4703.1 r4703.2.1 r4703.2.2.1 r4703.2.2.2.1 r4703.2.2.2.2.1 r4703.2.2.2.2.2.1 r4703.2.2.2.2.2.2.1 r4703.2.2.2.2.2.2.2.1 r4703.2.2.2.2.2.2.2.2.1 r4703.2.2.2.2.2.2.2.2.2.1 r4703.2.2.2.2.2.2.2.2.2.2.1 r4703.2.2.2.2.2.2.2.2.2.2.2.1 r4707.2.1 r4707.2.2.1 r4703.2.2.2.2.2.2.2.2.2.2.2.2.2.2.1 r4703.2.2.2.2.2.2.2.2.2.2.2.2.2.2.2.1 r4703.2.2.2.2.2.2.2.2.2.2.2.2.2.2.2.2.1 r4703.2.2.2.2.2.2.2.2.2.2.2.2.2.2.2.2.2.1 (List.set r4703.2.2.2.2.2.2.2.2.2.2.2.2.2.2.2.2.2.2.1 (Int.toNat r4703.2.2.2.2.2.2.2.2.2.2.2.2.2.2.2.2.2.2.2.2.1) r4707.1) r4703.2.2.2.2.2.2.2.2.2.2.2.2.2.2.2.2.2.2.2.1 (IntKind.wrap .i64 (r4703.2.2.2.2.2.2.2.2.2.2.2.2.2.2.2.2.2.2.2.2.1 + (1 : Int))))
        (none)))
    (some (x0, (x1, (x2, (x3, (x4, (x5, (x6, (x7, (x8, (x9, (x10, (x11, (x12, (x13, (x14, (x15, (x16, (x17, (x18, (x19, ())))))))))))))))))))))

def ref09_Decode_l16 (F : Nat) : Nat → List Int → List Int → Int → Int → Int → Int → Int → Int → Int → Int → Int → Int → List Int → Int → Int → Int → Int → List Int → List Int → List Int → Int → Option (List Int × (List Int × (Int × (Int × (Int × (Int × (Int × (Int × (Int × (Int × (Int × (Int × (List Int × (Int × (Int × (Int × (Int × (List Int × (List Int × (List Int × Unit))))))))))))))))))))
  | 0, _, _, _, _, _, _, _, _, _, _, _, _, _, _, _, _, _, _, _, _, _ => none
  | k + 1, x0, x1, x2, x3, x4, x5, x6, x7, x8, x9, x10, x11, x12, x13, x14, x15, x16, x17, x18, x19, x20 => ref09_Decode_l16S F (ref09_Decode_l16 F k) x0 x1 x2 x3 x4 x5 x6 x7 x8 x9 x10 x11 x12 x13 x14 x15 x16 x17 x18 x19 x20

def ref09_Decode_l20S (F : Nat) (rec : List Int → List Int → Int → Int → Int → Int → Int → Int → Int → Int → Int → Int → List Int → Int → Int → Int → Int → List Int → List Int → List Int → Int → Option (List Int × (List Int × (Int × (Int × (Int × (Int × (Int × (Int × (Int × (Int × (Int × (Int × (Int × (Int × (Int × (List Int × (List Int × (List Int × Unit))))))))))))))))))) (x0 : List Int) (x1 : List Int) (x2 : Int) (x3 : Int) (x4 : Int) (x5 : Int) (x6 : Int) (x7 : Int) (x8 : Int) (x9 : Int) (x10 : Int) (x11 : Int) (x12 : List Int) (x13 : Int) (x14 : Int) (x15 : Int) (x16 : Int) (x17 : List Int) (x18 : List Int) (x19 : List Int) (x20 : Int) : Option (List Int × (List Int × (Int × (Int × (Int × (Int × (Int × (Int × (Int × (Int × (Int × (Int × (Int × (Int × (Int × (List Int × (List Int × (List Int × Unit)))))))))))))))))) :=
  cond (decide (x20 < (16 : Int)))
    (cond (decide ((0 : Int) < x11))
      (cond (x20 == (0 : Int))
        ((ref09_taker_take F x12 x13 (IntKind.wrap .i64 (x11 - (1 : Int)))).bind fun r4741 =>
        cond ((decide ((0 : Int) ≤ x20)) && (decide (x20 < (16 : Int))))
          (rec x0 x1 x2 x3 x4 x5 x6 x7 x8 x9 x10 x11 r4741.2.1 r4741.2.2.1 x14 x15 x16 x17 x18 (List.set x19 (Int.toNat x20) r4741.1) (IntKind.wrap .i64 (x20 + (1 : Int))))
          (none))
        ((ref09_taker_take F x12 x13 (IntKind.wrap .i64 (x11 - (0 : Int)))).bind fun r4748 =>
        cond ((decide ((0 : Int) ≤ x20)) && (decide (x20 < (16 : Int))))
          (rec x0 x1 x2 x3 x4 x5 x6 x7 x8 x9 x10 x11 r4748.2.1 r4748.2.2.1 x14 x15 x16 x17 x18 (List.set x19 (Int.toNat x20) r4748.1) (IntKind.wrap .i64 (x20 + (1 : Int))))
          (none)))
      (some (x0, (x1, (x2, (x3, (x4, (x5, (x6, (x7, (x8, (x9, (x10, (x11, (x14, (x15, (x16, (x17, (x18, (x19, ()))))))))))))))))))))
    (some (x0, (x1, (x2, (x3, (x4, (x5, (x6, (x7, (x8, (x9, (x10, (x11, (x14, (x15, (x16, (x17, (x18, (x19, ())))))))))))))))))))

def ref09_Decode_l20 (F : Nat) : Nat → List Int → List Int → Int → Int → Int → Int → Int → Int → Int → Int → Int → Int → List Int → Int → Int → Int → Int → List Int → List Int → List Int → Int → Option (List Int × (List Int × (Int × (Int × (Int × (Int × (Int × (Int × (Int × (Int × (Int × (Int × (Int × (Int × (Int × (List Int × (List Int × (List Int × Unit))))))))))))))))))
  | 0, _, _, _, _, _, _, _, _, _, _, _, _, _, _, _, _, _, _, _, _, _ => none
  | k + 1, x0, x1, x2, x3, x4, x5, x6, x7, x8, x9, x10, x11, x12, x13, x14, x15, x16, x17, x18, x19, x20 => ref09_Decode_l20S F (ref09_Decode_l20 F k) x0 x1 x2 x3 x4 x5 x6 x7 x8 x9 x10 x11 x12 x13 x14 x15 x16 x17 x18 x19 x20

def ref09_Decode_l24S (F : Nat) (rec : List Int → List Int → Int → Int → Int → Int → Int → Int → Int → Int → Int → Int → Int → Int → Int → List Int → List Int → List Int → Int → List Int → List Int → Int → Int → Int → Int → Int → Option (List Int × (List Int × (Int × (Int × (Int × (Int × (Int × (Int × (Int × (Int × (Int × (Int × (Int × (Int × (Int × (List Int × (List Int × (List Int × (Int × (List Int × (List Int × (Int × (Int × Unit)))))))))))))))))))))))) (x0 : List Int) (x1 : List Int) (x2 : Int) (x3 : Int) (x4 : Int) (x5 : Int) (x6 : Int) (x7 : Int) (x8 : Int) (x9 : Int) (x10 : Int) (x11 : Int) (x12 : Int) (x13 : Int) (x14 : Int) (x15 : List Int) (x16 : List Int) (x17 : List Int) (x18 : Int) (x19 : List Int) (x20 : List Int) (x21 : Int) (x22 : Int) (x23 : Int) (x24 : Int) (x25 : Int) : Option (List Int × (List Int × (Int × (Int × (Int × (Int × (Int × (Int × (Int × (Int × (Int × (Int × (Int × (Int × (Int × (List Int × (List Int × (List Int × (Int × (List Int × (List Int × (Int × (Int × Unit))))))))))))))))))))))) :=
  cond (decide (x25 < (3 : Int)))
    (let b4942 : Bool := ((decide ((0 : Int) ≤ x25)) && (decide (x25 < (4 : Int))))
    cond b4942
      (cond b4942
        ((ref09_mix F (List.getD x19 (Int.toNat x25) (0 : Int)) (List.getD x20 (Int.toNat x25) (0 : Int)) x21 x22).bind fun r4946 =>
        cond ((decide ((0 : Int) ≤ x18)) && (decide (x18 < (16 : Int))))
          (cond b4942
            (rec x0 (List.set x1 (((Int.toNat x18) * 4) + (Int.toNat x25)) r4946.1) x2 x3 x4 x5 x6 x7 x8 x9 x10 x11 x12 x13 x14 x15 x16 x17 x18 x19 x20 x21 x22 x23 x24 (IntKind.wrap .i64 (x25 + (1 : Int))))
            (none))
          (none))
        (none))
      (none))
    (some (x0, (x1, (x2, (x3, (x4, (x5, (x6, (x7, (x8, (x9, (x10, (x11, (x12, (x13, (x14, (x15, (x16, (x17, (x18, (x19, (x20, (x23, (x24, ()))))))))))))))))))))))))

def ref09_Decode_l24 (F : Nat) : Nat → List Int → List Int → Int → Int → Int → Int → Int → Int → Int → Int → Int → Int → Int → Int → Int → List Int → List Int → List Int → Int → List Int → List Int → Int → Int → Int → Int → Int → Option (List Int × (List Int × (Int × (Int × (Int × (Int × (Int × (Int × (Int × (Int × (Int × (Int × (Int × (Int × (Int × (List Int × (List Int × (List Int × (Int × (List Int × (List Int × (Int × (Int × Unit)))))))))))))))))))))))
  | 0, _, _, _, _, _, _, _, _, _, _, _, _, _, _, _, _, _, _, _, _, _, _, _, _, _, _ => none
  | k + 1, x0, x1, x2, x3, x4, x5, x6, x7, x8, x9, x10, x11, x12, x13, x14, x15, x16, x17, x18, x19, x20, x21, x22, x23, x24, x25 => ref09_Decode_l24S F (ref09_Decode_l24 F k) x0 x1 x2 x3 x4 x5 x6 x7 x8 x9 x10 x11 x12 x13 x14 x15 x16 x17 x18 x19 x20 x21 x22 x23 x24 x25

def ref09_Decode_l22S (F : Nat) (rec : List Int → List Int → Int → Int → Int → Int → Int → Int → Int → Int → Int → Int → Int → Int → Int → List Int → List Int → List Int → Int → Option (List Int × (List Int × Unit))) (x0 : List Int) (x1 : List Int) (x2 : Int) (x3 : Int) (x4 : Int) (x5 : Int) (x6 : Int) (x7 : Int) (x8 : Int) (x9 : Int) (x10 : Int) (x11 : Int) (x12 : Int) (x13 : Int) (x14 : Int) (x15 : List Int) (x16 : List Int) (x17 : List Int) (x18 : Int) : Option (List Int × (List Int × Unit)) :=
  let n4911 : Nat := ((List.length x15) / 4)
  cond (decide (x18 < (16 : Int)))
    ((ref08_Part F x2 x12 x18).bind fun r4913 =>
    let v4914 : Int := (IntKind.wrap .i64 ((2 : Int) * r4913.1))
    cond ((decide ((0 : Int) ≤ v4914)) && (decide (v4914 < ((n4911 : Nat) : Int))))
      (let l4917 : List Int := (List.take 4 (List.drop ((Int.toNat v4914) * 4) x15))
      let v4918 : Int := (IntKind.wrap .i64 (v4914 + (1 : Int)))
      cond ((decide ((0 : Int) ≤ v4918)) && (decide (v4918 < ((n4911 : Nat) : Int))))
        (let l4921 : List Int := (List.take 4 (List.drop ((Int.toNat v4918) * 4) x15))
        let b4922 : Bool := ((decide ((0 : Int) ≤ x18)) && (decide (x18 < (16 : Int))))
        cond b4922
          (let v4924 : Int := (List.getD x16 (Int.toNat x18) (0 : Int))
          cond b4922
            (cond (decide ((0 : Int) < x11))
              (cond b4922
                (let v4926 : Int := (List.getD x17 (Int.toNat x18) (0 : Int))
                cond (x14 == (1 : Int))
                  (cond b4922
                    (cond b4922
                      ((ref09_Decode_l24 F F x0 x1 x2 x3 x4 x5 x6 x7 x8 x9 x10 x11 x12 x13 x14 x15 x16 x17 x18 l4917 l4921 v4926 x11 v4924 x10 (0 : Int)).bind fun r4952 =>
                      (ref09_mix F (List.getD r4952.2.2.2.2.2.2.2.2.2.2.2.2.2.2.2.2.2.2.2.1 3 (0 : Int)) (List.getD r4952.2.2.2.2.2.2.2.2.2.2.2.2.2.2.2.2.2.2.2.2.1 3 (0 : Int)) r4952.2.2.2.2.2.2.2.2.2.2.2.2.2.2.2.2.2.2.2.2.2.1 r4952.2.2.2.2.2.2.2.2.2.2.2.2.2.2.2.2.2.2.2.2.2.2.1).bind fun r4956 =>
                      let b4957 : Bool := ((decide ((0 : Int) ≤ r4952.2.2.2.2.2.2.2.2.2.2.2.2.2.2.2.2.2.2.1)) && (decide (r4952.2.2.2.2.2.2.2.2.2.2.2.2.2.2.2.2.2.2.1 < (16 : Int))))
                      cond b4957
                        (let n4958 : Nat := ((Int.toNat r4952.2.2.2.2.2.2.2.2.2.2.2.2.2.2.2.2.2.2.1) * 4)
                        let n4959 : Nat := (3 + n4958)
                        let l4960 : List Int := (List.set r4952.2.1 n4959 r4956.1)
                        cond (decide ((0 : Int) < r4952.2.2.2.2.2.2.2.2.2.2.2.2.2.1))
                          (cond b4957
                            (let v4963 : Int := (IntKind.wrap .i64 (r4952.2.2.2.2.2.2.2.2.2.2.2.2.2.1 - (1 : Int)))
                            cond b4957
                              (let b4964 : Bool := ((decide ((0 : Int) ≤ v4963)) && (decide (v4963 < (4 : Int))))
                              cond b4964
                                (let n4965 : Nat := (n4958 + (Int.toNat v4963))
                                cond b4957
                                  (cond b4957
                                    (cond b4964
                                      (rec r4952.1 (List.set (List.set l4960 n4959 (List.getD l4960 n4965 (0 : Int))) n4965 (List.getD l4960 n4959 (0 : Int))) r4952.2.2.1 r4952.2.2.2.1 r4952.2.2.2.2.1 r4952.2.2.2.2.2.1 r4952.2.2.2.2.2.2.1 r4952.2.2.2.2.2.2.2.1 r4952.2.2.2.2.2.2.2.2.1 r4952.2.2.2.2.2.2.2.2.2.1 r4952.2.2.2.2.2.2.2.2.2.2.1 r4952.2.2.2.2.2.2.2.2.2.2.2.1 r4952.2.2.2.2.2.2.2.2.2.2.2.2.1 r4952.2.2.2.2.2.2.2.2.2.2.2.2.2.1 r4952.2.2.2.2.2.2.2.2.2.2.2.2.2.2.1 r4952.2.2.2.2.2.2.2.2.2.2.2.2.2.2.2.1 r4952.2.2.2.2.2.2.2.2.2.2.2.2.2.2.2.2.1 r4952.2.2.2.2.2.2.2.2.2.2.2.2.2.2.2.2.2.1 (IntKind.wrap .i64 (r4952.2.2.2.2.2.2.2.2.2.2.2.2.2.2.2.2.2.2.1 + (1 : Int))))
                                      (none))
                                    (none))
                                  (none))
                                (none))
                              (none))
                            (none))
                          (rec r4952.1 l4960 r4952.2.2.1 r4952.2.2.2.1 r4952.2.2.2.2.1 r4952.2.2.2.2.2.1 r4952.2.2.2.2.2.2.1 r4952.2.2.2.2.2.2.2.1 r4952.2.2.2.2.2.2.2.2.1 r4952.2.2.2.2.2.2.2.2.2.1 r4952.2.2.2.2.2.2.2.2.2.2.1 r4952.2.2.2.2.2.2.2.2.2.2.2.1 r4952.2.2.2.2.2.2.2.2.2.2.2.2.1 r4952.2.2.2.2.2.2.2.2.2.2.2.2.2.1 r4952.2.2.2.2.2.2.2.2.2.2.2.2.2.2.1 r4952.2.2.2.2.2.2.2.2.2.2.2.2.2.2.2.1 r4952.2.2.2.2.2.2.2.2.2.2.2.2.2.2.2.2.1 r4952.2.2.2.2.2.2.2.2.2.2.2.2.2.2.2.2.2.1 (IntKind.wrap .i64 (r4952.2.2.2.2.2.2.2.2.2.2.2.2.2.2.2.2.2.2.1 + (1 : Int)))))
                        (none))
                      (none))
                    (none))
                  ((ref09_Decode_l24 F F x0 x1 x2 x3 x4 x5 x6 x7 x8 x9 x10 x11 x12 x13 x14 x15 x16 x17 x18 l4917 l4921 v4924 x10 v4926 x11 (0 : Int)).bind fun r4983 =>
                  (ref09_mix F (List.getD r4983.2.2.2.2.2.2.2.2.2.2.2.2.2.2.2.2.2.2.2.1 3 (0 : Int)) (List.getD r4983.2.2.2.2.2.2.2.2.2.2.2.2.2.2.2.2.2.2.2.2.1 3 (0 : Int)) r4983.2.2.2.2.2.2.2.2.2.2.2.2.2.2.2.2.2.2.2.2.2.1 r4983.2.2.2.2.2.2.2.2.2.2.2.2.2.2.2.2.2.2.2.2.2.2.1).bind fun r4987 =>
                  let b4988 : Bool := ((decide ((0 : Int) ≤ r4983.2.2.2.2.2.2.2.2.2.2.2.2.2.2.2.2.2.2.1)) && (decide (r4983.2.2.2.2.2.2.2.2.2.2.2.2.2.2.2.2.2.2.1 < (16 : Int))))
                  cond b4988
                    (let n4989 : Nat := ((Int.toNat r4983.2.2.2.2.2.2.2.2.2.2.2.2.2.2.2.2.2.2.1) * 4)
                    let n4990 : Nat := (3 + n4989)
                    let l4991 : List Int := (List.set r4983.2.1 n4990 r4987.1)
                    cond (decide ((0 : Int) < r4983.2.2.2.2.2.2.2.2.2.2.2.2.2.1))
                      (cond b4988
                        (let v4994 : Int := (IntKind.wrap .i64 (r4983.2.2.2.2.2.2.2.2.2.2.2.2.2.1 - (1 : Int)))
                        cond b4988
                          (let b4995 : Bool := ((decide ((0 : Int) ≤ v4994)) && (decide (v4994 < (4 : Int))))
                          cond b4995
                            (let n4996 : Nat := (n4989 + (Int.toNat v4994))
                            cond b4988
                              (cond b4988
                                (cond b4995
                                  (rec r4983.1 (List.set (List.set l4991 n4990 (List.getD l4991 n4996 (0 : Int))) n4996 (List.getD l4991 n4990 (0 : Int))) r4983.2.2.1 r4983.2.2.2.1 r4983.2.2.2.2.1 r4983.2.2.2.2.2.1 r4983.2.2.2.2.2.2.1 r4983.2.2.2.2.2.2.2.1 r4983.2.2.2.2.2.2.2.2.1 r4983.2.2.2.2.2.2.2.2.2.1 r4983.2.2.2.2.2.2.2.2.2.2.1 r4983.2.2.2.2.2.2.2.2.2.2.2.1 r4983.2.2.2.2.2.2.2.2.2.2.2.2.1 r4983.2.2.2.2.2.2.2.2.2.2.2.2.2.1 r4983.2.2.2.2.2.2.2.2.2.2.2.2.2.2.1 r4983.2.2.2.2.2.2.2.2.2.2.2.2.2.2.2.1 r4983.2.2.2.2.2.2.2.2.2.2.2.2.2.2.2.2.1 r4983.2.2.2.2.2.2.2.2.2.2.2.2.2.2.2.2.2.1 (IntKind.wrap .i64 (r4983.2.2.2.2.2.2.2.2.2.2.2.2.2.2.2.2.2.2.1 + (1 : Int))))
                                  (none))
                                (none))
                              (none))
                            (none))
                          (none))
                        (none))
                      (rec r4983.1 l4991 r4983.2.2.1 r4983.2.2.2.1 r4983.2.2.2.2.1 r4983.2.2.2.2.2.1 r4983.2.2.2.2.2.2.1 r4983.2.2.2.2.2.2.2.1 r4983.2.2.2.2.2.2.2.2.1 r4983.2.2.2.2.2.2.2.2.2.1 r4983.2.2.2.2.2.2.2.2.2.2.1 r4983.2.2.2.2.2.2.2.2.2.2.2.1 r4983.2.2.2.2.2.2.2.2.2.2.2.2.1 r4983.2.2.2.2.2.2.2.2.2.2.2.2.2.1 r4983.2.2.2.2.2.2.2.2.2.2.2.2.2.2.1 r4983.2.2.2.2.2.2.2.2.2.2.2.2.2.2.2.1 r4983.2.2.2.2.2.2.2.2.2.2.2.2.2.2.2.2.1 r4983.2.2.2.2.2.2.2.2.2.2.2.2.2.2.2.2.2.1 (IntKind.wrap .i64 (r4983.2.2.2.2.2.2.2.2.2.2.2.2.2.2.2.2.2.2.1 + (1 : Int)))))
                    (none)))
                (none))
              (cond (x14 == (1 : Int))
                (cond b4922
                  (cond b4922
                    ((ref09_Decode_l24 F F x0 x1 x2 x3 x4 x5 x6 x7 x8 x9 x10 x11 x12 x13 x14 x15 x16 x17 x18 l4917 l4921 (List.getD x17 (Int.toNat x18) (0 : Int)) x11 v4924 x10 (0 : Int)).bind fun r5016 =>
                    (ref09_mix F (List.getD r5016.2.2.2.2.2.2.2.2.2.2.2.2.2.2.2.2.2.2.2.1 3 (0 : Int)) (List.getD r5016.2.2.2.2.2.2.2.2.2.2.2.2.2.2.2.2.2.2.2.2.1 3 (0 : Int)) r5016.2.2.2.2.2.2.2.2.2.2.2.2.2.2.2.2.2.2.2.2.2.1 r5016.2.2.2.2.2.2.2.2.2.2.2.2.2.2.2.2.2.2.2.2.2.2.1).bind fun r5020 =>
                    let b5021 : Bool := ((decide ((0 : Int) ≤ r5016.2.2.2.2.2.2.2.2.2.2.2.2.2.2.2.2.2.2.1)) && (decide (r5016.2.2.2.2.2.2.2.2.2.2.2.2.2.2.2.2.2.2.1 < (16 : Int))))
                    cond b5021
                      (let n5022 : Nat := ((Int.toNat r5016.2.2.2.2.2.2.2.2.2.2.2.2.2.2.2.2.2.2.1) * 4)
                      let n5023 : Nat := (3 + n5022)
                      let l5024 : List Int := (List.set r5016.2.1 n5023 r5020.1)
                      cond (decide ((0 : Int) < r5016.2.2.2.2.2.2.2.2.2.2.2.2.2.1))
                        (cond b5021
                          (let v5027 : Int := (IntKind.wrap .i64 (r5016.2.2.2.2.2.2.2.2.2.2.2.2.2.1 - (1 : Int)))
                          cond b5021
                            (let b5028 : Bool := ((decide ((0 : Int) ≤ v5027)) && (decide (v5027 < (4 : Int))))
                            cond b5028
                              (let n5029 : Nat := (n5022 + (Int.toNat v5027))
                              cond b5021
                                (cond b5021
                                  (cond b5028
                                    (rec r5016.1 (List.set (List.set l5024 n5023 (List.getD l5024 n5029 (0 : Int))) n5029 (List.getD l5024 n5023 (0 : Int))) r5016.2.2.1 r5016.2.2.2.1 r5016.2.2.2.2.1 r5016.2.2.2.2.2.1 r5016.2.2.2.2.2.2.1 r5016.2.2.2.2.2.2.2.1 r5016.2.2.2.2.2.2.2.2.1 r5016.2.2.2.2.2.2.2.2.2.1 r5016.2.2.2.2.2.2.2.2.2.2.1 r5016.2.2.2.2.2.2.2.2.2.2.2.1 r5016.2.2.2.2.2.2.2.2.2.2.2.2.1 r5016.2.2.2.2.2.2.2.2.2.2.2.2.2.1 r5016.2.2.2.2.2.2.2.2.2.2.2.2.2.2.1 r5016.2.2.2.2.2.2.2.2.2.2.2.2.2.2.2.1 r5016.2.2.2.2.2.2.2.2.2.2.2.2.2.2.2.2.1 r5016.2.2.2.2.2.2.2.2.2.2.2.2.2.2.2.2.2.1 (IntKind.wrap .i64 (r5016.2.2.2.2.2.2.2.2.2.2.2.2.2.2.2.2.2.2.1 + (1 : Int))))
                                    (none))
                                  (none))
                                (none))
                              (none))
                            (none))
                          (none))
                        (rec r5016.1 l5024 r5016.2.2.1 r5016.2.2.2.1 r5016.2.2.2.2.1 r5016.2.2.2.2.2.1 r5016.2.2.2.2.2.2.1 r5016.2.2.2.2.2.2.2.1 r5016.2.2.2.2.2.2.2.2.1 r5016.2.2.2.2.2.2.2.2.2.1 r5016.2.2.2.2.2.2.2.2.2.2.1 r5016.2.2.2.2.2.2.2.2.2.2.2.1 r5016.2.2.2.2.2.2.2.2.2.2.2.2.1 r5016.2.2.2.2.2.2.2.2.2.2.2.2.2.1 r5016.2.2.2.2.2.2.2.2.2.2.2.2.2.2.1 r5016.2.2.2.2.2.2.2.2.2.2.2.2.2.2.2.1 r5016.2.2.2.2.2.2.2.2.2.2.2.2.2.2.2.2.1 r5016.2.2.2.2.2.2.2.2.2.2.2.2.2.2.2.2.2.1 (IntKind.wrap .i64 (r5016.2.2.2.2.2.2.2.2.2.2.2.2.2.2.2.2.2.2.1 + (1 : Int)))))
                      (none))
                    (none))
                  (none))
                ((ref09_Decode_l24 F F x0 x1 x2 x3 x4 x5 x6 x7 x8 x9 x10 x11 x12 x13 x14 x15 x16 x17 x18 l4917 l4921 v4924 x10 v4924 x10 (0 : Int)).bind fun r5047 =>
                (ref09_mix F (List.getD r5047.2.2.2.2.2.2.2.2.2.2.2.2.2.2.2.2.2.2.2.1 3 (0 : Int)) (List.getD r5047.2.2.2.2.2.2.2.2.2.2.2.2.2.2.2.2.2.2.2.2.1 3 (0 : Int)) r5047.2.2.2.2.2.2.2.2.2.2.2.2.2.2.2.2.2.2.2.2.2.1 r5047.2.2.2.2.2.2.2.2.2.2.2.2.2.2.2.2.2.2.2.2.2.2.1).bind fun r5051 =>
                let b5052 : Bool := ((decide ((0 : Int) ≤ r5047.2.2.2.2.2.2.2.2.2.2.2.2.2.2.2.2.2.2.1)) && (decide (r5047.2.2.2.2.2.2.2.2.2.2.2.2.2.2.2.2.2.2.1 < (16 : Int))))
                cond b5052
                  (let n5053 : Nat := ((Int.toNat r5047.2.2.2.2.2.2.2.2.2.2.2.2.2.2.2.2.2.2.1) * 4)
                  let n5054 : Nat := (3 + n5053)
                  let l5055 : List Int := (List.set r5047.2.1 n5054 r5051.1)
                  cond (decide ((0 : Int) < r5047.2.2.2.2.2.2.2.2.2.2.2.2.2.1))
                    (cond b5052
                      (let v5058 : Int := (IntKind.wrap .i64 (r5047.2.2.2.2.2.2.2.2.2.2.2.2.2.1 - (1 : Int)))
                      cond b5052
                        (let b5059 : Bool := ((decide ((0 : Int) ≤ v5058)) && (decide (v5058 < (4 : Int))))
                        cond b5059
                          (let n5060 : Nat := (n5053 + (Int.toNat v5058))
                          cond b5052
                            (cond b5052
                              (cond b5059
                                (rec r5047.1 (List.set (List.set l5055 n5054 (List.getD l5055 n5060 (0 : Int))) n5060 (List.getD l5055 n5054 (0 : Int))) r5047.2.2.1 r5047.2.2.2.1 r5047.2.2.2.2.1 r5047.2.2.2.2.2.1 r5047.2.2.2.2.2.2.1 r5047.2.2.2.2.2.2.2.1 r5047.2.2.2.2.2.2.2.2.1 r5047.2.2.2.2.2.2.2.2.2.1 r5047.2.2.2.2.2.2.2.2.2.2.1 r5047.2.2.2.2.2.2.2.2.2.2.2.1 r5047.2.2.2.2.2.2.2.2.2.2.2.2.1 r5047.2.2.2.2.2.2.2.2.2.2.2.2.2.1 r5047.2.2.2.2.2.2.2.2.2.2.2.2.2.2.1 r5047.2.2.2.2.2.2.2.2.2.2.2.2.2.2.2.1 r5047.2.2.2.2.2.2.2.2.2.2.2.2.2.2.2.2.1 r5047.2.2.2.2.2.2.2.2.2.2.2.2.2.2.2.2.2.1 (IntKind.wrap .i64 (r5047.2.2.2.2.2.2.2.2.2.2.2.2.2.2.2.2.2.2.1 + (1 : Int))))
                                (none))
                              (none))
                            (none))
                          (none))
                        (none))
                      (none))
                    (rec r5047.1 l5055 r5047.2.2.1 r5047.2.2.2.1 r5047.2.2.2.2.1 r5047.2.2.2.2.2.1 r5047.2.2.2.2.2.2.1 r5047.2.2.2.2.2.2.2.1 r5047.2.2.2.2.2.2.2.2.1 r5047.2.2.2.2.2.2.2.2.2.1 r5047.2.2.2.2.2.2.2.2.2.2.1 r5047.2.2.2.2.2.2.2.2.2.2.2.1 r5047.2.2.2.2.2.2.2.2.2.2.2.2.1 r5047.2.2.2.2.2.2.2.2.2.2.2.2.2.1 r5047.2.2.2.2.2.2.2.2.2.2.2.2.2.2.1 r5047.2.2.2.2.2.2.2.2.2.2.2.2.2.2.2.1 r5047.2.2.2.2.2.2.2.2.2.2.2.2.2.2.2.2.1 r5047.2.2.2.2.2.2.2.2.2.2.2.2.2.2.2.2.2.1 (IntKind.wrap .i64 (r5047.2.2.2.2.2.2.2.2.2.2.2.2.2.2.2.2.2.2.1 + (1 : Int)))))
                  (none))))
            (none))
          (none))
        (none))
      (none))
    (some (x0, (x1, ())))

def ref09_Decode_l22 (F : Nat) : Nat → List Int → List Int → Int → Int → Int → Int → Int → Int → Int → Int → Int → Int → Int → Int → Int → List Int → List Int → List Int → Int → Option (List Int × (List Int × Unit))
  | 0, _, _, _, _, _, _, _, _, _, _, _, _, _, _, _, _, _, _, _ => none
  | k + 1, x0, x1, x2, x3, x4, x5, x6, x7, x8, x9, x10, x11, x12, x13, x14, x15, x16, x17, x18 => ref09_Decode_l22S F (ref09_Decode_l22 F k) x0 x1 x2 x3 x4 x5 x6 x7 x8 x9 x10 x11 x12 x13 x14 x15 x16 x17 x18

/-- swatch/swatchref09.Decode -/
def ref09_Decode (F : Nat) (a0 : List Int) : Option (List Int × (Int × Unit)) :=
  cond ((((List.length a0) : Nat) : Int) != (16 : Int))
    (some (bcseven_DecodeT283, ((1 : Int), ())))
    ((ref09_Mode F a0).bind fun r4227 =>
    cond (r4227.1 == (8 : Int))
      (some (bcseven_DecodeT283, ((0 : Int), ())))
      ((ref08_Modes F).bind fun r4229 =>
      let n4230 : Nat := ((List.length r4229.1) / 10)
      cond ((decide ((0 : Int) ≤ r4227.1)) && (decide (r4227.1 < ((n4230 : Nat) : Int))))
        (let l4233 : List Int := (List.take 10 (List.drop ((Int.toNat r4227.1) * 10) r4229.1))
        let v4234 : Int := (List.getD l4233 0 (0 : Int))
        let v4235 : Int := (List.getD l4233 1 (0 : Int))
        let v4236 : Int := (List.getD l4233 2 (0 : Int))
        let v4237 : Int := (List.getD l4233 3 (0 : Int))
        (ref09_taker_take F a0 (IntKind.wrap .i64 (r4227.1 + (1 : Int))) v4235).bind fun r4245 =>
        (ref09_taker_take F r4245.2.1 r4245.2.2.1 v4236).bind fun r4247 =>
        (ref09_taker_take F r4247.2.1 r4247.2.2.1 v4237).bind fun r4249 =>
        let v4251 : Int := (IntKind.wrap .i64 ((2 : Int) * v4234))
        cond ((decide ((0 : Int) ≤ v4251)) && ((decide (v4251 ≤ (1099511627776 : Int))) && (decide (v4251 = v4251))))
          ((ref09_Decode_l0 F F bcseven_DecodeT283 bcseven_DecodeT283 v4234 v4235 v4236 v4237 (List.getD l4233 4 (0 : Int)) (List.getD l4233 5 (0 : Int)) (List.getD l4233 6 (0 : Int)) (List.getD l4233 7 (0 : Int)) (List.getD l4233 8 (0 : Int)) (List.getD l4233 9 (0 : Int)) r4249.2.1 r4249.2.2.1 r4245.1 r4247.1 r4249.1 (List.replicate ((Int.toNat v4251) * 4) (0 : Int)) (0 : Int)).bind fun r4351 =>
          cond (r4351.2.2.2.2.2.2.2.2.1 == (1 : Int))
            ((ref09_Decode_l4 F F r4351.1 r4351.2.1 r4351.2.2.1 r4351.2.2.2.1 r4351.2.2.2.2.1 r4351.2.2.2.2.2.1 r4351.2.2.2.2.2.2.1 r4351.2.2.2.2.2.2.2.1 r4351.2.2.2.2.2.2.2.2.1 r4351.2.2.2.2.2.2.2.2.2.1 r4351.2.2.2.2.2.2.2.2.2.2.1 r4351.2.2.2.2.2.2.2.2.2.2.2.1 r4351.2.2.2.2.2.2.2.2.2.2.2.2.1 r4351.2.2.2.2.2.2.2.2.2.2.2.2.2.1 r4351.2.2.2.2.2.2.2.2.2.2.2.2.2.2.1 r4351.2.2.2.2.2.2.2.2.2.2.2.2.2.2.2.1 r4351.2.2.2.2.2.2.2.2.2.2.2.2.2.2.2.2.1 r4351.2.2.2.2.2.2.2.2.2.2.2.2.2.2.2.2.2.1 (0 : Int)).bind fun r4423 =>
            cond (r4423.2.2.2.2.2.2.2.2.2.1 == (1 : Int))
              ((ref09_Decode_l8 F F r4423.1 r4423.2.1 r4423.2.2.1 r4423.2.2.2.1 r4423.2.2.2.2.1 r4423.2.2.2.2.2.1 r4423.2.2.2.2.2.2.1 r4423.2.2.2.2.2.2.2.1 r4423.2.2.2.2.2.2.2.2.1 r4423.2.2.2.2.2.2.2.2.2.1 r4423.2.2.2.2.2.2.2.2.2.2.1 r4423.2.2.2.2.2.2.2.2.2.2.2.1 r4423.2.2.2.2.2.2.2.2.2.2.2.2.1 r4423.2.2.2.2.2.2.2.2.2.2.2.2.2.1 r4423.2.2.2.2.2.2.2.2.2.2.2.2.2.2.1 r4423.2.2.2.2.2.2.2.2.2.2.2.2.2.2.2.1 r4423.2.2.2.2.2.2.2.2.2.2.2.2.2.2.2.2.1 r4423.2.2.2.2.2.2.2.2.2.2.2.2.2.2.2.2.2.1 (0 : Int)).bind fun r4527 =>
              (ref09_Decode_l12 F F r4527.1 r4527.2.1 r4527.2.2.1 r4527.2.2.2.1 r4527.2.2.2.2.1 r4527.2.2.2.2.2.1 r4527.2.2.2.2.2.2.1 r4527.2.2.2.2.2.2.2.1 r4527.2.2.2.2.2.2.2.2.1 r4527.2.2.2.2.2.2.2.2.2.1 r4527.2.2.2.2.2.2.2.2.2.2.1 r4527.2.2.2.2.2.2.2.2.2.2.2.1 r4527.2.2.2.2.2.2.2.2.2.2.2.2.1 r4527.2.2.2.2.2.2.2.2.2.2.2.2.2.1 r4527.2.2.2.2.2.2.2.2.2.2.2.2.2.2.1 r4527.2.2.2.2.2.2.2.2.2.2.2.2.2.2.2.1 r4527.2.2.2.2.2.2.2.2.2.2.2.2.2.2.2.2.1 r4527.2.2.2.2.2.2.2.2.2.2.2.2.2.2.2.2.2.1 (1 : Int) (0 : Int)).bind fun r4620 =>
              (ref09_Decode_l16 F F r4620.1 r4620.2.1 r4620.2.2.1 r4620.2.2.2.1 r4620.2.2.2.2.1 r4620.2.2.2.2.2.1 r4620.2.2.2.2.2.2.1 r4620.2.2.2.2.2.2.2.1 r4620.2.2.2.2.2.2.2.2.1 r4620.2.2.2.2.2.2.2.2.2.1 r4620.2.2.2.2.2.2.2.2.2.2.1 r4620.2.2.2.2.2.2.2.2.2.2.2.1 r4620.2.2.2.2.2.2.2.2.2.2.2.2.1 r4620.2.2.2.2.2.2.2.2.2.2.2.2.2.1 r4620.2.2.2.2.2.2.2.2.2.2.2.2.2.2.1 r4620.2.2.2.2.2.2.2.2.2.2.2.2.2.2.2.1 r4620.2.2.2.2.2.2.2.2.2.2.2.2.2.2.2.2.1 r4620.2.2.2.2.2.2.2.2.2.2.2.2.2.2.2.2.2.1 bcseven_SixT4 bcseven_SixT4 (0 : Int)).bind fun r4713 =>
              (ref09_Decode_l20 F F r4713.1 r4713.2.1 r4713.2.2.1 r4713.2.2.2.1 r4713.2.2.2.2.1 r4713.2.2.2.2.2.1 r4713.2.2.2.2.2.2.1 r4713.2.2.2.2.2.2.2.1 r4713.2.2.2.2.2.2.2.2.1 r4713.2.2.2.2.2.2.2.2.2.1 r4713.2.2.2.2.2.2.2.2.2.2.1 r4713.2.2.2.2.2.2.2.2.2.2.2.1 r4713.2.2.2.2.2.2.2.2.2.2.2.2.1 r4713.2.2.2.2.2.2.2.2.2.2.2.2.2.1 r4713.2.2.2.2.2.2.2.2.2.2.2.2.2.2.1 r4713.2.2.2.2.2.2.2.2.2.2.2.2.2.2.2.1 r4713.2.2.2.2.2.2.2.2.2.2.2.2.2.2.2.2.1 r4713.2.2.2.2.2.2.2.2.2.2.2.2.2.2.2.2.2.1 r4713.2.2.2.2.2.2.2.2.2.2.2.2.2.2.2.2.2.2.1 r4713.2.2.2.2.2.2.2.2.2.2.2.2.2.2.2.2.2.2.2.1 (0 : Int)).bind fun r4754 =>
              (ref09_Decode_l22 F F r4754.1 r4754.2.1 r4754.2.2.1 r4754.2.2.2.1 r4754.2.2.2.2.1 r4754.2.2.2.2.2.1 r4754.2.2.2.2.2.2.1 r4754.2.2.2.2.2.2.2.1 r4754.2.2.2.2.2.2.2.2.1 r4754.2.2.2.2.2.2.2.2.2.1 r4754.2.2.2.2.2.2.2.2.2.2.1 r4754.2.2.2.2.2.2.2.2.2.2.2.1 r4754.2.2.2.2.2.2.2.2.2.2.2.2.1 r4754.2.2.2.2.2.2.2.2.2.2.2.2.2.1 r4754.2.2.2.2.2.2.2.2.2.2.2.2.2.2.1 r4754.2.2.2.2.2.2.2.2.2.2.2.2.2.2.2.1 r4754.2.2.2.2.2.2.2.2.2.2.2.2.2.2.2.2.1 r4754.2.2.2.2.2.2.2.2.2.2.2.2.2.2.2.2.2.1 (0 : Int)).bind fun r5066 =>
              some (r5066.2.1, ((0 : Int), ())))
              ((ref09_Decode_l12 F F r4423.1 r4423.2.1 r4423.2.2.1 r4423.2.2.2.1 r4423.2.2.2.2.1 r4423.2.2.2.2.2.1 r4423.2.2.2.2.2.2.1 r4423.2.2.2.2.2.2.2.1 r4423.2.2.2.2.2.2.2.2.1 r4423.2.2.2.2.2.2.2.2.2.1 r4423.2.2.2.2.2.2.2.2.2.2.1 r4423.2.2.2.2.2.2.2.2.2.2.2.1 r4423.2.2.2.2.2.2.2.2.2.2.2.2.1 r4423.2.2.2.2.2.2.2.2.2.2.2.2.2.1 r4423.2.2.2.2.2.2.2.2.2.2.2.2.2.2.1 r4423.2.2.2.2.2.2.2.2.2.2.2.2.2.2.2.1 r4423.2.2.2.2.2.2.2.2.2.2.2.2.2.2.2.2.1 r4423.2.2.2.2.2.2.2.2.2.2.2.2.2.2.2.2.2.1 (1 : Int) (0 : Int)).bind fun r5100 =>
              (ref09_Decode_l16 F F r5100.1 r5100.2.1 r5100.2.2.1 r5100.2.2.2.1 r5100.2.2.2.2.1 r5100.2.2.2.2.2.1 r5100.2.2.2.2.2.2.1 r5100.2.2.2.2.2.2.2.1 r5100.2.2.2.2.2.2.2.2.1 r5100.2.2.2.2.2.2.2.2.2.1 r5100.2.2.2.2.2.2.2.2.2.2.1 r5100.2.2.2.2.2.2.2.2.2.2.2.1 r5100.2.2.2.2.2.2.2.2.2.2.2.2.1 r5100.2.2.2.2.2.2.2.2.2.2.2.2.2.1 r5100.2.2.2.2.2.2.2.2.2.2.2.2.2.2.1 r5100.2.2.2.2.2.2.2.2.2.2.2.2.2.2.2.1 r5100.2.2.2.2.2.2.2.2.2.2.2.2.2.2.2.2.1 r5100.2.2.2.2.2.2.2.2.2.2.2.2.2.2.2.2.2.1 bcseven_SixT4 bcseven_SixT4 (0 : Int)).bind fun r5141 =>
              (ref09_Decode_l20 F F r5141.1 r5141.2.1 r5141.2.2.1 r5141.2.2.2.1 r5141.2.2.2.2.1 r5141.2.2.2.2.2.1 r5141.2.2.2.2.2.2.1 r5141.2.2.2.2.2.2.2.1 r5141.2.2.2.2.2.2.2.2.1 r5141.2.2.2.2.2.2.2.2.2.1 r5141.2.2.2.2.2.2.2.2.2.2.1 r5141.2.2.2.2.2.2.2.2.2.2.2.1 r5141.2.2.2.2.2.2.2.2.2.2.2.2.1 r5141.2.2.2.2.2.2.2.2.2.2.2.2.2.1 r5141.2.2.2.2.2.2.2.2.2.2.2.2.2.2.1 r5141.2.2.2.2.2.2.2.2.2.2.2.2.2.2.2.1 r5141.2.2.2.2.2.2.2.2.2.2.2.2.2.2.2.2.1 r5141.2.2.2.2.2.2.2.2.2.2.2.2.2.2.2.2.2.1 r5141.2.2.2.2.2.2.2.2.2.2.2.2.2.2.2.2.2.2.1 r5141.2.2.2.2.2.2.2.2.2.2.2.2.2.2.2.2.2.2.2.1 (0 : Int)).bind fun r5163 =>
              (ref09_Decode_l22 F F r5163.1 r5163.2.1 r5163.2.2.1 r5163.2.2.2.1 r5163.2.2.2.2.1 r5163.2.2.2.2.2.1 r5163.2.2.2.2.2.2.1 r5163.2.2.2.2.2.2.2.1 r5163.2.2.2.2.2.2.2.2.1 r5163.2.2.2.2.2.2.2.2.2.1 r5163.2.2.2.2.2.2.2.2.2.2.1 r5163.2.2.2.2.2.2.2.2.2.2.2.1 r5163.2.2.2.2.2.2.2.2.2.2.2.2.1 r5163.2.2.2.2.2.2.2.2.2.2.2.2.2.1 r5163.2.2.2.2.2.2.2.2.2.2.2.2.2.2.1 r5163.2.2.2.2.2.2.2.2.2.2.2.2.2.2.2.1 r5163.2.2.2.2.2.2.2.2.2.2.2.2.2.2.2.2.1 r5163.2.2.2.2.2.2.2.2.2.2.2.2.2.2.2.2.2.1 (0 : Int)).bind fun r5308 =>
              some (r5308.2.1, ((0 : Int), ()))))
            (cond (r4351.2.2.2.2.2.2.2.2.2.1 == (1 : Int))
              ((ref09_Decode_l8 F F r4351.1 r4351.2.1 r4351.2.2.1 r4351.2.2.2.1 r4351.2.2.2.2.1 r4351.2.2.2.2.2.1 r4351.2.2.2.2.2.2.1 r4351.2.2.2.2.2.2.2.1 r4351.2.2.2.2.2.2.2.2.1 r4351.2.2.2.2.2.2.2.2.2.1 r4351.2.2.2.2.2.2.2.2.2.2.1 r4351.2.2.2.2.2.2.2.2.2.2.2.1 r4351.2.2.2.2.2.2.2.2.2.2.2.2.1 r4351.2.2.2.2.2.2.2.2.2.2.2.2.2.1 r4351.2.2.2.2.2.2.2.2.2.2.2.2.2.2.1 r4351.2.2.2.2.2.2.2.2.2.2.2.2.2.2.2.1 r4351.2.2.2.2.2.2.2.2.2.2.2.2.2.2.2.2.1 r4351.2.2.2.2.2.2.2.2.2.2.2.2.2.2.2.2.2.1 (0 : Int)).bind fun r5340 =>
              (ref09_Decode_l12 F F r5340.1 r5340.2.1 r5340.2.2.1 r5340.2.2.2.1 r5340.2.2.2.2.1 r5340.2.2.2.2.2.1 r5340.2.2.2.2.2.2.1 r5340.2.2.2.2.2.2.2.1 r5340.2.2.2.2.2.2.2.2.1 r5340.2.2.2.2.2.2.2.2.2.1 r5340.2.2.2.2.2.2.2.2.2.2.1 r5340.2.2.2.2.2.2.2.2.2.2.2.1 r5340.2.2.2.2.2.2.2.2.2.2.2.2.1 r5340.2.2.2.2.2.2.2.2.2.2.2.2.2.1 r5340.2.2.2.2.2.2.2.2.2.2.2.2.2.2.1 r5340.2.2.2.2.2.2.2.2.2.2.2.2.2.2.2.1 r5340.2.2.2.2.2.2.2.2.2.2.2.2.2.2.2.2.1 r5340.2.2.2.2.2.2.2.2.2.2.2.2.2.2.2.2.2.1 (1 : Int) (0 : Int)).bind fun r5376 =>
              (ref09_Decode_l16 F F r5376.1 r5376.2.1 r5376.2.2.1 r5376.2.2.2.1 r5376.2.2.2.2.1 r5376.2.2.2.2.2.1 r5376.2.2.2.2.2.2.1 r5376.2.2.2.2.2.2.2.1 r5376.2.2.2.2.2.2.2.2.1 r5376.2.2.2.2.2.2.2.2.2.1 r5376.2.2.2.2.2.2.2.2.2.2.1 r5376.2.2.2.2.2.2.2.2.2.2.2.1 r5376.2.2.2.2.2.2.2.2.2.2.2.2.1 r5376.2.2.2.2.2.2.2.2.2.2.2.2.2.1 r5376.2.2.2.2.2.2.2.2.2.2.2.2.2.2.1 r5376.2.2.2.2.2.2.2.2.2.2.2.2.2.2.2.1 r5376.2.2.2.2.2.2.2.2.2.2.2.2.2.2.2.2.1 r5376.2.2.2.2.2.2.2.2.2.2.2.2.2.2.2.2.2.1 bcseven_SixT4 bcseven_SixT4 (0 : Int)).bind fun r5417 =>
              (ref09_Decode_l20 F F r5417.1 r5417.2.1 r5417.2.2.1 r5417.2.2.2.1 r5417.2.2.2.2.1 r5417.2.2.2.2.2.1 r5417.2.2.2.2.2.2.1 r5417.2.2.2.2.2.2.2.1 r5417.2.2.2.2.2.2.2.2.1 r5417.2.2.2.2.2.2.2.2.2.1 r5417.2.2.2.2.2.2.2.2.2.2.1 r5417.2.2.2.2.2.2.2.2.2.2.2.1 r5417.2.2.2.2.2.2.2.2.2.2.2.2.1 r5417.2.2.2.2.2.2.2.2.2.2.2.2.2.1 r5417.2.2.2.2.2.2.2.2.2.2.2.2.2.2.1 r5417.2.2.2.2.2.2.2.2.2.2.2.2.2.2.2.1 r5417.2.2.2.2.2.2.2.2.2.2.2.2.2.2.2.2.1 r5417.2.2.2.2.2.2.2.2.2.2.2.2.2.2.2.2.2.1 r5417.2.2.2.2.2.2.2.2.2.2.2.2.2.2.2.2.2.2.1 r5417.2.2.2.2.2.2.2.2.2.2.2.2.2.2.2.2.2.2.2.1 (0 : Int)).bind fun r5439 =>
              (ref09_Decode_l22 F F r5439.1 r5439.2.1 r5439.2.2.1 r5439.2.2.2.1 r5439.2.2.2.2.1 r5439.2.2.2.2.2.1 r5439.2.2.2.2.2.2.1 r5439.2.2.2.2.2.2.2.1 r5439.2.2.2.2.2.2.2.2.1 r5439.2.2.2.2.2.2.2.2.2.1 r5439.2.2.2.2.2.2.2.2.2.2.1 r5439.2.2.2.2.2.2.2.2.2.2.2.1 r5439.2.2.2.2.2.2.2.2.2.2.2.2.1 r5439.2.2.2.2.2.2.2.2.2.2.2.2.2.1 r5439.2.2.2.2.2.2.2.2.2.2.2.2.2.2.1 r5439.2.2.2.2.2.2.2.2.2.2.2.2.2.2.2.1 r5439.2.2.2.2.2.2.2.2.2.2.2.2.2.2.2.2.1 r5439.2.2.2.2.2.2.2.2.2.2.2.2.2.2.2.2.2.1 (0 : Int)).bind fun r5584 =>
              some (r5584.2.1, ((0 : Int), ())))
              ((ref09_Decode_l12 F F r4351.1 r4351.2.1 r4351.2.2.1 r4351.2.2.2.1 r4351.2.2.2.2.1 r4351.2.2.2.2.2.1 r4351.2.2.2.2.2.2.1 r4351.2.2.2.2.2.2.2.1 r4351.2.2.2.2.2.2.2.2.1 r4351.2.2.2.2.2.2.2.2.2.1 r4351.2.2.2.2.2.2.2.2.2.2.1 r4351.2.2.2.2.2.2.2.2.2.2.2.1 r4351.2.2.2.2.2.2.2.2.2.2.2.2.1 r4351.2.2.2.2.2.2.2.2.2.2.2.2.2.1 r4351.2.2.2.2.2.2.2.2.2.2.2.2.2.2.1 r4351.2.2.2.2.2.2.2.2.2.2.2.2.2.2.2.1 r4351.2.2.2.2.2.2.2.2.2.2.2.2.2.2.2.2.1 r4351.2.2.2.2.2.2.2.2.2.2.2.2.2.2.2.2.2.1 (0 : Int) (0 : Int)).bind fun r5618 =>
              (ref09_Decode_l16 F F r5618.1 r5618.2.1 r5618.2.2.1 r5618.2.2.2.1 r5618.2.2.2.2.1 r5618.2.2.2.2.2.1 r5618.2.2.2.2.2.2.1 r5618.2.2.2.2.2.2.2.1 r5618.2.2.2.2.2.2.2.2.1 r5618.2.2.2.2.2.2.2.2.2.1 r5618.2.2.2.2.2.2.2.2.2.2.1 r5618.2.2.2.2.2.2.2.2.2.2.2.1 r5618.2.2.2.2.2.2.2.2.2.2.2.2.1 r5618.2.2.2.2.2.2.2.2.2.2.2.2.2.1 r5618.2.2.2.2.2.2.2.2.2.2.2.2.2.2.1 r5618.2.2.2.2.2.2.2.2.2.2.2.2.2.2.2.1 r5618.2.2.2.2.2.2.2.2.2.2.2.2.2.2.2.2.1 r5618.2.2.2.2.2.2.2.2.2.2.2.2.2.2.2.2.2.1 bcseven_SixT4 bcseven_SixT4 (0 : Int)).bind fun r5659 =>
              (ref09_Decode_l20 F F r5659.1 r5659.2.1 r5659.2.2.1 r5659.2.2.2.1 r5659.2.2.2.2.1 r5659.2.2.2.2.2.1 r5659.2.2.2.2.2.2.1 r5659.2.2.2.2.2.2.2.1 r5659.2.2.2.2.2.2.2.2.1 r5659.2.2.2.2.2.2.2.2.2.1 r5659.2.2.2.2.2.2.2.2.2.2.1 r5659.2.2.2.2.2.2.2.2.2.2.2.1 r5659.2.2.2.2.2.2.2.2.2.2.2.2.1 r5659.2.2.2.2.2.2.2.2.2.2.2.2.2.1 r5659.2.2.2.2.2.2.2.2.2.2.2.2.2.2.1 r5659.2.2.2.2.2.2.2.2.2.2.2.2.2.2.2.1 r5659.2.2.2.2.2.2.2.2.2.2.2.2.2.2.2.2.1 r5659.2.2.2.2.2.2.2.2.2.2.2.2.2.2.2.2.2.1 r5659.2.2.2.2.2.2.2.2.2.2.2.2.2.2.2.2.2.2.1 r5659.2.2.2.2.2.2.2.2.2.2.2.2.2.2.2.2.2.2.2.1 (0 : Int)).bind fun r5681 =>
              (ref09_Decode_l22 F F r5681.1 r5681.2.1 r5681.2.2.1 r5681.2.2.2.1 r5681.2.2.2.2.1 r5681.2.2.2.2.2.1 r5681.2.2.2.2.2.2.1 r5681.2.2.2.2.2.2.2.1 r5681.2.2.2.2.2.2.2.2.1 r5681.2.2.2.2.2.2.2.2.2.1 r5681.2.2.2.2.2.2.2.2.2.2.1 r5681.2.2.2.2.2.2.2.2.2.2.2.1 r5681.2.2.2.2.2.2.2.2.2.2.2.2.1 r5681.2.2.2.2.2.2.2.2.2.2.2.2.2.1 r5681.2.2.2.2.2.2.2.2.2.2.2.2.2.2.1 r5681.2.2.2.2.2.2.2.2.2.2.2.2.2.2.2.1 r5681.2.2.2.2.2.2.2.2.2.2.2.2.2.2.2.2.1 r5681.2.2.2.2.2.2.2.2.2.2.2.2.2.2.2.2.2.1 (0 : Int)).bind fun r5826 =>
              some (r5826.2.1, ((0 : Int), ())))))
          (none))
        (none)))

/-- swatch/swatchlaw09.BcsevenDecodes -/
def law09_BcsevenDecodes (F : Nat) (a0 : List Int) : Option (Bool × Unit) :=
  (law09_awake F).bind fun r1946 =>
  let v1947 : Int := (((List.length a0) : Nat) : Int)
  cond (decide ((40 : Int) < v1947))
    (some (r1946.1, ()))
    ((bcseven_Decode F a0).bind fun r1949 =>
    (ref09_Decode F a0).bind fun r5827 =>
    cond r1946.1
      (cond (r1949.1 == r5827.1)
        (cond (r1949.2.1 == r5827.2.1)
          ((bcseven_Mode F a0).bind fun r5830 =>
          (ref09_Mode F a0).bind fun r5831 =>
          some ((r5830.1 == r5831.1), ()))
          (some (false, ())))
        (some (false, ())))
      (some (false, ())))

def ref09_SixT5836 : List Int := [64, 0, 0, 0, 0, 0, 0, 0, 0, 0, 0, 0, 0, 0, 0, 0]
def ref09_Six_l2S (F : Nat) (rec : List Int → List Int → List Int → List Int → Int → Int → Int → Option (Unit ⊕ (List Int × (List Int × (List Int × (List Int × (Int × (Int × Unit)))))))) (x0 : List Int) (x1 : List Int) (x2 : List Int) (x3 : List Int) (x4 : Int) (x5 : Int) (x6 : Int) : Option (Unit ⊕ (List Int × (List Int × (List Int × (List Int × (Int × (Int × Unit))))))) :=
  cond (decide (x6 < (2 : Int)))
    (let b6738 : Bool := ((decide ((0 : Int) ≤ x6)) && (decide (x6 < (2 : Int))))
    cond b6738
      (let b6740 : Bool := ((decide ((0 : Int) ≤ x5)) && (decide (x5 < (4 : Int))))
      cond b6740
        (let v6742 : Int := (List.getD x0 (((Int.toNat x6) * 4) + (Int.toNat x5)) (0 : Int))
        cond (decide (v6742 < (0 : Int)))
          (some (.inl ()))
          (cond b6738
            (cond b6740
              (cond (decide ((127 : Int) < v6742))
                (some (.inl ()))
                (cond b6738
                  (cond b6740
                    ((ref02_Set F x3 x4 (7 : Int) false (IntKind.wrap .u64 v6742)).bind fun r6746 =>
                    rec x0 x1 x2 r6746.1 (IntKind.wrap .i64 (x4 + (7 : Int))) x5 (IntKind.wrap .i64 (x6 + (1 : Int))))
                    (none))
                  (none)))
              (none))
            (none)))
        (none))
      (none))
    (some (.inr (x0, (x1, (x2, (x3, (x4, (x5, ()))))))))

def ref09_Six_l2 (F : Nat) : Nat → List Int → List Int → List Int → List Int → Int → Int → Int → Option (Unit ⊕ (List Int × (List Int × (List Int × (List Int × (Int × (Int × Unit)))))))
  | 0, _, _, _, _, _, _, _ => none
  | k + 1, x0, x1, x2, x3, x4, x5, x6 => ref09_Six_l2S F (ref09_Six_l2 F k) x0 x1 x2 x3 x4 x5 x6

def ref09_Six_l0S (F : Nat) (rec : List Int → List Int → List Int → List Int → Int → Int → Option (Unit ⊕ (List Int × (List Int × (List Int × (Int × Unit)))))) (x0 : List Int) (x1 : List Int) (x2 : List Int) (x3 : List Int) (x4 : Int) (x5 : Int) : Option (Unit ⊕ (List Int × (List Int × (List Int × (Int × Unit))))) :=
  cond (decide (x5 < (4 : Int)))
    ((ref09_Six_l2 F F x0 x1 x2 x3 x4 x5 (0 : Int)).bind fun r6750 => match r6750 with
      | .inl r6750 => (some (.inl ()))
      | .inr r6750 => (rec r6750.1 r6750.2.1 r6750.2.2.1 r6750.2.2.2.1 r6750.2.2.2.2.1 (IntKind.wrap .i64 (r6750.2.2.2.2.2.1 + (1 : Int)))))
    (some (.inr (x1, (x2, (x3, (x4, ()))))))

def ref09_Six_l0 (F : Nat) : Nat → List Int → List Int → List Int → List Int → Int → Int → Option (Unit ⊕ (List Int × (List Int × (List Int × (Int × Unit)))))
  | 0, _, _, _, _, _, _ => none
  | k + 1, x0, x1, x2, x3, x4, x5 => ref09_Six_l0S F (ref09_Six_l0 F k) x0 x1 x2 x3 x4 x5

def ref09_Six_l4S (F : Nat) (rec : List Int → List Int → List Int → Int → Int → Option (Unit ⊕ (List Int × (List Int × (Int × Unit))))) (x0 : List Int) (x1 : List Int) (x2 : List Int) (x3 : Int) (x4 : Int) : Option (Unit ⊕ (List Int × (List Int × (Int × Unit)))) :=
  cond (decide (x4 < (2 : Int)))
    (let b6777 : Bool := ((decide ((0 : Int) ≤ x4)) && (decide (x4 < (2 : Int))))
    cond b6777
      (let v6779 : Int := (List.getD x0 (Int.toNat x4) (0 : Int))
      cond (decide (v6779 < (0 : Int)))
        (some (.inl ()))
        (cond b6777
          (cond (decide ((1 : Int) < v6779))
            (some (.inl ()))
            (cond b6777
              ((ref02_Set F x2 x3 (1 : Int) false (IntKind.wrap .u64 v6779)).bind fun r6783 =>
              rec x0 x1 r6783.1 (IntKind.wrap .i64 (x3 + (1 : Int))) (IntKind.wrap .i64 (x4 + (1 : Int))))
              (none)))
          (none)))
      (none))
    (some (.inr (x1, (x2, (x3, ())))))

def ref09_Six_l4 (F : Nat) : Nat → List Int → List Int → List Int → Int → Int → Option (Unit ⊕ (List Int × (List Int × (Int × Unit))))
  | 0, _, _, _, _, _ => none
  | k + 1, x0, x1, x2, x3, x4 => ref09_Six_l4S F (ref09_Six_l4 F k) x0 x1 x2 x3 x4

def ref09_Six_l6S (F : Nat) (rec : List Int → List Int → Int → Int → Option (Unit ⊕ (List Int × Unit))) (x0 : List Int) (x1 : List Int) (x2 : Int) (x3 : Int) : Option (Unit ⊕ (List Int × Unit)) :=
  cond (decide (x3 < (16 : Int)))
    (cond (x3 == (0 : Int))
      (let b6823 : Bool := ((decide ((0 : Int) ≤ x3)) && (decide (x3 < (16 : Int))))
      cond b6823
        (let v6825 : Int := (List.getD x0 (Int.toNat x3) (0 : Int))
        cond (decide (v6825 < (0 : Int)))
          (some (.inl ()))
          (cond b6823
            (cond (decide ((7 : Int) < v6825))
              (some (.inl ()))
              (cond b6823
                ((ref02_Set F x1 x2 (3 : Int) false (IntKind.wrap .u64 v6825)).bind fun r6829 =>
                rec x0 r6829.1 (IntKind.wrap .i64 (x2 + (3 : Int))) (IntKind.wrap .i64 (x3 + (1 : Int))))
                (none)))
            (none)))
        (none))
      (let b6833 : Bool := ((decide ((0 : Int) ≤ x3)) && (decide (x3 < (16 : Int))))
      cond b6833
        (let v6835 : Int := (List.getD x0 (Int.toNat x3) (0 : Int))
        cond (decide (v6835 < (0 : Int)))
          (some (.inl ()))
          (cond b6833
            (cond (decide ((15 : Int) < v6835))
              (some (.inl ()))
              (cond b6833
                ((ref02_Set F x1 x2 (4 : Int) false (IntKind.wrap .u64 v6835)).bind fun r6839 =>
                rec x0 r6839.1 (IntKind.wrap .i64 (x2 + (4 : Int))) (IntKind.wrap .i64 (x3 + (1 : Int))))
                (none)))
            (none)))
        (none)))
    (some (.inr (x1, ())))

def ref09_Six_l6 (F : Nat) : Nat → List Int → List Int → Int → Int → Option (Unit ⊕ (List Int × Unit))
  | 0, _, _, _, _ => none
  | k + 1, x0, x1, x2, x3 => ref09_Six_l6S F (ref09_Six_l6 F k) x0 x1 x2 x3

/-- swatch/swatchref09.Six -/
def ref09_Six (F : Nat) (a0 : List Int) (a1 : List Int) (a2 : List Int) : Option (List Int × (Int × Unit)) :=
  (ref09_Six_l0 F F a0 a1 a2 ref09_SixT5836 (7 : Int) (0 : Int)).bind fun r6753 => match r6753 with
    | .inl r6753 => (some ([], ((1 : Int), ())))
    | .inr r6753 => ((ref09_Six_l4 F F r6753.1 r6753.2.1 r6753.2.2.1 r6753.2.2.2.1 (0 : Int)).bind fun r6787 => match r6787 with
        | .inl r6787 => (some ([], ((1 : Int), ())))
        | .inr r6787 => ((ref09_Six_l6 F F r6787.1 r6787.2.1 r6787.2.2.1 (0 : Int)).bind fun r6843 => match r6843 with
            | .inl r6843 => (some ([], ((1 : Int), ())))
            | .inr r6843 => (some (r6843.1, ((0 : Int), ())))))

def bcseven_EndsT6885 : List Int := [0, 0, 0, 0, 0, 0, 0, 0]
def bcseven_Ends_l2S (F : Nat) (rec : List Int → List Int → List Int → Int → List Int → Int → List Int → Int → Option (List Int × (List Int × (List Int × (List Int × (Int × Unit)))))) (x0 : List Int) (x1 : List Int) (x2 : List Int) (x3 : Int) (x4 : List Int) (x5 : Int) (x6 : List Int) (x7 : Int) : Option (List Int × (List Int × (List Int × (List Int × (Int × Unit))))) :=
  cond (decide (x7 < (4 : Int)))
    (let b6968 : Bool := ((decide ((0 : Int) ≤ x7)) && (decide (x7 < (4 : Int))))
    cond b6968
      (let b6972 : Bool := ((decide ((0 : Int) ≤ x3)) && (decide (x3 < (2 : Int))))
      cond b6972
        (cond b6972
          (cond b6968
            (rec x0 x1 (List.set x2 (((Int.toNat x3) * 4) + (Int.toNat x7)) (ior .i64 (ishl .i64 (iand .i64 (List.getD x6 (Int.toNat x7) (0 : Int)) (127 : Int)) (1 : Int)) (iand .i64 (List.getD x0 (Int.toNat x3) (0 : Int)) (1 : Int)))) x3 x4 x5 x6 (IntKind.wrap .i64 (x7 + (1 : Int))))
            (none))
          (none))
        (none))
      (none))
    (some (x0, (x1, (x2, (x4, (x5, ()))))))

def bcseven_Ends_l2 (F : Nat) : Nat → List Int → List Int → List Int → Int → List Int → Int → List Int → Int → Option (List Int × (List Int × (List Int × (List Int × (Int × Unit)))))
  | 0, _, _, _, _, _, _, _, _ => none
  | k + 1, x0, x1, x2, x3, x4, x5, x6, x7 => bcseven_Ends_l2S F (bcseven_Ends_l2 F k) x0 x1 x2 x3 x4 x5 x6 x7

def bcseven_Ends_l0S (F : Nat) (rec : List Int → List Int → List Int → List Int → Int → Option (List Int × (List Int × Unit))) (x0 : List Int) (x1 : List Int) (x2 : List Int) (x3 : List Int) (x4 : Int) : Option (List Int × (List Int × Unit)) :=
  cond (decide (x4 < (2 : Int)))
    (cond ((decide ((0 : Int) ≤ x4)) && (decide (x4 < (2 : Int))))
      ((bcseven_Ends_l2 F F x0 x1 x2 x4 x3 x4 (List.take 4 (List.drop ((Int.toNat x4) * 4) x3)) (0 : Int)).bind fun r6981 =>
      rec r6981.1 r6981.2.1 r6981.2.2.1 r6981.2.2.2.1 (IntKind.wrap .i64 (r6981.2.2.2.2.1 + (1 : Int))))
      (none))
    (some (x1, (x2, ())))

def bcseven_Ends_l0 (F : Nat) : Nat → List Int → List Int → List Int → List Int → Int → Option (List Int × (List Int × Unit))
  | 0, _, _, _, _, _ => none
  | k + 1, x0, x1, x2, x3, x4 => bcseven_Ends_l0S F (bcseven_Ends_l0 F k) x0 x1 x2 x3 x4

/-- swatch/bcseven.Ends -/
def bcseven_Ends (F : Nat) (a0 : List Int) (a1 : List Int) : Option (List Int × Unit) :=
  (bcseven_Ends_l0 F F a1 bcseven_EndsT6885 bcseven_EndsT6885 a0 (0 : Int)).bind fun r6983 =>
  some (r6983.2.1, ())

def ref09_Ends_l2S (F : Nat) (rec : List Int → List Int → List Int → List Int → Int → Int → Option (List Int × (List Int × (List Int × (List Int × (Int × Unit)))))) (x0 : List Int) (x1 : List Int) (x2 : List Int) (x3 : List Int) (x4 : Int) (x5 : Int) : Option (List Int × (List Int × (List Int × (List Int × (Int × Unit))))) :=
  cond (decide (x5 < (4 : Int)))
    (let b7062 : Bool := ((decide ((0 : Int) ≤ x4)) && (decide (x4 < (2 : Int))))
    cond b7062
      (let b7064 : Bool := ((decide ((0 : Int) ≤ x5)) && (decide (x5 < (4 : Int))))
      cond b7064
        (let n7065 : Nat := (((Int.toNat x4) * 4) + (Int.toNat x5))
        cond b7062
          (cond b7062
            (cond b7064
              (rec x0 x1 x2 (List.set x3 n7065 (IntKind.wrap .i64 ((IntKind.wrap .i64 ((2 : Int) * (iand .i64 (List.getD x0 n7065 (0 : Int)) (127 : Int)))) + (iand .i64 (List.getD x1 (Int.toNat x4) (0 : Int)) (1 : Int))))) x4 (IntKind.wrap .i64 (x5 + (1 : Int))))
              (none))
            (none))
          (none))
        (none))
      (none))
    (some (x0, (x1, (x2, (x3, (x4, ()))))))

def ref09_Ends_l2 (F : Nat) : Nat → List Int → List Int → List Int → List Int → Int → Int → Option (List Int × (List Int × (List Int × (List Int × (Int × Unit)))))
  | 0, _, _, _, _, _, _ => none
  | k + 1, x0, x1, x2, x3, x4, x5 => ref09_Ends_l2S F (ref09_Ends_l2 F k) x0 x1 x2 x3 x4 x5

def ref09_Ends_l0S (F : Nat) (rec : List Int → List Int → List Int → List Int → Int → Option (List Int × (List Int × Unit))) (x0 : List Int) (x1 : List Int) (x2 : List Int) (x3 : List Int) (x4 : Int) : Option (List Int × (List Int × Unit)) :=
  cond (decide (x4 < (2 : Int)))
    ((ref09_Ends_l2 F F x0 x1 x2 x3 x4 (0 : Int)).bind fun r7075 =>
    rec r7075.1 r7075.2.1 r7075.2.2.1 r7075.2.2.2.1 (IntKind.wrap .i64 (r7075.2.2.2.2.1 + (1 : Int))))
    (some (x2, (x3, ())))

def ref09_Ends_l0 (F : Nat) : Nat → List Int → List Int → List Int → List Int → Int → Option (List Int × (List Int × Unit))
  | 0, _, _, _, _, _ => none
  | k + 1, x0, x1, x2, x3, x4 => ref09_Ends_l0S F (ref09_Ends_l0 F k) x0 x1 x2 x3 x4

/-- swatch/swatchref09.Ends -/
def ref09_Ends (F : Nat) (a0 : List Int) (a1 : List Int) : Option (List Int × Unit) :=
  (ref09_Ends_l0 F F a0 a1 bcseven_EndsT6885 bcseven_EndsT6885 (0 : Int)).bind fun r7077 =>
  some (r7077.2.1, ())

def bcseven_Ramp_l2S (F : Nat) (rec : List Int → List Int → List Int → List Int → Int → Int → Int → Option (List Int × (List Int × (List Int × (List Int × (Int × Unit)))))) (x0 : List Int) (x1 : List Int) (x2 : List Int) (x3 : List Int) (x4 : Int) (x5 : Int) (x6 : Int) : Option (List Int × (List Int × (List Int × (List Int × (Int × Unit))))) :=
  cond (decide (x6 < (4 : Int)))
    (let b7143 : Bool := ((decide ((0 : Int) ≤ x6)) && (decide (x6 < (4 : Int))))
    cond b7143
      (cond b7143
        ((bcseven_mix F (List.getD x0 (Int.toNat x6) (0 : Int)) (List.getD x1 (Int.toNat x6) (0 : Int)) x4 (4 : Int)).bind fun r7147 =>
        cond ((decide ((0 : Int) ≤ x4)) && (decide (x4 < (16 : Int))))
          (cond b7143
            (rec x0 x1 x2 (List.set x3 (((Int.toNat x4) * 4) + (Int.toNat x6)) r7147.1) x4 x5 (IntKind.wrap .i64 (x6 + (1 : Int))))
            (none))
          (none))
        (none))
      (none))
    (some (x0, (x1, (x2, (x3, (x5, ()))))))

def bcseven_Ramp_l2 (F : Nat) : Nat → List Int → List Int → List Int → List Int → Int → Int → Int → Option (List Int × (List Int × (List Int × (List Int × (Int × Unit)))))
  | 0, _, _, _, _, _, _, _ => none
  | k + 1, x0, x1, x2, x3, x4, x5, x6 => bcseven_Ramp_l2S F (bcseven_Ramp_l2 F k) x0 x1 x2 x3 x4 x5 x6

def bcseven_Ramp_l0S (F : Nat) (rec : List Int → List Int → List Int → List Int → Int → Option (List Int × (List Int × Unit))) (x0 : List Int) (x1 : List Int) (x2 : List Int) (x3 : List Int) (x4 : Int) : Option (List Int × (List Int × Unit)) :=
  cond (decide (x4 < (16 : Int)))
    ((bcseven_Ramp_l2 F F x0 x1 x2 x3 x4 x4 (0 : Int)).bind fun r7153 =>
    rec r7153.1 r7153.2.1 r7153.2.2.1 r7153.2.2.2.1 (IntKind.wrap .i64 (r7153.2.2.2.2.1 + (1 : Int))))
    (some (x2, (x3, ())))

def bcseven_Ramp_l0 (F : Nat) : Nat → List Int → List Int → List Int → List Int → Int → Option (List Int × (List Int × Unit))
  | 0, _, _, _, _, _ => none
  | k + 1, x0, x1, x2, x3, x4 => bcseven_Ramp_l0S F (bcseven_Ramp_l0 F k) x0 x1 x2 x3 x4

/-- swatch/bcseven.Ramp -/
def bcseven_Ramp (F : Nat) (a0 : List Int) (a1 : List Int) : Option (List Int × Unit) :=
  (bcseven_Ramp_l0 F F a0 a1 bcseven_DecodeT283 bcseven_DecodeT283 (0 : Int)).bind fun r7155 =>
  some (r7155.2.1, ())

def ref09_Ramp_l2S (F : Nat) (rec : List Int → List Int → List Int → List Int → Int → Int → Option (List Int × (List Int × (List Int × (List Int × (Int × Unit)))))) (x0 : List Int) (x1 : List Int) (x2 : List Int) (x3 : List Int) (x4 : Int) (x5 : Int) : Option (List Int × (List Int × (List Int × (List Int × (Int × Unit))))) :=
  cond (decide (x5 < (4 : Int)))
    (let b7218 : Bool := ((decide ((0 : Int) ≤ x5)) && (decide (x5 < (4 : Int))))
    cond b7218
      (cond b7218
        ((ref09_mix F (List.getD x0 (Int.toNat x5) (0 : Int)) (List.getD x1 (Int.toNat x5) (0 : Int)) x4 (4 : Int)).bind fun r7222 =>
        cond ((decide ((0 : Int) ≤ x4)) && (decide (x4 < (16 : Int))))
          (cond b7218
            (rec x0 x1 x2 (List.set x3 (((Int.toNat x4) * 4) + (Int.toNat x5)) r7222.1) x4 (IntKind.wrap .i64 (x5 + (1 : Int))))
            (none))
          (none))
        (none))
      (none))
    (some (x0, (x1, (x2, (x3, (x4, ()))))))

def ref09_Ramp_l2 (F : Nat) : Nat → List Int → List Int → List Int → List Int → Int → Int → Option (List Int × (List Int × (List Int × (List Int × (Int × Unit)))))
  | 0, _, _, _, _, _, _ => none
  | k + 1, x0, x1, x2, x3, x4, x5 => ref09_Ramp_l2S F (ref09_Ramp_l2 F k) x0 x1 x2 x3 x4 x5

def ref09_Ramp_l0S (F : Nat) (rec : List Int → List Int → List Int → List Int → Int → Option (List Int × (List Int × Unit))) (x0 : List Int) (x1 : List Int) (x2 : List Int) (x3 : List Int) (x4 : Int) : Option (List Int × (List Int × Unit)) :=
  cond (decide (x4 < (16 : Int)))
    ((ref09_Ramp_l2 F F x0 x1 x2 x3 x4 (0 : Int)).bind fun r7228 =>
    rec r7228.1 r7228.2.1 r7228.2.2.1 r7228.2.2.2.1 (IntKind.wrap .i64 (r7228.2.2.2.2.1 + (1 : Int))))
    (some (x2, (x3, ())))

def ref09_Ramp_l0 (F : Nat) : Nat → List Int → List Int → List Int → List Int → Int → Option (List Int × (List Int × Unit))
  | 0, _, _, _, _, _ => none
  | k + 1, x0, x1, x2, x3, x4 => ref09_Ramp_l0S F (ref09_Ramp_l0 F k) x0 x1 x2 x3 x4

/-- swatch/swatchref09.Ramp -/
def ref09_Ramp (F : Nat) (a0 : List Int) (a1 : List Int) : Option (List Int × Unit) :=
  (ref09_Ramp_l0 F F a0 a1 bcseven_DecodeT283 bcseven_DecodeT283 (0 : Int)).bind fun r7230 =>
  some (r7230.2.1, ())

/-- swatch/swatchlaw09.BcsevenSix -/
def law09_BcsevenSix (F : Nat) (a0 : List Int) (a1 : List Int) (a2 : List Int) : Option (Bool × Unit) :=
  (law09_awake F).bind fun r5833 =>
  (bcseven_Six F a0 a1 a2).bind fun r5834 =>
  (ref09_Six F a0 a1 a2).bind fun r6845 =>
  (ref01_Same F r5834.1 r6845.1).bind fun r6884 =>
  (bcseven_Ends F a0 a1).bind fun r6984 =>
  (ref09_Ends F a0 a1).bind fun r7078 =>
  cond (!r6884.1)
    (some (false, ()))
    (cond (r5834.2.1 != r6845.2.1)
      (some (false, ()))
      (cond (!(r6984.1 == r7078.1))
        (some (false, ()))
        (cond r5833.1
          ((bcseven_Ramp F (List.take 4 r6984.1) (List.take 4 (List.drop 4 r6984.1))).bind fun r7156 =>
          (ref09_Ramp F (List.take 4 r7078.1) (List.take 4 (List.drop 4 r7078.1))).bind fun r7231 =>
          some ((r7156.1 == r7231.1), ()))
          (some (false, ())))))

def law09_BcsevenRamp_l0S (F : Nat) (rec : List Int → Bool → List Int → Int → List Int → List Int → List Int → Int → Option (Unit ⊕ (Bool × (Int × (List Int × (List Int × Unit)))))) (x0 : List Int) (x1 : Bool) (x2 : List Int) (x3 : Int) (x4 : List Int) (x5 : List Int) (x6 : List Int) (x7 : Int) : Option (Unit ⊕ (Bool × (Int × (List Int × (List Int × Unit))))) :=
  cond (decide (x7 < (16 : Int)))
    (let b7273 : Bool := ((decide ((0 : Int) ≤ x7)) && (decide (x7 < (16 : Int))))
    cond b7273
      (let n7274 : Nat := ((Int.toNat x7) * 4)
      cond b7273
        (let v7277 : Int := (List.getD x0 (Int.toNat x7) (0 : Int))
        cond ((decide ((0 : Int) ≤ v7277)) && (decide (v7277 < (16 : Int))))
          (cond (!((List.take 4 (List.drop n7274 x2)) == (List.take 4 (List.drop ((Int.toNat v7277) * 4) x5))))
            (some (.inl ()))
            (cond b7273
              (let v7283 : Int := (IntKind.wrap .i64 ((15 : Int) - x7))
              cond ((decide ((0 : Int) ≤ v7283)) && (decide (v7283 < (16 : Int))))
                (cond (!((List.take 4 (List.drop n7274 x5)) == (List.take 4 (List.drop ((Int.toNat v7283) * 4) x6))))
                  (some (.inl ()))
                  (rec x0 x1 x2 x3 x4 x5 x6 (IntKind.wrap .i64 (x7 + (1 : Int)))))
                (none))
              (none)))
          (none))
        (none))
      (none))
    (some (.inr (x1, (x3, (x4, (x5, ()))))))

def law09_BcsevenRamp_l0 (F : Nat) : Nat → List Int → Bool → List Int → Int → List Int → List Int → List Int → Int → Option (Unit ⊕ (Bool × (Int × (List Int × (List Int × Unit)))))
  | 0, _, _, _, _, _, _, _, _ => none
  | k + 1, x0, x1, x2, x3, x4, x5, x6, x7 => law09_BcsevenRamp_l0S F (law09_BcsevenRamp_l0 F k) x0 x1 x2 x3 x4 x5 x6 x7

/-- swatch/swatchlaw09.BcsevenRamp -/
def law09_BcsevenRamp (F : Nat) (a0 : List Int) (a1 : List Int) (a2 : List Int) : Option (Bool × Unit) :=
  (law09_awake F).bind fun r7233 =>
  (bcseven_Six F a0 a1 a2).bind fun r7234 =>
  cond (r7234.2.1 != (0 : Int))
    (cond r7233.1
      (cond (r7234.2.1 == (1 : Int))
        (some (((((List.length r7234.1) : Nat) : Int) == (0 : Int)), ()))
        (some (false, ())))
      (some (false, ())))
    ((bcseven_Decode F r7234.1).bind fun r7240 =>
    (bcseven_Ends F a0 a1).bind fun r7241 =>
    let l7242 : List Int := (List.take 4 r7241.1)
    let l7243 : List Int := (List.take 4 (List.drop 4 r7241.1))
    (bcseven_Ramp F l7242 l7243).bind fun r7244 =>
    (bcseven_Ramp F l7243 l7242).bind fun r7245 =>
    (law09_BcsevenRamp_l0 F F a2 r7233.1 r7240.1 r7240.2.1 r7241.1 r7244.1 r7245.1 (0 : Int)).bind fun r7289 => match r7289 with
      | .inl r7289 => (some (false, ()))
      | .inr r7289 => (cond r7289.1
          (cond (r7289.2.1 == (0 : Int))
            (cond ((List.take 4 r7289.2.2.2.1) == (List.take 4 r7289.2.2.1))
              (some (((List.take 4 (List.drop 60 r7289.2.2.2.1)) == (List.take 4 (List.drop 4 r7289.2.2.1))), ()))
              (some (false, ())))
            (some (false, ())))
          (some (false, ()))))

def law09_BcsevenTurns_l0S (F : Nat) (rec : Int → Bool → List Int → List Int → Int → Option (Bool × (List Int × (List Int × Unit)))) (x0 : Int) (x1 : Bool) (x2 : List Int) (x3 : List Int) (x4 : Int) : Option (Bool × (List Int × (List Int × Unit))) :=
  cond (decide (x4 < (16 : Int)))
    (let b7339 : Bool := ((decide ((0 : Int) ≤ x4)) && (decide (x4 < (16 : Int))))
    cond b7339
      (let n7340 : Nat := ((Int.toNat x4) * 4)
      let n7341 : Nat := (3 + n7340)
      let v7343 : Int := (IntKind.wrap .i64 (x0 - (1 : Int)))
      cond b7339
        (let b7344 : Bool := ((decide ((0 : Int) ≤ v7343)) && (decide (v7343 < (4 : Int))))
        cond b7344
          (let n7345 : Nat := (n7340 + (Int.toNat v7343))
          cond b7339
            (cond b7339
              (cond b7344
                (rec x0 x1 (List.set (List.set x2 n7341 (List.getD x2 n7345 (0 : Int))) n7345 (List.getD x2 n7341 (0 : Int))) x3 (IntKind.wrap .i64 (x4 + (1 : Int))))
                (none))
              (none))
            (none))
          (none))
        (none))
      (none))
    (some (x1, (x2, (x3, ()))))

def law09_BcsevenTurns_l0 (F : Nat) : Nat → Int → Bool → List Int → List Int → Int → Option (Bool × (List Int × (List Int × Unit)))
  | 0, _, _, _, _, _ => none
  | k + 1, x0, x1, x2, x3, x4 => law09_BcsevenTurns_l0S F (law09_BcsevenTurns_l0 F k) x0 x1 x2 x3 x4

/-- swatch/swatchlaw09.BcsevenTurns -/
def law09_BcsevenTurns (F : Nat) (a0 : List Int) (a1 : Int) : Option (Bool × Unit) :=
  (law09_awake F).bind fun r7299 =>
  cond ((((List.length a0) : Nat) : Int) != (16 : Int))
    (some (r7299.1, ()))
    (cond (decide (a1 < (1 : Int)))
      (some (r7299.1, ()))
      (cond (decide ((3 : Int) < a1))
        (some (r7299.1, ()))
        ((bcseven_Mode F a0).bind fun r7304 =>
        cond (r7304.1 != (4 : Int))
          (cond (r7304.1 != (5 : Int))
            (some (r7299.1, ()))
            (let v7307 : Int := (IntKind.wrap .i64 (r7304.1 + (1 : Int)))
            (bits_SetLow F a0 v7307 (2 : Int) (0 : Int)).bind fun r7308 =>
            (bits_SetLow F a0 v7307 (2 : Int) (IntKind.wrap .u64 a1)).bind fun r7311 =>
            (bcseven_Decode F r7308.1).bind fun r7313 =>
            (bcseven_Decode F r7311.1).bind fun r7314 =>
            cond (r7308.2.1 != (0 : Int))
              (some (false, ()))
              (cond (r7311.2.1 != (0 : Int))
                (some (false, ()))
                (cond (r7313.2.1 != (0 : Int))
                  (some (false, ()))
                  (cond (r7314.2.1 != (0 : Int))
                    (some (false, ()))
                    ((law09_BcsevenTurns_l0 F F a1 r7299.1 r7313.1 r7314.1 (0 : Int)).bind fun r7350 =>
                    cond r7350.1
                      (some ((r7350.2.1 == r7350.2.2.1), ()))
                      (some (false, ()))))))))
          (let v7352 : Int := (IntKind.wrap .i64 (r7304.1 + (1 : Int)))
          (bits_SetLow F a0 v7352 (2 : Int) (0 : Int)).bind fun r7353 =>
          (bits_SetLow F a0 v7352 (2 : Int) (IntKind.wrap .u64 a1)).bind fun r7356 =>
          (bcseven_Decode F r7353.1).bind fun r7358 =>
          (bcseven_Decode F r7356.1).bind fun r7359 =>
          cond (r7353.2.1 != (0 : Int))
            (some (false, ()))
            (cond (r7356.2.1 != (0 : Int))
              (some (false, ()))
              (cond (r7358.2.1 != (0 : Int))
                (some (false, ()))
                (cond (r7359.2.1 != (0 : Int))
                  (some (false, ()))
                  ((law09_BcsevenTurns_l0 F F a1 r7299.1 r7358.1 r7359.1 (0 : Int)).bind fun r7376 =>
                  cond r7376.1
                    (some ((r7376.2.1 == r7376.2.2.1), ()))
                    (some (false, ()))))))))))

def law09_BcsevenWithin_l2S (F : Nat) (rec : Bool → List Int → Int → Int → Int → Int → Option (Unit ⊕ (Bool × (List Int × (Int × (Int × (Int × Unit))))))) (x0 : Bool) (x1 : List Int) (x2 : Int) (x3 : Int) (x4 : Int) (x5 : Int) : Option (Unit ⊕ (Bool × (List Int × (Int × (Int × (Int × Unit)))))) :=
  cond (decide (x5 < (4 : Int)))
    (let b7445 : Bool := ((decide ((0 : Int) ≤ x4)) && (decide (x4 < (16 : Int))))
    cond b7445
      (let b7447 : Bool := ((decide ((0 : Int) ≤ x5)) && (decide (x5 < (4 : Int))))
      cond b7447
        (let v7449 : Int := (List.getD x1 (((Int.toNat x4) * 4) + (Int.toNat x5)) (0 : Int))
        cond (decide (v7449 < (0 : Int)))
          (some (.inl ()))
          (cond b7445
            (cond b7447
              (cond (decide ((255 : Int) < v7449))
                (some (.inl ()))
                (rec x0 x1 x2 x3 x4 (IntKind.wrap .i64 (x5 + (1 : Int)))))
              (none))
            (none)))
        (none))
      (none))
    (some (.inr (x0, (x1, (x2, (x3, (x4, ())))))))

def law09_BcsevenWithin_l2 (F : Nat) : Nat → Bool → List Int → Int → Int → Int → Int → Option (Unit ⊕ (Bool × (List Int × (Int × (Int × (Int × Unit))))))
  | 0, _, _, _, _, _, _ => none
  | k + 1, x0, x1, x2, x3, x4, x5 => law09_BcsevenWithin_l2S F (law09_BcsevenWithin_l2 F k) x0 x1 x2 x3 x4 x5

def law09_BcsevenWithin_l0S (F : Nat) (rec : Bool → List Int → Int → Int → Int → Option (Unit ⊕ (Bool × (List Int × (Int × (Int × Unit)))))) (x0 : Bool) (x1 : List Int) (x2 : Int) (x3 : Int) (x4 : Int) : Option (Unit ⊕ (Bool × (List Int × (Int × (Int × Unit))))) :=
  cond (decide (x4 < (16 : Int)))
    ((law09_BcsevenWithin_l2 F F x0 x1 x2 x3 x4 (0 : Int)).bind fun r7453 => match r7453 with
      | .inl r7453 => (some (.inl ()))
      | .inr r7453 => (cond (decide (r7453.2.2.2.1 < (4 : Int)))
          (cond ((decide ((0 : Int) ≤ r7453.2.2.2.2.1)) && (decide (r7453.2.2.2.2.1 < (16 : Int))))
            (cond ((List.getD r7453.2.1 (3 + ((Int.toNat r7453.2.2.2.2.1) * 4)) (0 : Int)) != (255 : Int))
              (some (.inl ()))
              (rec r7453.1 r7453.2.1 r7453.2.2.1 r7453.2.2.2.1 (IntKind.wrap .i64 (r7453.2.2.2.2.1 + (1 : Int)))))
            (none))
          (rec r7453.1 r7453.2.1 r7453.2.2.1 r7453.2.2.2.1 (IntKind.wrap .i64 (r7453.2.2.2.2.1 + (1 : Int))))))
    (some (.inr (x0, (x1, (x2, (x3, ()))))))

def law09_BcsevenWithin_l0 (F : Nat) : Nat → Bool → List Int → Int → Int → Int → Option (Unit ⊕ (Bool × (List Int × (Int × (Int × Unit)))))
  | 0, _, _, _, _, _ => none
  | k + 1, x0, x1, x2, x3, x4 => law09_BcsevenWithin_l0S F (law09_BcsevenWithin_l0 F k) x0 x1 x2 x3 x4

/-- swatch/swatchlaw09.BcsevenWithin -/
def law09_BcsevenWithin (F : Nat) (a0 : List Int) : Option (Bool × Unit) :=
  (law09_awake F).bind fun r7380 =>
  cond ((((List.length a0) : Nat) : Int) != (16 : Int))
    (some (r7380.1, ()))
    ((bcseven_Decode F a0).bind fun r7383 =>
    (bcseven_Mode F a0).bind fun r7384 =>
    (law09_BcsevenWithin_l0 F F r7380.1 r7383.1 r7383.2.1 r7384.1 (0 : Int)).bind fun r7462 => match r7462 with
      | .inl r7462 => (some (false, ()))
      | .inr r7462 => (cond r7462.1
          (cond (r7462.2.2.1 == (0 : Int))
            (cond (decide ((0 : Int) ≤ r7462.2.2.2.1))
              (cond (decide (r7462.2.2.2.1 ≤ (8 : Int)))
                ((ref03_Small F (List.getD r7462.2.1 0 (0 : Int))).bind fun r7469 =>
                some (r7469.1, ()))
                (some (false, ())))
              (some (false, ())))
            (some (false, ())))
          (some (false, ()))))

end Go.AE.Gn

/- Printed by a program of mine (gen.py): what the Go functions of this part come to. -/
import Derived.Test.YtaogfbhifeobmaaFw21
set_option linter.unusedSimpArgs false
set_option linter.unusedVariables false
namespace Go.AE.Gn
open Go Go.AE

/-- swatch/bits.room -/
def bits_room (F : Nat) (a0 : List Int) (a1 : Int) (a2 : Int) : Option (Bool × Unit) :=
  let v2 : Int := (IntKind.wrap .i64 ((8 : Int) * (((List.length a0) : Nat) : Int)))
  cond (decide (a1 ≤ v2))
    (let v4 : Int := (IntKind.wrap .i64 (v2 - a1))
    some ((decide (a2 ≤ v4)), ()))
    (some (false, ()))

/-- swatch/bits.check -/
def bits_check (F : Nat) (a0 : List Int) (a1 : Int) (a2 : Int) : Option (Int × Unit) :=
  cond (decide (a1 < (0 : Int)))
    (some ((1 : Int), ()))
    (cond (decide (a2 < (0 : Int)))
      (some ((1 : Int), ()))
      (cond (decide ((64 : Int) < a2))
        (some ((1 : Int), ()))
        ((bits_room F a0 a1 a2).bind fun r10 =>
        cond (!r10.1)
          (some ((2 : Int), ()))
          (some ((0 : Int), ())))))

def bits_spreadT0 : List Int := [0, 0, 0, 0, 0, 0, 0, 0]
def bits_spread_l0S (F : Nat) (rec : Int → List Int → List Int → Int → Option (List Int × (List Int × Unit))) (x0 : Int) (x1 : List Int) (x2 : List Int) (x3 : Int) : Option (List Int × (List Int × Unit)) :=
  cond (decide (x3 < (8 : Int)))
    (cond (decide ((0 : Int) ≤ x3))
      (cond ((decide ((0 : Int) ≤ x3)) && (decide (x3 < (8 : Int))))
        (rec x0 x1 (List.set x2 (Int.toNat x3) (iand .u8 (ishr .u8 x0 x3) (1 : Int))) (IntKind.wrap .i64 (x3 + (1 : Int))))
        (none))
      (none))
    (some (x1, (x2, ())))

def bits_spread_l0 (F : Nat) : Nat → Int → List Int → List Int → Int → Option (List Int × (List Int × Unit))
  | 0, _, _, _, _ => none
  | k + 1, x0, x1, x2, x3 => bits_spread_l0S F (bits_spread_l0 F k) x0 x1 x2 x3

/-- swatch/bits.spread -/
def bits_spread (F : Nat) (a0 : Int) : Option (List Int × Unit) :=
  (bits_spread_l0 F F a0 bits_spreadT0 bits_spreadT0 (0 : Int)).bind fun r31 =>
  let l32 : List Int := (if ((0 = 0) ∧ (8 = 8)) then r31.2.1 else (List.take 8 (List.drop 0 r31.2.1)))
  let l33 : List Int := (if ((0 = 0) ∧ (8 = 8)) then l32 else (((List.take 0 r31.1) ++ l32) ++ (List.drop 8 r31.1)))
  some ((if ((0 = 0) ∧ (8 = 8)) then l33 else (List.take 8 (List.drop 0 l33))), ())

/-- swatch/bits.low -/
def bits_low (F : Nat) (a0 : List Int) (a1 : Int) : Option (Int × Unit) :=
  let v36 : Int := (IntKind.wrap .i64 (Int.tdiv a1 (8 : Int)))
  cond ((decide ((0 : Int) ≤ v36)) && (decide (v36 < (((List.length a0) : Nat) : Int))))
    ((bits_spread F (List.getD a0 (Int.toNat v36) (0 : Int))).bind fun r40 =>
    let v41 : Int := (Int.tmod a1 (8 : Int))
    cond ((decide ((0 : Int) ≤ v41)) && (decide (v41 < (8 : Int))))
      (some ((List.getD r40.1 (Int.toNat v41) (0 : Int)), ()))
      (none))
    (none)

def bits_Low_l0S (F : Nat) (rec : List Int → Int → Int → Int → Int → Int → Option ((Int × Unit) ⊕ (Int × (Int × Unit)))) (x0 : List Int) (x1 : Int) (x2 : Int) (x3 : Int) (x4 : Int) (x5 : Int) : Option ((Int × Unit) ⊕ (Int × (Int × Unit))) :=
  cond (decide (x5 < x4))
    (cond (x2 != (0 : Int))
      (some (.inl (x2, ())))
      ((bits_low F x0 (IntKind.wrap .i64 (x1 + x5))).bind fun r66 =>
      cond (decide ((0 : Int) ≤ x5))
        (rec x0 x1 x2 (ior .u64 x3 (ishl .u64 r66.1 x5)) x4 (IntKind.wrap .i64 (x5 + (1 : Int))))
        (none)))
    (some (.inr (x2, (x3, ()))))

def bits_Low_l0 (F : Nat) : Nat → List Int → Int → Int → Int → Int → Int → Option ((Int × Unit) ⊕ (Int × (Int × Unit)))
  | 0, _, _, _, _, _, _ => none
  | k + 1, x0, x1, x2, x3, x4, x5 => bits_Low_l0S F (bits_Low_l0 F k) x0 x1 x2 x3 x4 x5

/-- swatch/bits.Low -/
def bits_Low (F : Nat) (a0 : List Int) (a1 : Int) (a2 : Int) : Option (Int × (Int × Unit)) :=
  (bits_check F a0 a1 a2).bind fun r45 =>
  (bits_Low_l0 F F a0 a1 r45.1 (0 : Int) a2 (0 : Int)).bind fun r71 => match r71 with
    | .inl r71 => (some ((0 : Int), (r71.1, ())))
    | .inr r71 => (some (r71.2.1, (r71.1, ())))

/-- swatch/bits.high -/
def bits_high (F : Nat) (a0 : List Int) (a1 : Int) : Option (Int × Unit) :=
  let v73 : Int := (IntKind.wrap .i64 (Int.tdiv a1 (8 : Int)))
  cond ((decide ((0 : Int) ≤ v73)) && (decide (v73 < (((List.length a0) : Nat) : Int))))
    ((bits_spread F (List.getD a0 (Int.toNat v73) (0 : Int))).bind fun r77 =>
    let v79 : Int := (IntKind.wrap .i64 ((7 : Int) - (Int.tmod a1 (8 : Int))))
    cond ((decide ((0 : Int) ≤ v79)) && (decide (v79 < (8 : Int))))
      (some ((List.getD r77.1 (Int.toNat v79) (0 : Int)), ()))
      (none))
    (none)

def bits_High_l0S (F : Nat) (rec : List Int → Int → Int → Int → Int → Int → Option ((Int × Unit) ⊕ (Int × (Int × Unit)))) (x0 : List Int) (x1 : Int) (x2 : Int) (x3 : Int) (x4 : Int) (x5 : Int) : Option ((Int × Unit) ⊕ (Int × (Int × Unit))) :=
  cond (decide (x5 < x4))
    (cond (x2 != (0 : Int))
      (some (.inl (x2, ())))
      ((bits_high F x0 (IntKind.wrap .i64 (x1 + x5))).bind fun r103 =>
      rec x0 x1 x2 (ior .u64 (ishl .u64 x3 (1 : Int)) r103.1) x4 (IntKind.wrap .i64 (x5 + (1 : Int)))))
    (some (.inr (x2, (x3, ()))))

def bits_High_l0 (F : Nat) : Nat → List Int → Int → Int → Int → Int → Int → Option ((Int × Unit) ⊕ (Int × (Int × Unit)))
  | 0, _, _, _, _, _, _ => none
  | k + 1, x0, x1, x2, x3, x4, x5 => bits_High_l0S F (bits_High_l0 F k) x0 x1 x2 x3 x4 x5

/-- swatch/bits.High -/
def bits_High (F : Nat) (a0 : List Int) (a1 : Int) (a2 : Int) : Option (Int × (Int × Unit)) :=
  (bits_check F a0 a1 a2).bind fun r83 =>
  (bits_High_l0 F F a0 a1 r83.1 (0 : Int) a2 (0 : Int)).bind fun r106 => match r106 with
    | .inl r106 => (some ((0 : Int), (r106.1, ())))
    | .inr r106 => (some (r106.2.1, (r106.1, ())))

/-- swatch/bits.fits -/
def bits_fits (F : Nat) (a0 : List Int) (a1 : Int) (a2 : Int) (a3 : Int) : Option (Int × Unit) :=
  (bits_check F a0 a1 a2).bind fun r108 =>
  cond (r108.1 != (0 : Int))
    (some (r108.1, ()))
    (cond (decide (a2 < (64 : Int)))
      (cond (decide ((0 : Int) ≤ a2))
        (cond ((ishr .u64 a3 a2) != (0 : Int))
          (some ((10 : Int), ()))
          (some ((0 : Int), ())))
        (none))
      (some ((0 : Int), ())))

/-- slices.Clone[[]byte,byte] -/
def slices_Clone_byte_byte (F : Nat) (a0 : List Int) : Option (List Int × Unit) := cloneF 1 a0

/-- swatch/bits.set -/
def bits_set (F : Nat) (a0 : Int) (a1 : Int) (a2 : Int) : Option (Int × Unit) :=
  let b114 : Bool := (decide ((0 : Int) ≤ a1))
  cond b114
    (cond b114
      (some ((ior .u8 (iandn .u8 a0 (ishl .u8 (1 : Int) a1)) (ishl .u8 (IntKind.wrap .u8 (iand .u64 a2 (1 : Int))) a1)), ()))
      (none))
    (none)

def bits_SetHigh_l0S (F : Nat) (rec : Int → Int → Int → List Int → Int → Int → Option (List Int × Unit)) (x0 : Int) (x1 : Int) (x2 : Int) (x3 : List Int) (x4 : Int) (x5 : Int) : Option (List Int × Unit) :=
  cond (decide (x5 < x4))
    (let v160 : Int := (IntKind.wrap .i64 ((IntKind.wrap .i64 ((IntKind.wrap .i64 (x0 + x1)) - (1 : Int))) - x5))
    let v161 : Int := (IntKind.wrap .i64 (Int.tdiv v160 (8 : Int)))
    let b162 : Bool := ((decide ((0 : Int) ≤ v161)) && (decide (v161 < (((List.length x3) : Nat) : Int))))
    cond b162
      (cond (decide ((0 : Int) ≤ x5))
        ((bits_set F (List.getD x3 (Int.toNat v161) (0 : Int)) (IntKind.wrap .i64 ((7 : Int) - (Int.tmod v160 (8 : Int)))) (ishr .u64 x2 x5)).bind fun r169 =>
        cond b162
          (rec x0 x1 x2 (List.set x3 (Int.toNat v161) r169.1) x4 (IntKind.wrap .i64 (x5 + (1 : Int))))
          (none))
        (none))
      (none))
    (some (x3, ()))

def bits_SetHigh_l0 (F : Nat) : Nat → Int → Int → Int → List Int → Int → Int → Option (List Int × Unit)
  | 0, _, _, _, _, _, _ => none
  | k + 1, x0, x1, x2, x3, x4, x5 => bits_SetHigh_l0S F (bits_SetHigh_l0 F k) x0 x1 x2 x3 x4 x5

/-- swatch/bits.SetHigh -/
def bits_SetHigh (F : Nat) (a0 : List Int) (a1 : Int) (a2 : Int) (a3 : Int) : Option (List Int × (Int × Unit)) :=
  (bits_fits F a0 a1 a2 a3).bind fun r122 =>
  cond (r122.1 != (0 : Int))
    (some ([], (r122.1, ())))
    ((slices_Clone_byte_byte F a0).bind fun r124 =>
    (bits_SetHigh_l0 F F a1 a2 a3 r124.1 a2 (0 : Int)).bind fun r172 =>
    some (r172.1, ((0 : Int), ())))

def bits_SetLow_l0S (F : Nat) (rec : Int → Int → List Int → Int → Int → Option (List Int × Unit)) (x0 : Int) (x1 : Int) (x2 : List Int) (x3 : Int) (x4 : Int) : Option (List Int × Unit) :=
  cond (decide (x4 < x3))
    (let v205 : Int := (IntKind.wrap .i64 (x0 + x4))
    let v206 : Int := (IntKind.wrap .i64 (Int.tdiv v205 (8 : Int)))
    let b207 : Bool := ((decide ((0 : Int) ≤ v206)) && (decide (v206 < (((List.length x2) : Nat) : Int))))
    cond b207
      (cond (decide ((0 : Int) ≤ x4))
        ((bits_set F (List.getD x2 (Int.toNat v206) (0 : Int)) (Int.tmod v205 (8 : Int)) (ishr .u64 x1 x4)).bind fun r213 =>
        cond b207
          (rec x0 x1 (List.set x2 (Int.toNat v206) r213.1) x3 (IntKind.wrap .i64 (x4 + (1 : Int))))
          (none))
        (none))
      (none))
    (some (x2, ()))

def bits_SetLow_l0 (F : Nat) : Nat → Int → Int → List Int → Int → Int → Option (List Int × Unit)
  | 0, _, _, _, _, _ => none
  | k + 1, x0, x1, x2, x3, x4 => bits_SetLow_l0S F (bits_SetLow_l0 F k) x0 x1 x2 x3 x4

/-- swatch/bits.SetLow -/
def bits_SetLow (F : Nat) (a0 : List Int) (a1 : Int) (a2 : Int) (a3 : Int) : Option (List Int × (Int × Unit)) :=
  (bits_fits F a0 a1 a2 a3).bind fun r175 =>
  cond (r175.1 != (0 : Int))
    (some ([], (r175.1, ())))
    ((slices_Clone_byte_byte F a0).bind fun r177 =>
    (bits_SetLow_l0 F F a1 a3 r177.1 a2 (0 : Int)).bind fun r216 =>
    some (r216.1, ((0 : Int), ())))

def bits_Lows_l1S (F : Nat) (rec : List Int → Int → Int → List Int → Int → Int → Option (List Int × Unit)) (x0 : List Int) (x1 : Int) (x2 : Int) (x3 : List Int) (x4 : Int) (x5 : Int) : Option (List Int × Unit) :=
  cond (decide (x5 < x4))
    (let v248 : Int := (IntKind.wrap .i64 (x5 * x2))
    let v249 : Int := (IntKind.wrap .i64 (x1 + v248))
    (bits_Low F x0 v249 x2).bind fun r250 =>
    let v251 : Int := (IntKind.wrap .i64 r250.1)
    cond ((decide (((List.length x3) + 1) ≤ 1099511627776)) && (if (false = true) then (decide (0 < 1)) else true))
      (rec x0 x1 x2 (x3 ++ [v251]) x4 (IntKind.wrap .i64 (x5 + (1 : Int))))
      (none))
    (some (x3, ()))

def bits_Lows_l1 (F : Nat) : Nat → List Int → Int → Int → List Int → Int → Int → Option (List Int × Unit)
  | 0, _, _, _, _, _, _ => none
  | k + 1, x0, x1, x2, x3, x4, x5 => bits_Lows_l1S F (bits_Lows_l1 F k) x0 x1 x2 x3 x4 x5

/-- swatch/bits.Lows -/
def bits_Lows (F : Nat) (a0 : List Int) (a1 : Int) (a2 : Int) (a3 : Int) : Option (List Int × (Int × Unit)) :=
  cond (decide (a1 < (0 : Int)))
    (some ([], ((1 : Int), ())))
    (cond (decide (a2 < (0 : Int)))
      (some ([], ((1 : Int), ())))
      (cond (decide ((16 : Int) < a2))
        (some ([], ((1 : Int), ())))
        (cond (decide (a3 < (0 : Int)))
          (some ([], ((1 : Int), ())))
          (cond (decide ((64 : Int) < a3))
            (some ([], ((1 : Int), ())))
            ((bits_room F a0 a1 (IntKind.wrap .i64 (a2 * a3))).bind fun r225 =>
            cond (!r225.1)
              (some ([], ((2 : Int), ())))
              ((bits_Lows_l1 F F a0 a1 a2 [] a3 (0 : Int)).bind fun r256 =>
              some (r256.1, ((0 : Int), ()))))))))

/-- swatch/swatchlaw02.awake -/
def law02_awake (F : Nat) : Option (Bool × Unit) :=
  (bits_Low F [(6 : Int)] (1 : Int) (2 : Int)).bind fun r258 =>
  (bits_High F [(6 : Int), (128 : Int)] (5 : Int) (4 : Int)).bind fun r259 =>
  (bits_SetHigh F [(0 : Int), (0 : Int)] (7 : Int) (2 : Int) (3 : Int)).bind fun r260 =>
  let n261 : Nat := (List.length r260.1)
  (bits_SetLow F [(0 : Int), (0 : Int)] (7 : Int) (2 : Int) (3 : Int)).bind fun r262 =>
  let n263 : Nat := (List.length r262.1)
  (bits_Lows F [(228 : Int)] (0 : Int) (2 : Int) (4 : Int)).bind fun r264 =>
  let n265 : Nat := (List.length r264.1)
  cond (r258.1 == (3 : Int))
    (cond (r258.2.1 == (0 : Int))
      (cond (r259.1 == (13 : Int))
        (cond (r259.2.1 == (0 : Int))
          (cond (((n261 : Nat) : Int) == (2 : Int))
            (cond (decide ((0 : Int) < ((n261 : Nat) : Int)))
              (cond ((List.getD r260.1 0 (0 : Int)) == (1 : Int))
                (cond (decide ((1 : Int) < ((n261 : Nat) : Int)))
                  (cond ((List.getD r260.1 1 (0 : Int)) == (128 : Int))
                    (cond (r260.2.1 == (0 : Int))
                      (cond (((n263 : Nat) : Int) == (2 : Int))
                        (cond (decide ((0 : Int) < ((n263 : Nat) : Int)))
                          (cond ((List.getD r262.1 0 (0 : Int)) == (128 : Int))
                            (cond (decide ((1 : Int) < ((n263 : Nat) : Int)))
                              (cond ((List.getD r262.1 1 (0 : Int)) == (1 : Int))
                                (cond (r262.2.1 == (0 : Int))
                                  (cond (((n265 : Nat) : Int) == (4 : Int))
                                    (cond (decide ((3 : Int) < ((n265 : Nat) : Int)))
                                      (cond ((List.getD r264.1 3 (0 : Int)) == (3 : Int))
                                        (some ((r264.2.1 == (0 : Int)), ()))
                                        (some (false, ())))
                                      (none))
                                    (some (false, ())))
                                  (some (false, ())))
                                (some (false, ())))
                              (none))
                            (some (false, ())))
                          (none))
                        (some (false, ())))
                      (some (false, ())))
                    (some (false, ())))
                  (none))
                (some (false, ())))
              (none))
            (some (false, ())))
          (some (false, ())))
        (some (false, ())))
      (some (false, ())))
    (some (false, ()))

/-- swatch/swatchref02.fits -/
def ref02_fits (F : Nat) (a0 : List Int) (a1 : Int) (a2 : Int) : Option (Bool × Unit) :=
  let v296 : Int := (IntKind.wrap .i64 ((8 : Int) * (((List.length a0) : Nat) : Int)))
  cond (decide (a1 ≤ v296))
    (let v298 : Int := (IntKind.wrap .i64 (v296 - a1))
    some ((decide (a2 ≤ v298)), ()))
    (some (false, ()))

def ref02_bit_l0S (F : Nat) (rec : Int → Int → Int → Option (Int × Unit)) (x0 : Int) (x1 : Int) (x2 : Int) : Option (Int × Unit) :=
  cond (decide (x2 < x0))
    (rec x0 (IntKind.wrap .i64 (Int.tdiv x1 (2 : Int))) (IntKind.wrap .i64 (x2 + (1 : Int))))
    (some (x1, ()))

def ref02_bit_l0 (F : Nat) : Nat → Int → Int → Int → Option (Int × Unit)
  | 0, _, _, _ => none
  | k + 1, x0, x1, x2 => ref02_bit_l0S F (ref02_bit_l0 F k) x0 x1 x2

/-- swatch/swatchref02.bit -/
def ref02_bit (F : Nat) (a0 : List Int) (a1 : Int) (a2 : Bool) : Option (Int × Unit) :=
  let v301 : Int := (Int.tmod a1 (8 : Int))
  cond a2
    (let v303 : Int := (IntKind.wrap .i64 (Int.tdiv a1 (8 : Int)))
    cond ((decide ((0 : Int) ≤ v303)) && (decide (v303 < (((List.length a0) : Nat) : Int))))
      ((ref02_bit_l0 F F (IntKind.wrap .i64 ((7 : Int) - v301)) (List.getD a0 (Int.toNat v303) (0 : Int)) (0 : Int)).bind fun r315 =>
      some ((Int.tmod r315.1 (2 : Int)), ()))
      (none))
    (let v317 : Int := (IntKind.wrap .i64 (Int.tdiv a1 (8 : Int)))
    cond ((decide ((0 : Int) ≤ v317)) && (decide (v317 < (((List.length a0) : Nat) : Int))))
      ((ref02_bit_l0 F F v301 (List.getD a0 (Int.toNat v317) (0 : Int)) (0 : Int)).bind fun r324 =>
      some ((Int.tmod r324.1 (2 : Int)), ()))
      (none))

def ref02_Get_l0S (F : Nat) (rec : List Int → Int → Int → Bool → Int → Int → Option (Int × Unit)) (x0 : List Int) (x1 : Int) (x2 : Int) (x3 : Bool) (x4 : Int) (x5 : Int) : Option (Int × Unit) :=
  cond (decide (x5 < x2))
    (cond x3
      ((ref02_bit F x0 (IntKind.wrap .i64 (x1 + x5)) x3).bind fun r367 =>
      rec x0 x1 x2 x3 (IntKind.wrap .u64 ((IntKind.wrap .u64 ((2 : Int) * x4)) + (IntKind.wrap .u64 r367.1))) (IntKind.wrap .i64 (x5 + (1 : Int))))
      ((ref02_bit F x0 (IntKind.wrap .i64 ((IntKind.wrap .i64 ((IntKind.wrap .i64 (x1 + x2)) - (1 : Int))) - x5)) x3).bind fun r372 =>
      rec x0 x1 x2 x3 (IntKind.wrap .u64 ((IntKind.wrap .u64 ((2 : Int) * x4)) + (IntKind.wrap .u64 r372.1))) (IntKind.wrap .i64 (x5 + (1 : Int)))))
    (some (x4, ()))

def ref02_Get_l0 (F : Nat) : Nat → List Int → Int → Int → Bool → Int → Int → Option (Int × Unit)
  | 0, _, _, _, _, _, _ => none
  | k + 1, x0, x1, x2, x3, x4, x5 => ref02_Get_l0S F (ref02_Get_l0 F k) x0 x1 x2 x3 x4 x5

/-- swatch/swatchref02.Get -/
def ref02_Get (F : Nat) (a0 : List Int) (a1 : Int) (a2 : Int) (a3 : Bool) : Option (Int × (Int × Unit)) :=
  cond (decide (a1 < (0 : Int)))
    (some ((0 : Int), ((1 : Int), ())))
    (cond (decide (a2 < (0 : Int)))
      (some ((0 : Int), ((1 : Int), ())))
      (cond (decide ((64 : Int) < a2))
        (some ((0 : Int), ((1 : Int), ())))
        ((ref02_fits F a0 a1 a2).bind fun r330 =>
        cond (!r330.1)
          (some ((0 : Int), ((2 : Int), ())))
          ((ref02_Get_l0 F F a0 a1 a2 a3 (0 : Int) (0 : Int)).bind fun r376 =>
          some (r376.1, ((0 : Int), ()))))))

def ref02_power_l0S (F : Nat) (rec : Int → Int → Int → Option (Int × Unit)) (x0 : Int) (x1 : Int) (x2 : Int) : Option (Int × Unit) :=
  cond (decide (x2 < x0))
    (rec x0 (IntKind.wrap .u64 ((2 : Int) * x1)) (IntKind.wrap .i64 (x2 + (1 : Int))))
    (some (x1, ()))

def ref02_power_l0 (F : Nat) : Nat → Int → Int → Int → Option (Int × Unit)
  | 0, _, _, _ => none
  | k + 1, x0, x1, x2 => ref02_power_l0S F (ref02_power_l0 F k) x0 x1 x2

/-- swatch/swatchref02.power -/
def ref02_power (F : Nat) (a0 : Int) : Option (Int × Unit) :=
  (ref02_power_l0 F F a0 (1 : Int) (0 : Int)).bind fun r384 =>
  some (r384.1, ())

def ref02_Set_l0S (F : Nat) (rec : Int → Int → Bool → Int → List Int → Int → Option (List Int × Unit)) (x0 : Int) (x1 : Int) (x2 : Bool) (x3 : Int) (x4 : List Int) (x5 : Int) : Option (List Int × Unit) :=
  cond (decide (x5 < x1))
    (let v540 : Int := (IntKind.wrap .i64 (x0 + x5))
    cond x2
      (let v543 : Int := (IntKind.wrap .i64 ((IntKind.wrap .i64 ((IntKind.wrap .i64 (x0 + x1)) - (1 : Int))) - x5))
      let v544 : Int := (Int.tmod v543 (8 : Int))
      cond x2
        ((ref02_bit F x4 v543 x2).bind fun r549 =>
        let v550 : Int := (IntKind.wrap .i64 (Int.tdiv v543 (8 : Int)))
        let b551 : Bool := ((decide ((0 : Int) ≤ v550)) && (decide (v550 < (((List.length x4) : Nat) : Int))))
        cond b551
          ((ref02_power F (IntKind.wrap .i64 ((7 : Int) - v544))).bind fun r555 =>
          cond b551
            (rec x0 x1 x2 (IntKind.wrap .u64 (Int.tdiv x3 (2 : Int))) (List.set x4 (Int.toNat v550) (IntKind.wrap .u8 (IntKind.wrap .i64 ((List.getD x4 (Int.toNat v550) (0 : Int)) + (IntKind.wrap .i64 ((IntKind.wrap .i64 ((IntKind.wrap .i64 (Int.tmod x3 (2 : Int))) - r549.1)) * (IntKind.wrap .i64 r555.1))))))) (IntKind.wrap .i64 (x5 + (1 : Int))))
            (none))
          (none))
        ((ref02_bit F x4 v543 x2).bind fun r565 =>
        let v566 : Int := (IntKind.wrap .i64 (Int.tdiv v543 (8 : Int)))
        let b567 : Bool := ((decide ((0 : Int) ≤ v566)) && (decide (v566 < (((List.length x4) : Nat) : Int))))
        cond b567
          ((ref02_power F v544).bind fun r571 =>
          cond b567
            (rec x0 x1 x2 (IntKind.wrap .u64 (Int.tdiv x3 (2 : Int))) (List.set x4 (Int.toNat v566) (IntKind.wrap .u8 (IntKind.wrap .i64 ((List.getD x4 (Int.toNat v566) (0 : Int)) + (IntKind.wrap .i64 ((IntKind.wrap .i64 ((IntKind.wrap .i64 (Int.tmod x3 (2 : Int))) - r565.1)) * (IntKind.wrap .i64 r571.1))))))) (IntKind.wrap .i64 (x5 + (1 : Int))))
            (none))
          (none)))
      (let v578 : Int := (Int.tmod v540 (8 : Int))
      cond x2
        ((ref02_bit F x4 v540 x2).bind fun r583 =>
        let v584 : Int := (IntKind.wrap .i64 (Int.tdiv v540 (8 : Int)))
        let b585 : Bool := ((decide ((0 : Int) ≤ v584)) && (decide (v584 < (((List.length x4) : Nat) : Int))))
        cond b585
          ((ref02_power F (IntKind.wrap .i64 ((7 : Int) - v578))).bind fun r589 =>
          cond b585
            (rec x0 x1 x2 (IntKind.wrap .u64 (Int.tdiv x3 (2 : Int))) (List.set x4 (Int.toNat v584) (IntKind.wrap .u8 (IntKind.wrap .i64 ((List.getD x4 (Int.toNat v584) (0 : Int)) + (IntKind.wrap .i64 ((IntKind.wrap .i64 ((IntKind.wrap .i64 (Int.tmod x3 (2 : Int))) - r583.1)) * (IntKind.wrap .i64 r589.1))))))) (IntKind.wrap .i64 (x5 + (1 : Int))))
            (none))
          (none))
        ((ref02_bit F x4 v540 x2).bind fun r599 =>
        let v600 : Int := (IntKind.wrap .i64 (Int.tdiv v540 (8 : Int)))
        let b601 : Bool := ((decide ((0 : Int) ≤ v600)) && (decide (v600 < (((List.length x4) : Nat) : Int))))
        cond b601
          ((ref02_power F v578).bind fun r605 =>
          cond b601
            (rec x0 x1 x2 (IntKind.wrap .u64 (Int.tdiv x3 (2 : Int))) (List.set x4 (Int.toNat v600) (IntKind.wrap .u8 (IntKind.wrap .i64 ((List.getD x4 (Int.toNat v600) (0 : Int)) + (IntKind.wrap .i64 ((IntKind.wrap .i64 ((IntKind.wrap .i64 (Int.tmod x3 (2 : Int))) - r599.1)) * (IntKind.wrap .i64 r605.1))))))) (IntKind.wrap .i64 (x5 + (1 : Int))))
            (none))
          (none))))
    (some (x4, ()))

def ref02_Set_l0 (F : Nat) : Nat → Int → Int → Bool → Int → List Int → Int → Option (List Int × Unit)
  | 0, _, _, _, _, _, _ => none
  | k + 1, x0, x1, x2, x3, x4, x5 => ref02_Set_l0S F (ref02_Set_l0 F k) x0 x1 x2 x3 x4 x5

/-- swatch/swatchref02.Set -/
def ref02_Set (F : Nat) (a0 : List Int) (a1 : Int) (a2 : Int) (a3 : Bool) (a4 : Int) : Option (List Int × (Int × Unit)) :=
  (ref02_Get F a0 a1 a2 a3).bind fun r386 =>
  cond (r386.2.1 != (0 : Int))
    (some ([], (r386.2.1, ())))
    (let b388 : Bool := (decide (a2 < (64 : Int)))
    cond b388
      ((ref02_power F a2).bind fun r389 =>
      let b390 : Bool := (decide (r389.1 ≤ a4))
      cond b390
        (some ([], ((10 : Int), ())))
        (cond ((decide ((0 + (List.length a0)) ≤ 1099511627776)) && (if (false = true) then (decide (0 < (List.length a0))) else true))
          ((ref02_Set_l0 F F a1 a2 a3 a4 ([] ++ a0) (0 : Int)).bind fun r612 =>
          some (r612.1, ((0 : Int), ())))
          (none)))
      (cond ((decide ((0 + (List.length a0)) ≤ 1099511627776)) && (if (false = true) then (decide (0 < (List.length a0))) else true))
        ((ref02_Set_l0 F F a1 a2 a3 a4 ([] ++ a0) (0 : Int)).bind fun r691 =>
        some (r691.1, ((0 : Int), ())))
        (none)))

def ref01_Same_l0S (F : Nat) (rec : List Int → List Int → Int → Option (Unit ⊕ Unit)) (x0 : List Int) (x1 : List Int) (x2 : Int) : Option (Unit ⊕ Unit) :=
  let v720 : Int := (((List.length x0) : Nat) : Int)
  cond (decide (x2 < v720))
    (cond ((decide ((0 : Int) ≤ x2)) && (decide (x2 < (((List.length x0) : Nat) : Int))))
      (cond ((decide ((0 : Int) ≤ x2)) && (decide (x2 < (((List.length x1) : Nat) : Int))))
        (cond ((List.getD x0 (Int.toNat x2) (0 : Int)) != (List.getD x1 (Int.toNat x2) (0 : Int)))
          (some (.inl ()))
          (rec x0 x1 (IntKind.wrap .i64 (x2 + (1 : Int)))))
        (none))
      (none))
    (some (.inr ()))

def ref01_Same_l0 (F : Nat) : Nat → List Int → List Int → Int → Option (Unit ⊕ Unit)
  | 0, _, _, _ => none
  | k + 1, x0, x1, x2 => ref01_Same_l0S F (ref01_Same_l0 F k) x0 x1 x2

/-- swatch/swatchref01.Same -/
def ref01_Same (F : Nat) (a0 : List Int) (a1 : List Int) : Option (Bool × Unit) :=
  cond ((((List.length a0) : Nat) : Int) != (((List.length a1) : Nat) : Int))
    (some (false, ()))
    ((ref01_Same_l0 F F a0 a1 (0 : Int)).bind fun r729 => match r729 with
      | .inl r729 => (some (false, ()))
      | .inr r729 => (some (true, ())))

def ref02_Lows_l0S (F : Nat) (rec : List Int → Int → Int → Int → List Int → Int → Option (List Int × Unit)) (x0 : List Int) (x1 : Int) (x2 : Int) (x3 : Int) (x4 : List Int) (x5 : Int) : Option (List Int × Unit) :=
  cond (decide (x5 < x3))
    (let v760 : Int := (IntKind.wrap .i64 (x5 * x2))
    let v761 : Int := (IntKind.wrap .i64 (x1 + v760))
    (ref02_Get F x0 v761 x2 false).bind fun r762 =>
    let v763 : Int := (IntKind.wrap .i64 r762.1)
    cond ((decide (((List.length x4) + 1) ≤ 1099511627776)) && (if (false = true) then (decide (0 < 1)) else true))
      (rec x0 x1 x2 x3 (x4 ++ [v763]) (IntKind.wrap .i64 (x5 + (1 : Int))))
      (none))
    (some (x4, ()))

def ref02_Lows_l0 (F : Nat) : Nat → List Int → Int → Int → Int → List Int → Int → Option (List Int × Unit)
  | 0, _, _, _, _, _, _ => none
  | k + 1, x0, x1, x2, x3, x4, x5 => ref02_Lows_l0S F (ref02_Lows_l0 F k) x0 x1 x2 x3 x4 x5

/-- swatch/swatchref02.Lows -/
def ref02_Lows (F : Nat) (a0 : List Int) (a1 : Int) (a2 : Int) (a3 : Int) : Option (List Int × (Int × Unit)) :=
  cond (decide (a1 < (0 : Int)))
    (some ([], ((1 : Int), ())))
    (cond (decide (a2 < (0 : Int)))
      (some ([], ((1 : Int), ())))
      (cond (decide ((16 : Int) < a2))
        (some ([], ((1 : Int), ())))
        (cond (decide (a3 < (0 : Int)))
          (some ([], ((1 : Int), ())))
          (cond (decide ((64 : Int) < a3))
            (some ([], ((1 : Int), ())))
            ((ref02_fits F a0 a1 (IntKind.wrap .i64 (a2 * a3))).bind fun r737 =>
            cond (!r737.1)
              (some ([], ((2 : Int), ())))
              ((ref02_Lows_l0 F F a0 a1 a2 a3 [] (0 : Int)).bind fun r768 =>
              some (r768.1, ((0 : Int), ()))))))))

def law02_BitsTell_l0S (F : Nat) (rec : Bool → Int → Int → Int → Int → Int → Int → Int → Int → Int → Int → Int → Int → Bool → Bool → List Int → Int → List Int → Int → Int → Option (Unit ⊕ (Bool × (Int × (Int × (Int × (Int × (Int × (Int × (Int × (Int × (Int × (Int × (Int × (Int × (Bool × (Bool × (Int × (Int × Unit))))))))))))))))))) (x0 : Bool) (x1 : Int) (x2 : Int) (x3 : Int) (x4 : Int) (x5 : Int) (x6 : Int) (x7 : Int) (x8 : Int) (x9 : Int) (x10 : Int) (x11 : Int) (x12 : Int) (x13 : Bool) (x14 : Bool) (x15 : List Int) (x16 : Int) (x17 : List Int) (x18 : Int) (x19 : Int) : Option (Unit ⊕ (Bool × (Int × (Int × (Int × (Int × (Int × (Int × (Int × (Int × (Int × (Int × (Int × (Int × (Bool × (Bool × (Int × (Int × Unit)))))))))))))))))) :=
  let v820 : Int := (((List.length x15) : Nat) : Int)
  cond (decide (x19 < v820))
    (cond ((decide ((0 : Int) ≤ x19)) && (decide (x19 < (((List.length x15) : Nat) : Int))))
      (cond ((decide ((0 : Int) ≤ x19)) && (decide (x19 < (((List.length x17) : Nat) : Int))))
        (cond ((List.getD x15 (Int.toNat x19) (0 : Int)) != (List.getD x17 (Int.toNat x19) (0 : Int)))
          (some (.inl ()))
          (rec x0 x1 x2 x3 x4 x5 x6 x7 x8 x9 x10 x11 x12 x13 x14 x15 x16 x17 x18 (IntKind.wrap .i64 (x19 + (1 : Int)))))
        (none))
      (none))
    (some (.inr (x0, (x1, (x2, (x3, (x4, (x5, (x6, (x7, (x8, (x9, (x10, (x11, (x12, (x13, (x14, (x16, (x18, ())))))))))))))))))))

def law02_BitsTell_l0 (F : Nat) : Nat → Bool → Int → Int → Int → Int → Int → Int → Int → Int → Int → Int → Int → Int → Bool → Bool → List Int → Int → List Int → Int → Int → Option (Unit ⊕ (Bool × (Int × (Int × (Int × (Int × (Int × (Int × (Int × (Int × (Int × (Int × (Int × (Int × (Bool × (Bool × (Int × (Int × Unit))))))))))))))))))
  | 0, _, _, _, _, _, _, _, _, _, _, _, _, _, _, _, _, _, _, _, _ => none
  | k + 1, x0, x1, x2, x3, x4, x5, x6, x7, x8, x9, x10, x11, x12, x13, x14, x15, x16, x17, x18, x19 => law02_BitsTell_l0S F (law02_BitsTell_l0 F k) x0 x1 x2 x3 x4 x5 x6 x7 x8 x9 x10 x11 x12 x13 x14 x15 x16 x17 x18 x19

/-- swatch/swatchlaw02.BitsTell -/
def law02_BitsTell (F : Nat) (a0 : List Int) (a1 : List Int) (a2 : Int) : Option (Bool × Unit) :=
  (law02_awake F).bind fun r771 =>
  let v772 : Int := (((List.length a0) : Nat) : Int)
  cond (decide ((64 : Int) < v772))
    (some (r771.1, ()))
    (let v774 : Int := (List.getD a1 0 (0 : Int))
    let v775 : Int := (List.getD a1 1 (0 : Int))
    (bits_Low F a0 v774 v775).bind fun r776 =>
    (ref02_Get F a0 v774 v775 false).bind fun r777 =>
    (bits_High F a0 v774 v775).bind fun r778 =>
    (ref02_Get F a0 v774 v775 true).bind fun r779 =>
    (bits_SetLow F a0 v774 v775 a2).bind fun r780 =>
    (ref02_Set F a0 v774 v775 false a2).bind fun r782 =>
    (bits_SetHigh F a0 v774 v775 a2).bind fun r784 =>
    (ref02_Set F a0 v774 v775 true a2).bind fun r786 =>
    (ref01_Same F r780.1 r782.1).bind fun r788 =>
    (ref01_Same F r784.1 r786.1).bind fun r789 =>
    let v790 : Int := (List.getD a1 2 (0 : Int))
    (bits_Lows F a0 v774 v775 v790).bind fun r791 =>
    (ref02_Lows F a0 v774 v775 v790).bind fun r793 =>
    cond ((((List.length r791.1) : Nat) : Int) != (((List.length r793.1) : Nat) : Int))
      (some (false, ()))
      ((law02_BitsTell_l0 F F r771.1 r776.1 r776.2.1 r777.1 r777.2.1 r778.1 r778.2.1 r779.1 r779.2.1 r780.2.1 r782.2.1 r784.2.1 r786.2.1 r788.1 r789.1 r791.1 r791.2.1 r793.1 r793.2.1 (0 : Int)).bind fun r829 => match r829 with
        | .inl r829 => (some (false, ()))
        | .inr r829 => (cond r829.1
            (cond (r829.2.1 == r829.2.2.2.1)
              (cond (r829.2.2.1 == r829.2.2.2.2.1)
                (cond (r829.2.2.2.2.2.1 == r829.2.2.2.2.2.2.2.1)
                  (cond (r829.2.2.2.2.2.2.1 == r829.2.2.2.2.2.2.2.2.1)
                    (cond r829.2.2.2.2.2.2.2.2.2.2.2.2.2.1
                      (cond (r829.2.2.2.2.2.2.2.2.2.1 == r829.2.2.2.2.2.2.2.2.2.2.1)
                        (cond r829.2.2.2.2.2.2.2.2.2.2.2.2.2.2.1
                          (cond (r829.2.2.2.2.2.2.2.2.2.2.2.1 == r829.2.2.2.2.2.2.2.2.2.2.2.2.1)
                            (some ((r829.2.2.2.2.2.2.2.2.2.2.2.2.2.2.2.1 == r829.2.2.2.2.2.2.2.2.2.2.2.2.2.2.2.2.1), ()))
                            (some (false, ())))
                          (some (false, ())))
                        (some (false, ())))
                      (some (false, ())))
                    (some (false, ())))
                  (some (false, ())))
                (some (false, ())))
              (some (false, ())))
            (some (false, ())))))

def law02_BitsBack_l0S (F : Nat) (rec : List Int → List Int → Bool → List Int → List Int → Int → Option (Unit ⊕ (Bool × Unit))) (x0 : List Int) (x1 : List Int) (x2 : Bool) (x3 : List Int) (x4 : List Int) (x5 : Int) : Option (Unit ⊕ (Bool × Unit)) :=
  let v916 : Int := (IntKind.wrap .i64 ((8 : Int) * (((List.length x0) : Nat) : Int)))
  cond (decide (x5 < v916))
    (let v918 : Int := (List.getD x1 0 (0 : Int))
    cond (decide (v918 ≤ x5))
      (let v921 : Int := (IntKind.wrap .i64 (v918 + (List.getD x1 1 (0 : Int))))
      cond (decide (x5 < v921))
        (rec x0 x1 x2 x3 x4 (IntKind.wrap .i64 (x5 + (1 : Int))))
        ((bits_Low F x3 x5 (1 : Int)).bind fun r924 =>
        (bits_Low F x0 x5 (1 : Int)).bind fun r925 =>
        (bits_High F x4 x5 (1 : Int)).bind fun r926 =>
        (bits_High F x0 x5 (1 : Int)).bind fun r927 =>
        cond (r924.1 != r925.1)
          (some (.inl ()))
          (cond (r926.1 != r927.1)
            (some (.inl ()))
            (rec x0 x1 x2 x3 x4 (IntKind.wrap .i64 (x5 + (1 : Int)))))))
      ((bits_Low F x3 x5 (1 : Int)).bind fun r931 =>
      (bits_Low F x0 x5 (1 : Int)).bind fun r932 =>
      (bits_High F x4 x5 (1 : Int)).bind fun r933 =>
      (bits_High F x0 x5 (1 : Int)).bind fun r934 =>
      cond (r931.1 != r932.1)
        (some (.inl ()))
        (cond (r933.1 != r934.1)
          (some (.inl ()))
          (rec x0 x1 x2 x3 x4 (IntKind.wrap .i64 (x5 + (1 : Int)))))))
    (some (.inr (x2, ())))

def law02_BitsBack_l0 (F : Nat) : Nat → List Int → List Int → Bool → List Int → List Int → Int → Option (Unit ⊕ (Bool × Unit))
  | 0, _, _, _, _, _, _ => none
  | k + 1, x0, x1, x2, x3, x4, x5 => law02_BitsBack_l0S F (law02_BitsBack_l0 F k) x0 x1 x2 x3 x4 x5

/-- swatch/swatchlaw02.BitsBack -/
def law02_BitsBack (F : Nat) (a0 : List Int) (a1 : List Int) (a2 : Int) : Option (Bool × Unit) :=
  (law02_awake F).bind fun r838 =>
  let v839 : Int := (((List.length a0) : Nat) : Int)
  cond (decide ((64 : Int) < v839))
    (some (r838.1, ()))
    (let v841 : Int := (List.getD a1 0 (0 : Int))
    let v842 : Int := (List.getD a1 1 (0 : Int))
    (bits_SetLow F a0 v841 v842 a2).bind fun r843 =>
    let n844 : Nat := (List.length r843.1)
    (bits_SetHigh F a0 v841 v842 a2).bind fun r845 =>
    let n846 : Nat := (List.length r845.1)
    cond (r843.2.1 != r845.2.1)
      (some (false, ()))
      (cond (r843.2.1 != (0 : Int))
        (cond r838.1
          (cond (((n844 : Nat) : Int) == (0 : Int))
            (some ((((n846 : Nat) : Int) == (0 : Int)), ()))
            (some (false, ())))
          (some (false, ())))
        ((bits_Low F r843.1 v841 v842).bind fun r853 =>
        (bits_High F r845.1 v841 v842).bind fun r854 =>
        cond (r853.2.1 != (0 : Int))
          (some (false, ()))
          (cond (r854.2.1 != (0 : Int))
            (some (false, ()))
            (cond (r853.1 != a2)
              (some (false, ()))
              (cond (r854.1 != a2)
                (some (false, ()))
                (cond (((n844 : Nat) : Int) != v839)
                  (some (false, ()))
                  (cond (((n846 : Nat) : Int) != v839)
                    (some (false, ()))
                    ((law02_BitsBack_l0 F F a0 a1 r838.1 r843.1 r845.1 (0 : Int)).bind fun r938 => match r938 with
                      | .inl r938 => (some (false, ()))
                      | .inr r938 => (some (r938.1, ())))))))))))

def law02_turned_l0S (F : Nat) (rec : Int → Int → Int → Option (Int × Unit)) (x0 : Int) (x1 : Int) (x2 : Int) : Option (Int × Unit) :=
  cond (decide (x2 < (8 : Int)))
    (rec (IntKind.wrap .u8 (Int.tdiv x0 (2 : Int))) (IntKind.wrap .i64 ((IntKind.wrap .i64 ((2 : Int) * x1)) + (Int.tmod x0 (2 : Int)))) (IntKind.wrap .i64 (x2 + (1 : Int))))
    (some (x1, ()))

def law02_turned_l0 (F : Nat) : Nat → Int → Int → Int → Option (Int × Unit)
  | 0, _, _, _ => none
  | k + 1, x0, x1, x2 => law02_turned_l0S F (law02_turned_l0 F k) x0 x1 x2

/-- swatch/swatchlaw02.turned -/
def law02_turned (F : Nat) (a0 : Int) : Option (Int × Unit) :=
  (law02_turned_l0 F F a0 (0 : Int) (0 : Int)).bind fun r954 =>
  some ((IntKind.wrap .u8 r954.1), ())

def law02_BitsTurn_l0S (F : Nat) (rec : List Int → Int → Bool → List Int → Int → Option (List Int × (Int × (Bool × (List Int × Unit))))) (x0 : List Int) (x1 : Int) (x2 : Bool) (x3 : List Int) (x4 : Int) : Option (List Int × (Int × (Bool × (List Int × Unit)))) :=
  let v981 : Int := (((List.length x0) : Nat) : Int)
  cond (decide (x4 < v981))
    (cond ((decide ((0 : Int) ≤ x4)) && (decide (x4 < (((List.length x0) : Nat) : Int))))
      (let v985 : Int := (List.getD x0 (Int.toNat x4) (0 : Int))
      (law02_turned F v985).bind fun r986 =>
      cond ((decide (((List.length x3) + 1) ≤ 1099511627776)) && (if (false = true) then (decide (0 < 1)) else true))
        (rec x0 x1 x2 (x3 ++ [r986.1]) (IntKind.wrap .i64 (x4 + (1 : Int))))
        (none))
      (none))
    (some (x0, (x1, (x2, (x3, ())))))

def law02_BitsTurn_l0 (F : Nat) : Nat → List Int → Int → Bool → List Int → Int → Option (List Int × (Int × (Bool × (List Int × Unit))))
  | 0, _, _, _, _, _ => none
  | k + 1, x0, x1, x2, x3, x4 => law02_BitsTurn_l0S F (law02_BitsTurn_l0 F k) x0 x1 x2 x3 x4

/-- swatch/swatchlaw02.BitsTurn -/
def law02_BitsTurn (F : Nat) (a0 : List Int) (a1 : Int) : Option (Bool × Unit) :=
  (law02_awake F).bind fun r957 =>
  let v958 : Int := (((List.length a0) : Nat) : Int)
  cond (decide ((64 : Int) < v958))
    (some (r957.1, ()))
    ((law02_BitsTurn_l0 F F a0 a1 r957.1 [] (0 : Int)).bind fun r991 =>
    (bits_Low F r991.1 r991.2.1 (1 : Int)).bind fun r994 =>
    (bits_High F r991.2.2.2.1 r991.2.1 (1 : Int)).bind fun r995 =>
    cond r991.2.2.1
      (cond (r994.1 == r995.1)
        (some ((r994.2.1 == r995.2.1), ()))
        (some (false, ())))
      (some (false, ())))

end Go.AE.Gn

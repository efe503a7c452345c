/- Printed by a program of mine (gen.py): what the Go functions of this part come to. -/
import Derived.Test.YtaogfbhifeobmaaA02defs
import Derived.Test.YtaogfbhifeobmaaA07defs
set_option linter.unusedSimpArgs false
set_option linter.unusedVariables false
namespace Go.AE.Gn
open Go Go.AE

/-- swatch/eac.at -/
def eac_at (F : Nat) (a0 : Int) : Option (Int × Unit) :=
  some ((IntKind.wrap .i64 ((16 : Int) + (IntKind.wrap .i64 ((3 : Int) * (IntKind.wrap .i64 ((IntKind.wrap .i64 ((4 : Int) * (Int.tmod a0 (4 : Int)))) + (IntKind.wrap .i64 (Int.tdiv a0 (4 : Int))))))))), ())

def eac_JoinT0 : List Int := [0, 0, 0, 0, 0, 0, 0, 0]
def eac_Join_l0S (F : Nat) (rec : List Int → List Int → List Int → Int → Option (List Int × (List Int × Unit))) (x0 : List Int) (x1 : List Int) (x2 : List Int) (x3 : Int) : Option (List Int × (List Int × Unit)) :=
  let n25 : Nat := ((List.length x1) / 3)
  cond (decide (x3 < (16 : Int)))
    (cond ((decide ((0 : Int) ≤ x3)) && (decide (x3 < (16 : Int))))
      (let v28 : Int := (List.getD x2 (Int.toNat x3) (0 : Int))
      (eac_at F x3).bind fun r29 =>
      cond ((decide ((n25 + 1) ≤ 1099511627776)) && (if (false = true) then (decide (0 < 1)) else true))
        (rec x0 (x1 ++ [r29.1, (3 : Int), v28]) x2 (IntKind.wrap .i64 (x3 + (1 : Int))))
        (none))
      (none))
    (some (x0, (x1, ())))

def eac_Join_l0 (F : Nat) : Nat → List Int → List Int → List Int → Int → Option (List Int × (List Int × Unit))
  | 0, _, _, _, _ => none
  | k + 1, x0, x1, x2, x3 => eac_Join_l0S F (eac_Join_l0 F k) x0 x1 x2 x3

def eac_Join_l2S (F : Nat) (rec : List Int → List Int → Int → Int → Option (List Int × (Bool × Unit))) (x0 : List Int) (x1 : List Int) (x2 : Int) (x3 : Int) : Option (List Int × (Bool × Unit)) :=
  let n67 : Nat := ((List.length x1) / 3)
  cond (decide (x3 < x2))
    (cond ((decide ((0 : Int) ≤ x3)) && (decide (x3 < ((n67 : Nat) : Int))))
      (let l71 : List Int := (List.take 3 (List.drop ((Int.toNat x3) * 3) x1))
      let l72 : List Int := (if ((0 = 0) ∧ (3 = 3)) then l71 else (((List.take 0 [(0 : Int), (0 : Int), (0 : Int)]) ++ l71) ++ (List.drop 3 [(0 : Int), (0 : Int), (0 : Int)])))
      (bits_SetHigh F x0 (List.getD l72 0 (0 : Int)) (List.getD l72 1 (0 : Int)) (IntKind.wrap .u64 (List.getD l72 2 (0 : Int)))).bind fun r77 =>
      cond (r77.2.1 != (0 : Int))
        (some (x0, (false, ())))
        (rec r77.1 x1 x2 (IntKind.wrap .i64 (x3 + (1 : Int)))))
      (none))
    (some (x0, (true, ())))

def eac_Join_l2 (F : Nat) : Nat → List Int → List Int → Int → Int → Option (List Int × (Bool × Unit))
  | 0, _, _, _, _ => none
  | k + 1, x0, x1, x2, x3 => eac_Join_l2S F (eac_Join_l2 F k) x0 x1 x2 x3

/-- swatch/eac.Join -/
def eac_Join (F : Nat) (a0 : Int) (a1 : Int) (a2 : Int) (a3 : List Int) : Option (List Int × (Int × Unit)) :=
  (eac_Join_l0 F F eac_JoinT0 [(0 : Int), (8 : Int), a0, (8 : Int), (4 : Int), a1, (12 : Int), (4 : Int), a2] (if ((0 = 0) ∧ (16 = 16)) then a3 else (List.take 16 (List.drop 0 a3))) (0 : Int)).bind fun r34 =>
  (eac_Join_l2 F F r34.1 r34.2.1 ((((List.length r34.2.1) / 3) : Nat) : Int) (0 : Int)).bind fun r81 =>
  cond (!r81.2.1)
    (some ([], ((1 : Int), ())))
    (some (r81.1, ((0 : Int), ())))

/-- swatch/eac.Parts$1 -/
def eac_Parts_c1 (F : Nat) (a0 : Int) (a1 : Int) (a2 : List Int) : Option (Int × Unit) :=
  (bits_High F a2 a0 a1).bind fun r85 =>
  some ((IntKind.wrap .i64 r85.1), ())

def eac_PartsT1 : List Int := [0, 0, 0, 0, 0, 0, 0, 0, 0, 0, 0, 0, 0, 0, 0, 0]
def eac_Parts_l0S (F : Nat) (rec : List Int → List Int → List Int → Int → Option (List Int × (List Int × (List Int × Unit)))) (x0 : List Int) (x1 : List Int) (x2 : List Int) (x3 : Int) : Option (List Int × (List Int × (List Int × Unit))) :=
  cond (decide (x3 < (16 : Int)))
    ((eac_at F x3).bind fun r100 =>
    (eac_Parts_c1 F r100.1 (3 : Int) x2).bind fun r101 =>
    cond ((decide ((0 : Int) ≤ x3)) && (decide (x3 < (16 : Int))))
      (rec x0 (List.set x1 (Int.toNat x3) r101.1) x2 (IntKind.wrap .i64 (x3 + (1 : Int))))
      (none))
    (some (x0, (x1, (x2, ()))))

def eac_Parts_l0 (F : Nat) : Nat → List Int → List Int → List Int → Int → Option (List Int × (List Int × (List Int × Unit)))
  | 0, _, _, _, _ => none
  | k + 1, x0, x1, x2, x3 => eac_Parts_l0S F (eac_Parts_l0 F k) x0 x1 x2 x3

/-- swatch/eac.Parts -/
def eac_Parts (F : Nat) (a0 : List Int) : Option (Int × (Int × (Int × (List Int × (Int × Unit))))) :=
  cond ((((List.length a0) : Nat) : Int) != (8 : Int))
    (some ((0 : Int), ((0 : Int), ((0 : Int), (eac_PartsT1, ((1 : Int), ()))))))
    ((eac_Parts_l0 F F eac_PartsT1 eac_PartsT1 a0 (0 : Int)).bind fun r106 =>
    (eac_Parts_c1 F (0 : Int) (8 : Int) r106.2.2.1).bind fun r108 =>
    (eac_Parts_c1 F (8 : Int) (4 : Int) r106.2.2.1).bind fun r109 =>
    (eac_Parts_c1 F (12 : Int) (4 : Int) r106.2.2.1).bind fun r110 =>
    some (r108.1, (r109.1, (r110.1, (r106.2.1, ((0 : Int), ()))))))

def eac_TableT2 : List Int := [-3, -6, -9, -15, 2, 5, 8, 14]
def eac_TableT3 : List Int := [-3, -7, -10, -13, 2, 6, 9, 12]
def eac_TableT4 : List Int := [-2, -5, -8, -13, 1, 4, 7, 12]
def eac_TableT5 : List Int := [-2, -4, -6, -13, 1, 3, 5, 12]
def eac_TableT6 : List Int := [-3, -6, -8, -12, 2, 5, 7, 11]
def eac_TableT7 : List Int := [-3, -7, -9, -11, 2, 6, 8, 10]
def eac_TableT8 : List Int := [-4, -7, -8, -11, 3, 6, 7, 10]
def eac_TableT9 : List Int := [-3, -5, -8, -11, 2, 4, 7, 10]
def eac_TableT10 : List Int := [-2, -6, -8, -10, 1, 5, 7, 9]
def eac_TableT11 : List Int := [-2, -5, -8, -10, 1, 4, 7, 9]
def eac_TableT12 : List Int := [-2, -4, -8, -10, 1, 3, 7, 9]
def eac_TableT13 : List Int := [-2, -5, -7, -10, 1, 4, 6, 9]
def eac_TableT14 : List Int := [-3, -4, -7, -10, 2, 3, 6, 9]
def eac_TableT15 : List Int := [-1, -2, -3, -10, 0, 1, 2, 9]
def eac_TableT16 : List Int := [-4, -6, -8, -9, 3, 5, 7, 8]
def eac_TableT17 : List Int := [-3, -5, -7, -9, 2, 4, 6, 8]
def eac_TableT18 : List Int := [-3, -6, -9, -15, 2, 5, 8, 14, -3, -7, -10, -13, 2, 6, 9, 12, -2, -5, -8, -13, 1, 4, 7, 12, -2, -4, -6, -13, 1, 3, 5, 12, -3, -6, -8, -12, 2, 5, 7, 11, -3, -7, -9, -11, 2, 6, 8, 10, -4, -7, -8, -11, 3, 6, 7, 10, -3, -5, -8, -11, 2, 4, 7, 10, -2, -6, -8, -10, 1, 5, 7, 9, -2, -5, -8, -10, 1, 4, 7, 9, -2, -4, -8, -10, 1, 3, 7, 9, -2, -5, -7, -10, 1, 4, 6, 9, -3, -4, -7, -10, 2, 3, 6, 9, -1, -2, -3, -10, 0, 1, 2, 9, -4, -6, -8, -9, 3, 5, 7, 8, -3, -5, -7, -9, 2, 4, 6, 8]
def eac_TableT19 : List Int := [0, 0, 0, 0, 0, 0, 0, 0, 0, 0, 0, 0, 0, 0, 0, 0, 0, 0, 0, 0, 0, 0, 0, 0, 0, 0, 0, 0, 0, 0, 0, 0, 0, 0, 0, 0, 0, 0, 0, 0, 0, 0, 0, 0, 0, 0, 0, 0, 0, 0, 0, 0, 0, 0, 0, 0, 0, 0, 0, 0, 0, 0, 0, 0, 0, 0, 0, 0, 0, 0, 0, 0, 0, 0, 0, 0, 0, 0, 0, 0, 0, 0, 0, 0, 0, 0, 0, 0, 0, 0, 0, 0, 0, 0, 0, 0, 0, 0, 0, 0, 0, 0, 0, 0, 0, 0, 0, 0, 0, 0, 0, 0, 0, 0, 0, 0, 0, 0, 0, 0, 0, 0, 0, 0, 0, 0, 0, 0]
/-- swatch/eac.Table -/
def eac_Table (F : Nat) (a0 : Int) : Option (List Int × Unit) :=
  let v118 : Int := (iand .i64 a0 (15 : Int))
  cond ((decide ((0 : Int) ≤ v118)) && (decide (v118 < (16 : Int))))
    (let l121 : List Int := (List.take 8 (List.drop ((Int.toNat v118) * 8) eac_TableT18))
    let l122 : List Int := (if ((0 = 0) ∧ (8 = 8)) then l121 else (((List.take 0 eac_JoinT0) ++ l121) ++ (List.drop 8 eac_JoinT0)))
    some ((if ((0 = 0) ∧ (8 = 8)) then l122 else (List.take 8 (List.drop 0 l122))), ()))
    (none)

/-- swatch/eac.Value -/
def eac_Value (F : Nat) (a0 : Int) (a1 : Int) (a2 : Int) (a3 : Bool) : Option (Int × Unit) :=
  cond (!a3)
    ((level_Clamp F (IntKind.wrap .i64 (a0 + (IntKind.wrap .i64 (a2 * a1)))) (255 : Int)).bind fun r129 =>
    some (r129.1, ()))
    (cond (a1 == (0 : Int))
      ((level_Clamp F (IntKind.wrap .i64 ((IntKind.wrap .i64 ((IntKind.wrap .i64 ((8 : Int) * a0)) + (4 : Int))) + a2)) (2047 : Int)).bind fun r134 =>
      some (r134.1, ()))
      ((level_Clamp F (IntKind.wrap .i64 ((IntKind.wrap .i64 ((8 : Int) * (IntKind.wrap .i64 (a0 + (IntKind.wrap .i64 (a2 * a1)))))) + (4 : Int))) (2047 : Int)).bind fun r139 =>
      some (r139.1, ())))

def eac_Decode_l0S (F : Nat) (rec : Bool → List Int → Int → Int → List Int → List Int → List Int → Int → Option (List Int × (List Int × Unit))) (x0 : Bool) (x1 : List Int) (x2 : Int) (x3 : Int) (x4 : List Int) (x5 : List Int) (x6 : List Int) (x7 : Int) : Option (List Int × (List Int × Unit)) :=
  cond (decide (x7 < (16 : Int)))
    (let b167 : Bool := ((decide ((0 : Int) ≤ x7)) && (decide (x7 < (16 : Int))))
    cond b167
      (let v168 : Int := (List.getD x6 (Int.toNat x7) (0 : Int))
      cond ((decide ((0 : Int) ≤ v168)) && (decide (v168 < (8 : Int))))
        ((eac_Value F x2 x3 (List.getD x5 (Int.toNat v168) (0 : Int)) x0).bind fun r172 =>
        cond b167
          (rec x0 x1 x2 x3 (List.set x4 (Int.toNat x7) r172.1) x5 x6 (IntKind.wrap .i64 (x7 + (1 : Int))))
          (none))
        (none))
      (none))
    (some (x1, (x4, ())))

def eac_Decode_l0 (F : Nat) : Nat → Bool → List Int → Int → Int → List Int → List Int → List Int → Int → Option (List Int × (List Int × Unit))
  | 0, _, _, _, _, _, _, _, _ => none
  | k + 1, x0, x1, x2, x3, x4, x5, x6, x7 => eac_Decode_l0S F (eac_Decode_l0 F k) x0 x1 x2 x3 x4 x5 x6 x7

/-- swatch/eac.Decode -/
def eac_Decode (F : Nat) (a0 : List Int) (a1 : Bool) : Option (List Int × (Int × Unit)) :=
  (eac_Parts F a0).bind fun r141 =>
  let l142 : List Int := (if ((0 = 0) ∧ (16 = 16)) then r141.2.2.2.1 else (((List.take 0 eac_PartsT1) ++ r141.2.2.2.1) ++ (List.drop 16 eac_PartsT1)))
  cond (r141.2.2.2.2.1 != (0 : Int))
    (let l144 : List Int := (if ((0 = 0) ∧ (16 = 16)) then l142 else (List.take 16 (List.drop 0 l142)))
    let l145 : List Int := (if ((0 = 0) ∧ (16 = 16)) then l144 else (((List.take 0 eac_PartsT1) ++ l144) ++ (List.drop 16 eac_PartsT1)))
    some ((if ((0 = 0) ∧ (16 = 16)) then l145 else (List.take 16 (List.drop 0 l145))), (r141.2.2.2.2.1, ())))
    ((eac_Table F r141.2.2.1).bind fun r147 =>
    (eac_Decode_l0 F F a1 eac_PartsT1 r141.1 r141.2.1 l142 (if ((0 = 0) ∧ (8 = 8)) then r147.1 else (((List.take 0 eac_JoinT0) ++ r147.1) ++ (List.drop 8 eac_JoinT0))) (if ((0 = 0) ∧ (16 = 16)) then l142 else (List.take 16 (List.drop 0 l142))) (0 : Int)).bind fun r176 =>
    let l177 : List Int := (if ((0 = 0) ∧ (16 = 16)) then r176.2.1 else (List.take 16 (List.drop 0 r176.2.1)))
    let l178 : List Int := (if ((0 = 0) ∧ (16 = 16)) then l177 else (((List.take 0 r176.1) ++ l177) ++ (List.drop 16 r176.1)))
    some ((if ((0 = 0) ∧ (16 = 16)) then l178 else (List.take 16 (List.drop 0 l178))), ((0 : Int), ())))

def law12_awakeT20 : List Int := [4, 3, 0, 0, 7, 0, 0, 0, 0, 0, 0, 0, 0, 0, 0, 0]
/-- swatch/swatchlaw12.awake -/
def law12_awake (F : Nat) : Option (Bool × Unit) :=
  (eac_Join F (100 : Int) (2 : Int) (13 : Int) law12_awakeT20).bind fun r180 =>
  (eac_Decode F r180.1 false).bind fun r182 =>
  let l183 : List Int := (if ((0 = 0) ∧ (16 = 16)) then r182.1 else (((List.take 0 eac_PartsT1) ++ r182.1) ++ (List.drop 16 eac_PartsT1)))
  (eac_Decode F r180.1 true).bind fun r184 =>
  let l185 : List Int := (if ((0 = 0) ∧ (16 = 16)) then r184.1 else (((List.take 0 eac_PartsT1) ++ r184.1) ++ (List.drop 16 eac_PartsT1)))
  cond (r180.2.1 == (0 : Int))
    (cond (r182.2.1 == (0 : Int))
      (cond (r184.2.1 == (0 : Int))
        (cond ((List.getD l183 0 (0 : Int)) == (100 : Int))
          (cond ((List.getD l183 1 (0 : Int)) == (80 : Int))
            (cond ((List.getD l183 4 (0 : Int)) == (118 : Int))
              (cond ((List.getD l183 5 (0 : Int)) == (98 : Int))
                (cond ((List.getD l185 0 (0 : Int)) == (804 : Int))
                  (cond ((List.getD l185 1 (0 : Int)) == (644 : Int))
                    ((eac_Value F (10 : Int) (2 : Int) (-(3 : Int)) false).bind fun r201 =>
                    cond (r201.1 == (4 : Int))
                      ((eac_Value F (10 : Int) (0 : Int) (-(3 : Int)) true).bind fun r203 =>
                      cond (r203.1 == (81 : Int))
                        ((eac_Table F (1 : Int)).bind fun r205 =>
                        some (((List.getD r205.1 3 (0 : Int)) == (-(13 : Int))), ()))
                        (some (false, ())))
                      (some (false, ())))
                    (some (false, ())))
                  (some (false, ())))
                (some (false, ())))
              (some (false, ())))
            (some (false, ())))
          (some (false, ())))
        (some (false, ())))
      (some (false, ())))
    (some (false, ()))

/-- swatch/swatchlaw12.EacBack -/
def law12_EacBack (F : Nat) (a0 : List Int) : Option (Bool × Unit) :=
  (law12_awake F).bind fun r209 =>
  (eac_Parts F a0).bind fun r210 =>
  let l211 : List Int := (if ((0 = 0) ∧ (16 = 16)) then r210.2.2.2.1 else (((List.take 0 eac_PartsT1) ++ r210.2.2.2.1) ++ (List.drop 16 eac_PartsT1)))
  cond ((((List.length a0) : Nat) : Int) != (8 : Int))
    (cond r209.1
      (some ((r210.2.2.2.2.1 == (1 : Int)), ()))
      (some (false, ())))
    ((eac_Join F r210.1 r210.2.1 r210.2.2.1 (if ((0 = 0) ∧ (16 = 16)) then l211 else (List.take 16 (List.drop 0 l211)))).bind fun r216 =>
    (ref01_Same F a0 r216.1).bind fun r218 =>
    cond r209.1
      (cond (r210.2.2.2.2.1 == (0 : Int))
        (cond (r216.2.1 == (0 : Int))
          (some (r218.1, ()))
          (some (false, ())))
        (some (false, ())))
      (some (false, ())))

def law12_EacRises_l0S (F : Nat) (rec : Bool → Bool → Int → Int → List Int → Int → Int → List Int → Int → Int → Int → Option (Unit ⊕ (Bool × (Int × (Int × (Int × Unit)))))) (x0 : Bool) (x1 : Bool) (x2 : Int) (x3 : Int) (x4 : List Int) (x5 : Int) (x6 : Int) (x7 : List Int) (x8 : Int) (x9 : Int) (x10 : Int) : Option (Unit ⊕ (Bool × (Int × (Int × (Int × Unit))))) :=
  cond (decide (x10 < (16 : Int)))
    (let b253 : Bool := ((decide ((0 : Int) ≤ x10)) && (decide (x10 < (16 : Int))))
    cond b253
      (let v255 : Int := (List.getD x4 (Int.toNat x10) (0 : Int))
      cond (decide (v255 < (0 : Int)))
        (some (.inl ()))
        (cond b253
          (cond (decide (x9 < v255))
            (some (.inl ()))
            (cond b253
              (let v258 : Int := (List.getD x7 (Int.toNat x10) (0 : Int))
              cond b253
                (cond (decide (v258 < v255))
                  (some (.inl ()))
                  (cond (x3 == (0 : Int))
                    (cond (!x0)
                      (cond b253
                        (cond (v255 != x2)
                          (some (.inl ()))
                          (rec x0 x1 x2 x3 x4 x5 x6 x7 x8 x9 (IntKind.wrap .i64 (x10 + (1 : Int)))))
                        (none))
                      (rec x0 x1 x2 x3 x4 x5 x6 x7 x8 x9 (IntKind.wrap .i64 (x10 + (1 : Int)))))
                    (rec x0 x1 x2 x3 x4 x5 x6 x7 x8 x9 (IntKind.wrap .i64 (x10 + (1 : Int))))))
                (none))
              (none)))
          (none)))
      (none))
    (some (.inr (x1, (x5, (x6, (x8, ()))))))

def law12_EacRises_l0 (F : Nat) : Nat → Bool → Bool → Int → Int → List Int → Int → Int → List Int → Int → Int → Int → Option (Unit ⊕ (Bool × (Int × (Int × (Int × Unit)))))
  | 0, _, _, _, _, _, _, _, _, _, _, _ => none
  | k + 1, x0, x1, x2, x3, x4, x5, x6, x7, x8, x9, x10 => law12_EacRises_l0S F (law12_EacRises_l0 F k) x0 x1 x2 x3 x4 x5 x6 x7 x8 x9 x10

/-- swatch/swatchlaw12.EacRises -/
def law12_EacRises (F : Nat) (a0 : List Int) (a1 : Int) (a2 : Bool) : Option (Bool × Unit) :=
  (law12_awake F).bind fun r222 =>
  cond ((((List.length a0) : Nat) : Int) != (8 : Int))
    (some (r222.1, ()))
    (cond (decide (a1 < (0 : Int)))
      (some (r222.1, ()))
      (cond (decide ((255 : Int) < a1))
        (some (r222.1, ()))
        ((eac_Parts F a0).bind fun r227 =>
        let l228 : List Int := (if ((0 = 0) ∧ (16 = 16)) then r227.2.2.2.1 else (((List.take 0 eac_PartsT1) ++ r227.2.2.2.1) ++ (List.drop 16 eac_PartsT1)))
        (eac_Decode F a0 a2).bind fun r229 =>
        let l230 : List Int := (if ((0 = 0) ∧ (16 = 16)) then r229.1 else (((List.take 0 eac_PartsT1) ++ r229.1) ++ (List.drop 16 eac_PartsT1)))
        (eac_Join F (min (IntKind.wrap .i64 (r227.1 + a1)) (255 : Int)) r227.2.1 r227.2.2.1 (if ((0 = 0) ∧ (16 = 16)) then l228 else (List.take 16 (List.drop 0 l228)))).bind fun r234 =>
        (eac_Decode F r234.1 a2).bind fun r236 =>
        let l237 : List Int := (if ((0 = 0) ∧ (16 = 16)) then r236.1 else (((List.take 0 eac_PartsT1) ++ r236.1) ++ (List.drop 16 eac_PartsT1)))
        cond a2
          ((law12_EacRises_l0 F F a2 r222.1 r227.1 r227.2.1 l230 r229.2.1 r234.2.1 l237 r236.2.1 (2047 : Int) (0 : Int)).bind fun r266 => match r266 with
            | .inl r266 => (some (false, ()))
            | .inr r266 => (cond r266.1
                (cond (r266.2.1 == (0 : Int))
                  (cond (r266.2.2.1 == (0 : Int))
                    (some ((r266.2.2.2.1 == (0 : Int)), ()))
                    (some (false, ())))
                  (some (false, ())))
                (some (false, ()))))
          ((law12_EacRises_l0 F F a2 r222.1 r227.1 r227.2.1 l230 r229.2.1 r234.2.1 l237 r236.2.1 (255 : Int) (0 : Int)).bind fun r284 => match r284 with
            | .inl r284 => (some (false, ()))
            | .inr r284 => (cond r284.1
                (cond (r284.2.1 == (0 : Int))
                  (cond (r284.2.2.1 == (0 : Int))
                    (some ((r284.2.2.2.1 == (0 : Int)), ()))
                    (some (false, ())))
                  (some (false, ())))
                (some (false, ())))))))

end Go.AE.Gn

/- Printed by a program of mine (gen.py): what the Go functions of this part come to. -/
import Derived.Test.YtaogfbhifeobmaaA02defs
set_option linter.unusedSimpArgs false
set_option linter.unusedVariables false
namespace Go.AE.Gn
open Go Go.AE

def law07_awakeT2 : List Int := [0, 1, 2, 7, 0, 0, 0, 0, 0, 0, 0, 0, 0, 0, 0, 0]
def bcfour_joinedT53 : List Int := [0, 0, 0, 0, 0, 0, 0, 0]
def bcfour_joined_l0S (F : Nat) (rec : Int → Int → Int → List Int → Int → Option (Unit ⊕ (Int × Unit))) (x0 : Int) (x1 : Int) (x2 : Int) (x3 : List Int) (x4 : Int) : Option (Unit ⊕ (Int × Unit)) :=
  cond (decide (x4 < (16 : Int)))
    (cond ((decide ((0 : Int) ≤ x4)) && (decide (x4 < (16 : Int))))
      (let v198 : Int := (List.getD x3 (Int.toNat x4) (0 : Int))
      cond (decide (v198 < (0 : Int)))
        (some (.inl ()))
        (cond (decide ((0 : Int) ≤ x2))
          (let v201 : Int := (ishl .i64 (1 : Int) x2)
          cond (decide (v201 ≤ v198))
            (some (.inl ()))
            (let v205 : Int := (IntKind.wrap .i64 (x1 + (IntKind.wrap .i64 (x2 * x4))))
            cond (decide ((0 : Int) ≤ v205))
              (rec (ior .u64 x0 (ishl .u64 (IntKind.wrap .u64 v198) v205)) x1 x2 x3 (IntKind.wrap .i64 (x4 + (1 : Int))))
              (none)))
          (none)))
      (none))
    (some (.inr (x0, ())))

def bcfour_joined_l0 (F : Nat) : Nat → Int → Int → Int → List Int → Int → Option (Unit ⊕ (Int × Unit))
  | 0, _, _, _, _, _ => none
  | k + 1, x0, x1, x2, x3, x4 => bcfour_joined_l0S F (bcfour_joined_l0 F k) x0 x1 x2 x3 x4

/-- swatch/bcfour.joined -/
def bcfour_joined (F : Nat) (a0 : Int) (a1 : Int) (a2 : Int) (a3 : List Int) : Option (List Int × (Int × Unit)) :=
  (bcfour_joined_l0 F F a0 a1 a2 (if ((0 = 0) ∧ (16 = 16)) then a3 else (List.take 16 (List.drop 0 a3))) (0 : Int)).bind fun r210 => match r210 with
    | .inl r210 => (some ([], ((1 : Int), ())))
    | .inr r210 => ((bits_SetLow F bcfour_joinedT53 (0 : Int) (64 : Int) r210.1).bind fun r211 =>
      some (r211.1, (r211.2.1, ())))

/-- swatch/bcfour.Join -/
def bcfour_Join (F : Nat) (a0 : Int) (a1 : Int) (a2 : List Int) : Option (List Int × (Int × Unit)) :=
  cond (decide (a0 < (0 : Int)))
    (some ([], ((1 : Int), ())))
    (cond (decide ((255 : Int) < a0))
      (some ([], ((1 : Int), ())))
      (cond (decide (a1 < (0 : Int)))
        (some ([], ((1 : Int), ())))
        (cond (decide ((255 : Int) < a1))
          (some ([], ((1 : Int), ())))
          ((bcfour_joined F (ior .u64 (IntKind.wrap .u64 a0) (ishl .u64 (IntKind.wrap .u64 a1) (8 : Int))) (16 : Int) (3 : Int) (if ((0 = 0) ∧ (16 = 16)) then a2 else (List.take 16 (List.drop 0 a2)))).bind fun r224 =>
          some (r224.1, (r224.2.1, ()))))))

def bcfour_DecodeT229 : List Int := [0, 0, 0, 0, 0, 0, 0, 0, 0, 0, 0, 0, 0, 0, 0, 0]
/-- swatch/bcfour.Parts -/
def bcfour_Parts (F : Nat) (a0 : List Int) : Option (Int × (Int × (List Int × (Int × Unit)))) :=
  cond ((((List.length a0) : Nat) : Int) != (8 : Int))
    (some ((0 : Int), ((0 : Int), (bcfour_DecodeT229, ((1 : Int), ())))))
    ((bits_Lows F a0 (16 : Int) (3 : Int) (16 : Int)).bind fun r373 =>
    let n374 : Nat := (List.length r373.1)
    let l376 : List Int := (((List.take 0 bcfour_DecodeT229) ++ (List.take (min n374 16) r373.1)) ++ (List.drop (0 + (min n374 16)) bcfour_DecodeT229))
    cond (decide ((0 : Int) < (((List.length a0) : Nat) : Int)))
      (cond (decide ((1 : Int) < (((List.length a0) : Nat) : Int)))
        (let l381 : List Int := (if ((0 = 0) ∧ (16 = 16)) then l376 else (List.take 16 (List.drop 0 l376)))
        let l382 : List Int := (if ((0 = 0) ∧ (16 = 16)) then l381 else (((List.take 0 bcfour_DecodeT229) ++ l381) ++ (List.drop 16 bcfour_DecodeT229)))
        some ((List.getD a0 0 (0 : Int)), ((List.getD a0 1 (0 : Int)), ((if ((0 = 0) ∧ (16 = 16)) then l382 else (List.take 16 (List.drop 0 l382))), ((0 : Int), ())))))
        (none))
      (none))

/-- swatch/level.Mix -/
def level_Mix (F : Nat) (a0 : Int) (a1 : Int) (a2 : Int) (a3 : Int) (a4 : Int) : Option (Int × Unit) :=
  cond (decide (a3 < (1 : Int)))
    (some ((0 : Int), ()))
    (let v396 : Int := (IntKind.wrap .i64 ((IntKind.wrap .i64 ((IntKind.wrap .i64 (a0 * (IntKind.wrap .i64 (a3 - a2)))) + (IntKind.wrap .i64 (a1 * a2)))) + a4))
    let b397 : Bool := (!(a3 == (0 : Int)))
    cond b397
      (let v398 : Int := (IntKind.wrap .i64 (Int.tdiv v396 a3))
      cond b397
        (cond (decide ((Int.tmod v396 a3) < (0 : Int)))
          (some ((IntKind.wrap .i64 (v398 - (1 : Int))), ()))
          (some (v398, ())))
        (none))
      (none))

def bcfour_Ramp_l0S (F : Nat) (rec : Int → Int → List Int → List Int → Int → Int → Int → Option (List Int × (List Int × Unit))) (x0 : Int) (x1 : Int) (x2 : List Int) (x3 : List Int) (x4 : Int) (x5 : Int) (x6 : Int) : Option (List Int × (List Int × Unit)) :=
  cond (decide (x6 < x5))
    (let v442 : Int := (IntKind.wrap .i64 (x6 + (2 : Int)))
    let v443 : Int := (IntKind.wrap .i64 (x6 + (1 : Int)))
    (level_Mix F x0 x1 v443 x4 (0 : Int)).bind fun r444 =>
    cond ((decide ((0 : Int) ≤ v442)) && (decide (v442 < (8 : Int))))
      (rec x0 x1 x2 (List.set x3 (Int.toNat v442) r444.1) x4 x5 v443)
      (none))
    (some (x2, (x3, ())))

def bcfour_Ramp_l0 (F : Nat) : Nat → Int → Int → List Int → List Int → Int → Int → Int → Option (List Int × (List Int × Unit))
  | 0, _, _, _, _, _, _, _ => none
  | k + 1, x0, x1, x2, x3, x4, x5, x6 => bcfour_Ramp_l0S F (bcfour_Ramp_l0 F k) x0 x1 x2 x3 x4 x5 x6

/-- swatch/bcfour.Ramp -/
def bcfour_Ramp (F : Nat) (a0 : Int) (a1 : Int) : Option (List Int × Unit) :=
  cond (decide (a0 ≤ a1))
    ((bcfour_Ramp_l0 F F a0 a1 bcfour_joinedT53 [a0, a1, (0 : Int), (0 : Int), (0 : Int), (0 : Int), (0 : Int), (255 : Int)] (5 : Int) (4 : Int) (0 : Int)).bind fun r448 =>
    let l449 : List Int := (if ((0 = 0) ∧ (8 = 8)) then r448.2.1 else (List.take 8 (List.drop 0 r448.2.1)))
    let l450 : List Int := (if ((0 = 0) ∧ (8 = 8)) then l449 else (((List.take 0 r448.1) ++ l449) ++ (List.drop 8 r448.1)))
    some ((if ((0 = 0) ∧ (8 = 8)) then l450 else (List.take 8 (List.drop 0 l450))), ()))
    ((bcfour_Ramp_l0 F F a0 a1 bcfour_joinedT53 [a0, a1, (0 : Int), (0 : Int), (0 : Int), (0 : Int), (0 : Int), (0 : Int)] (7 : Int) (6 : Int) (0 : Int)).bind fun r459 =>
    let l460 : List Int := (if ((0 = 0) ∧ (8 = 8)) then r459.2.1 else (List.take 8 (List.drop 0 r459.2.1)))
    let l461 : List Int := (if ((0 = 0) ∧ (8 = 8)) then l460 else (((List.take 0 r459.1) ++ l460) ++ (List.drop 8 r459.1)))
    some ((if ((0 = 0) ∧ (8 = 8)) then l461 else (List.take 8 (List.drop 0 l461))), ()))

def bcfour_Decode_l0S (F : Nat) (rec : List Int → List Int → List Int → List Int → Int → Option (List Int × (List Int × Unit))) (x0 : List Int) (x1 : List Int) (x2 : List Int) (x3 : List Int) (x4 : Int) : Option (List Int × (List Int × Unit)) :=
  cond (decide (x4 < (16 : Int)))
    (let b481 : Bool := ((decide ((0 : Int) ≤ x4)) && (decide (x4 < (16 : Int))))
    cond b481
      (let v482 : Int := (List.getD x3 (Int.toNat x4) (0 : Int))
      cond ((decide ((0 : Int) ≤ v482)) && (decide (v482 < (8 : Int))))
        (cond b481
          (rec x0 (List.set x1 (Int.toNat x4) (List.getD x2 (Int.toNat v482) (0 : Int))) x2 x3 (IntKind.wrap .i64 (x4 + (1 : Int))))
          (none))
        (none))
      (none))
    (some (x0, (x1, ())))

def bcfour_Decode_l0 (F : Nat) : Nat → List Int → List Int → List Int → List Int → Int → Option (List Int × (List Int × Unit))
  | 0, _, _, _, _, _ => none
  | k + 1, x0, x1, x2, x3, x4 => bcfour_Decode_l0S F (bcfour_Decode_l0 F k) x0 x1 x2 x3 x4

/-- swatch/bcfour.Decode -/
def bcfour_Decode (F : Nat) (a0 : List Int) : Option (List Int × (Int × Unit)) :=
  (bcfour_Parts F a0).bind fun r384 =>
  let l385 : List Int := (if ((0 = 0) ∧ (16 = 16)) then r384.2.2.1 else (((List.take 0 bcfour_DecodeT229) ++ r384.2.2.1) ++ (List.drop 16 bcfour_DecodeT229)))
  cond (r384.2.2.2.1 != (0 : Int))
    (let l387 : List Int := (if ((0 = 0) ∧ (16 = 16)) then l385 else (List.take 16 (List.drop 0 l385)))
    let l388 : List Int := (if ((0 = 0) ∧ (16 = 16)) then l387 else (((List.take 0 bcfour_DecodeT229) ++ l387) ++ (List.drop 16 bcfour_DecodeT229)))
    some ((if ((0 = 0) ∧ (16 = 16)) then l388 else (List.take 16 (List.drop 0 l388))), (r384.2.2.2.1, ())))
    ((bcfour_Ramp F r384.1 r384.2.1).bind fun r463 =>
    (bcfour_Decode_l0 F F bcfour_DecodeT229 l385 (if ((0 = 0) ∧ (8 = 8)) then r463.1 else (((List.take 0 bcfour_joinedT53) ++ r463.1) ++ (List.drop 8 bcfour_joinedT53))) (if ((0 = 0) ∧ (16 = 16)) then l385 else (List.take 16 (List.drop 0 l385))) (0 : Int)).bind fun r489 =>
    let l490 : List Int := (if ((0 = 0) ∧ (16 = 16)) then r489.2.1 else (List.take 16 (List.drop 0 r489.2.1)))
    let l491 : List Int := (if ((0 = 0) ∧ (16 = 16)) then l490 else (((List.take 0 r489.1) ++ l490) ++ (List.drop 16 r489.1)))
    some ((if ((0 = 0) ∧ (16 = 16)) then l491 else (List.take 16 (List.drop 0 l491))), ((0 : Int), ())))

def law07_awakeT495 : List Int := [15, 1, 0, 0, 0, 0, 0, 0, 0, 0, 0, 0, 0, 0, 0, 0]
/-- swatch/bcfour.JoinFours -/
def bcfour_JoinFours (F : Nat) (a0 : List Int) : Option (List Int × (Int × Unit)) :=
  (bcfour_joined F (0 : Int) (0 : Int) (4 : Int) (if ((0 = 0) ∧ (16 = 16)) then a0 else (List.take 16 (List.drop 0 a0)))).bind fun r500 =>
  some (r500.1, (r500.2.1, ()))

/-- swatch/level.odd -/
def level_odd (F : Nat) (a0 : Int) : Option (Bool × Unit) :=
  cond (decide (a0 < (1 : Int)))
    (some (true, ()))
    (some ((decide ((8 : Int) < a0)), ()))

def level_Wide_l0S (F : Nat) (rec : Int → Int → Int → Int → Option (Int × (Int × Unit))) (x0 : Int) (x1 : Int) (x2 : Int) (x3 : Int) : Option (Int × (Int × Unit)) :=
  cond (decide (x3 < (8 : Int)))
    (cond (decide ((0 : Int) ≤ x1))
      (rec x0 x1 (ior .i64 (ishl .i64 x2 x1) x0) (IntKind.wrap .i64 (x3 + x1)))
      (none))
    (some (x2, (x3, ())))

def level_Wide_l0 (F : Nat) : Nat → Int → Int → Int → Int → Option (Int × (Int × Unit))
  | 0, _, _, _, _ => none
  | k + 1, x0, x1, x2, x3 => level_Wide_l0S F (level_Wide_l0 F k) x0 x1 x2 x3

/-- swatch/level.Wide -/
def level_Wide (F : Nat) (a0 : Int) (a1 : Int) : Option (Int × Unit) :=
  (level_odd F a1).bind fun r514 =>
  cond r514.1
    (some ((0 : Int), ()))
    (cond (decide ((0 : Int) ≤ a1))
      ((level_Wide_l0 F F (iand .i64 a0 (IntKind.wrap .i64 ((ishl .i64 (1 : Int) a1) - (1 : Int)))) a1 (0 : Int) (0 : Int)).bind fun r533 =>
      let v534 : Int := (IntKind.wrap .i64 (r533.2.1 - (8 : Int)))
      cond (decide ((0 : Int) ≤ v534))
        (some ((ishr .i64 r533.1 v534), ()))
        (none))
      (none))

def bcfour_Fours_l0S (F : Nat) (rec : List Int → List Int → List Int → Int → Option (List Int × (List Int × Unit))) (x0 : List Int) (x1 : List Int) (x2 : List Int) (x3 : Int) : Option (List Int × (List Int × Unit)) :=
  cond (decide (x3 < (16 : Int)))
    (cond ((decide ((0 : Int) ≤ x3)) && (decide (x3 < (((List.length x2) : Nat) : Int))))
      ((level_Wide F (List.getD x2 (Int.toNat x3) (0 : Int)) (4 : Int)).bind fun r553 =>
      cond ((decide ((0 : Int) ≤ x3)) && (decide (x3 < (16 : Int))))
        (rec x0 (List.set x1 (Int.toNat x3) r553.1) x2 (IntKind.wrap .i64 (x3 + (1 : Int))))
        (none))
      (none))
    (some (x0, (x1, ())))

def bcfour_Fours_l0 (F : Nat) : Nat → List Int → List Int → List Int → Int → Option (List Int × (List Int × Unit))
  | 0, _, _, _, _ => none
  | k + 1, x0, x1, x2, x3 => bcfour_Fours_l0S F (bcfour_Fours_l0 F k) x0 x1 x2 x3

/-- swatch/bcfour.Fours -/
def bcfour_Fours (F : Nat) (a0 : List Int) : Option (List Int × (Int × Unit)) :=
  cond ((((List.length a0) : Nat) : Int) != (8 : Int))
    (some (bcfour_DecodeT229, ((1 : Int), ())))
    ((bits_Lows F a0 (0 : Int) (4 : Int) (16 : Int)).bind fun r507 =>
    (bcfour_Fours_l0 F F bcfour_DecodeT229 bcfour_DecodeT229 r507.1 (0 : Int)).bind fun r557 =>
    let l558 : List Int := (if ((0 = 0) ∧ (16 = 16)) then r557.2.1 else (List.take 16 (List.drop 0 r557.2.1)))
    let l559 : List Int := (if ((0 = 0) ∧ (16 = 16)) then l558 else (((List.take 0 r557.1) ++ l558) ++ (List.drop 16 r557.1)))
    some ((if ((0 = 0) ∧ (16 = 16)) then l559 else (List.take 16 (List.drop 0 l559))), ((0 : Int), ())))

/-- swatch/swatchlaw07.awake -/
def law07_awake (F : Nat) : Option (Bool × Unit) :=
  (bcfour_Join F (70 : Int) (0 : Int) law07_awakeT2).bind fun r226 =>
  (bcfour_Decode F r226.1).bind fun r493 =>
  let l494 : List Int := (if ((0 = 0) ∧ (16 = 16)) then r493.1 else (((List.take 0 bcfour_DecodeT229) ++ r493.1) ++ (List.drop 16 bcfour_DecodeT229)))
  (bcfour_JoinFours F law07_awakeT495).bind fun r502 =>
  let n503 : Nat := (List.length r502.1)
  (bcfour_Fours F r502.1).bind fun r561 =>
  let l562 : List Int := (if ((0 = 0) ∧ (16 = 16)) then r561.1 else (((List.take 0 bcfour_DecodeT229) ++ r561.1) ++ (List.drop 16 bcfour_DecodeT229)))
  (bcfour_Ramp F (0 : Int) (10 : Int)).bind fun r563 =>
  let l564 : List Int := (if ((0 = 0) ∧ (8 = 8)) then r563.1 else (((List.take 0 bcfour_joinedT53) ++ r563.1) ++ (List.drop 8 bcfour_joinedT53)))
  cond (r226.2.1 == (0 : Int))
    (cond (r493.2.1 == (0 : Int))
      (cond (r502.2.1 == (0 : Int))
        (cond (r561.2.1 == (0 : Int))
          (cond ((List.getD l494 0 (0 : Int)) == (70 : Int))
            (cond ((List.getD l494 1 (0 : Int)) == (0 : Int))
              (cond ((List.getD l494 2 (0 : Int)) == (60 : Int))
                (cond ((List.getD l494 3 (0 : Int)) == (10 : Int))
                  (cond ((List.getD l494 4 (0 : Int)) == (70 : Int))
                    (cond ((List.getD l562 0 (0 : Int)) == (255 : Int))
                      (cond ((List.getD l562 1 (0 : Int)) == (17 : Int))
                        (cond (((n503 : Nat) : Int) == (8 : Int))
                          (cond (decide ((0 : Int) < ((n503 : Nat) : Int)))
                            (cond ((List.getD r502.1 0 (0 : Int)) == (31 : Int))
                              (cond ((List.getD l564 5 (0 : Int)) == (8 : Int))
                                (cond ((List.getD l564 6 (0 : Int)) == (0 : Int))
                                  (some (((List.getD l564 7 (0 : Int)) == (255 : Int)), ()))
                                  (some (false, ())))
                                (some (false, ())))
                              (some (false, ())))
                            (none))
                          (some (false, ())))
                        (some (false, ())))
                      (some (false, ())))
                    (some (false, ())))
                  (some (false, ())))
                (some (false, ())))
              (some (false, ())))
            (some (false, ())))
          (some (false, ())))
        (some (false, ())))
      (some (false, ())))
    (some (false, ()))

/-- swatch/swatchref02.Field -/
def ref02_Field (F : Nat) (a0 : List Int) (a1 : Int) (a2 : Int) : Option (Int × Unit) :=
  (ref02_Get F a0 a1 a2 false).bind fun r687 =>
  some ((IntKind.wrap .i64 r687.1), ())

def ref07_Parts_l0S (F : Nat) (rec : List Int → List Int → List Int → Int → Option (List Int × (List Int × (List Int × Unit)))) (x0 : List Int) (x1 : List Int) (x2 : List Int) (x3 : Int) : Option (List Int × (List Int × (List Int × Unit))) :=
  cond (decide (x3 < (16 : Int)))
    ((ref02_Field F x0 (IntKind.wrap .i64 ((16 : Int) + (IntKind.wrap .i64 ((3 : Int) * x3)))) (3 : Int)).bind fun r704 =>
    cond ((decide ((0 : Int) ≤ x3)) && (decide (x3 < (16 : Int))))
      (rec x0 x1 (List.set x2 (Int.toNat x3) r704.1) (IntKind.wrap .i64 (x3 + (1 : Int))))
      (none))
    (some (x0, (x1, (x2, ()))))

def ref07_Parts_l0 (F : Nat) : Nat → List Int → List Int → List Int → Int → Option (List Int × (List Int × (List Int × Unit)))
  | 0, _, _, _, _ => none
  | k + 1, x0, x1, x2, x3 => ref07_Parts_l0S F (ref07_Parts_l0 F k) x0 x1 x2 x3

/-- swatch/swatchref07.Parts -/
def ref07_Parts (F : Nat) (a0 : List Int) : Option (Int × (Int × (List Int × (Int × Unit)))) :=
  cond ((((List.length a0) : Nat) : Int) != (8 : Int))
    (some ((0 : Int), ((0 : Int), (bcfour_DecodeT229, ((1 : Int), ())))))
    ((ref07_Parts_l0 F F a0 bcfour_DecodeT229 bcfour_DecodeT229 (0 : Int)).bind fun r709 =>
    let n710 : Nat := (List.length r709.1)
    cond (decide ((0 : Int) < ((n710 : Nat) : Int)))
      (cond (decide ((1 : Int) < ((n710 : Nat) : Int)))
        (let l715 : List Int := (if ((0 = 0) ∧ (16 = 16)) then r709.2.2.1 else (List.take 16 (List.drop 0 r709.2.2.1)))
        let l716 : List Int := (if ((0 = 0) ∧ (16 = 16)) then l715 else (((List.take 0 r709.2.1) ++ l715) ++ (List.drop 16 r709.2.1)))
        some ((List.getD r709.1 0 (0 : Int)), ((List.getD r709.1 1 (0 : Int)), ((if ((0 = 0) ∧ (16 = 16)) then l716 else (List.take 16 (List.drop 0 l716))), ((0 : Int), ())))))
        (none))
      (none))

/-- swatch/swatchref03.mod -/
def ref03_mod (F : Nat) (a0 : Int) (a1 : Int) : Option (Int × Unit) :=
  cond (!(a1 == (0 : Int)))
    (cond (decide ((Int.tmod a0 a1) < (0 : Int)))
      (some ((IntKind.wrap .i64 ((Int.tmod a0 a1) + a1)), ()))
      (some ((Int.tmod a0 a1), ())))
    (none)

/-- swatch/swatchref03.Mix -/
def ref03_Mix (F : Nat) (a0 : Int) (a1 : Int) (a2 : Int) (a3 : Int) (a4 : Int) : Option (Int × Unit) :=
  cond (decide (a3 < (1 : Int)))
    (some ((0 : Int), ()))
    (let v735 : Int := (IntKind.wrap .i64 ((IntKind.wrap .i64 ((IntKind.wrap .i64 (a0 * (IntKind.wrap .i64 (a3 - a2)))) + (IntKind.wrap .i64 (a1 * a2)))) + a4))
    (ref03_mod F v735 a3).bind fun r740 =>
    cond (!(a3 == (0 : Int)))
      (some ((IntKind.wrap .i64 (Int.tdiv (IntKind.wrap .i64 (v735 - r740.1)) a3)), ()))
      (none))

def ref07_Ramp_l0S (F : Nat) (rec : Int → Int → List Int → List Int → Int → Option (List Int × (List Int × Unit))) (x0 : Int) (x1 : Int) (x2 : List Int) (x3 : List Int) (x4 : Int) : Option (List Int × (List Int × Unit)) :=
  cond (decide (x4 ≤ (6 : Int)))
    (let v753 : Int := (IntKind.wrap .i64 (x4 + (1 : Int)))
    (ref03_Mix F x0 x1 x4 (7 : Int) (0 : Int)).bind fun r754 =>
    cond ((decide ((0 : Int) ≤ v753)) && (decide (v753 < (8 : Int))))
      (rec x0 x1 x2 (List.set x3 (Int.toNat v753) r754.1) v753)
      (none))
    (some (x2, (x3, ())))

def ref07_Ramp_l0 (F : Nat) : Nat → Int → Int → List Int → List Int → Int → Option (List Int × (List Int × Unit))
  | 0, _, _, _, _, _ => none
  | k + 1, x0, x1, x2, x3, x4 => ref07_Ramp_l0S F (ref07_Ramp_l0 F k) x0 x1 x2 x3 x4

def ref07_Ramp_l2S (F : Nat) (rec : Int → Int → List Int → List Int → Int → Option (List Int × (List Int × Unit))) (x0 : Int) (x1 : Int) (x2 : List Int) (x3 : List Int) (x4 : Int) : Option (List Int × (List Int × Unit)) :=
  cond (decide (x4 ≤ (4 : Int)))
    (let v771 : Int := (IntKind.wrap .i64 (x4 + (1 : Int)))
    (ref03_Mix F x0 x1 x4 (5 : Int) (0 : Int)).bind fun r772 =>
    cond ((decide ((0 : Int) ≤ v771)) && (decide (v771 < (8 : Int))))
      (rec x0 x1 x2 (List.set x3 (Int.toNat v771) r772.1) v771)
      (none))
    (some (x2, (x3, ())))

def ref07_Ramp_l2 (F : Nat) : Nat → Int → Int → List Int → List Int → Int → Option (List Int × (List Int × Unit))
  | 0, _, _, _, _, _ => none
  | k + 1, x0, x1, x2, x3, x4 => ref07_Ramp_l2S F (ref07_Ramp_l2 F k) x0 x1 x2 x3 x4

/-- swatch/swatchref07.Ramp -/
def ref07_Ramp (F : Nat) (a0 : Int) (a1 : Int) : Option (List Int × Unit) :=
  cond (decide (a1 < a0))
    ((ref07_Ramp_l0 F F a0 a1 bcfour_joinedT53 [a0, a1, (0 : Int), (0 : Int), (0 : Int), (0 : Int), (0 : Int), (0 : Int)] (1 : Int)).bind fun r758 =>
    let l759 : List Int := (if ((0 = 0) ∧ (8 = 8)) then r758.2.1 else (List.take 8 (List.drop 0 r758.2.1)))
    let l760 : List Int := (if ((0 = 0) ∧ (8 = 8)) then l759 else (((List.take 0 r758.1) ++ l759) ++ (List.drop 8 r758.1)))
    some ((if ((0 = 0) ∧ (8 = 8)) then l760 else (List.take 8 (List.drop 0 l760))), ()))
    ((ref07_Ramp_l2 F F a0 a1 bcfour_joinedT53 [a0, a1, (0 : Int), (0 : Int), (0 : Int), (0 : Int), (0 : Int), (0 : Int)] (1 : Int)).bind fun r776 =>
    let l777 : List Int := (List.set r776.2.1 7 (255 : Int))
    let l778 : List Int := (if ((0 = 0) ∧ (8 = 8)) then l777 else (List.take 8 (List.drop 0 l777)))
    let l779 : List Int := (if ((0 = 0) ∧ (8 = 8)) then l778 else (((List.take 0 r776.1) ++ l778) ++ (List.drop 8 r776.1)))
    some ((if ((0 = 0) ∧ (8 = 8)) then l779 else (List.take 8 (List.drop 0 l779))), ()))

def ref07_Decode_l0S (F : Nat) (rec : List Int → List Int → List Int → Int → Option (List Int × (List Int × Unit))) (x0 : List Int) (x1 : List Int) (x2 : List Int) (x3 : Int) : Option (List Int × (List Int × Unit)) :=
  cond (decide (x3 < (16 : Int)))
    (let b798 : Bool := ((decide ((0 : Int) ≤ x3)) && (decide (x3 < (16 : Int))))
    cond b798
      (let v800 : Int := (List.getD x1 (Int.toNat x3) (0 : Int))
      cond ((decide ((0 : Int) ≤ v800)) && (decide (v800 < (8 : Int))))
        (cond b798
          (rec x0 (List.set x1 (Int.toNat x3) (List.getD x2 (Int.toNat v800) (0 : Int))) x2 (IntKind.wrap .i64 (x3 + (1 : Int))))
          (none))
        (none))
      (none))
    (some (x0, (x1, ())))

def ref07_Decode_l0 (F : Nat) : Nat → List Int → List Int → List Int → Int → Option (List Int × (List Int × Unit))
  | 0, _, _, _, _ => none
  | k + 1, x0, x1, x2, x3 => ref07_Decode_l0S F (ref07_Decode_l0 F k) x0 x1 x2 x3

/-- swatch/swatchref07.Decode -/
def ref07_Decode (F : Nat) (a0 : List Int) : Option (List Int × (Int × Unit)) :=
  (ref07_Parts F a0).bind fun r723 =>
  let l724 : List Int := (if ((0 = 0) ∧ (16 = 16)) then r723.2.2.1 else (((List.take 0 bcfour_DecodeT229) ++ r723.2.2.1) ++ (List.drop 16 bcfour_DecodeT229)))
  cond (r723.2.2.2.1 != (0 : Int))
    (let l726 : List Int := (if ((0 = 0) ∧ (16 = 16)) then l724 else (List.take 16 (List.drop 0 l724)))
    let l727 : List Int := (if ((0 = 0) ∧ (16 = 16)) then l726 else (((List.take 0 bcfour_DecodeT229) ++ l726) ++ (List.drop 16 bcfour_DecodeT229)))
    some ((if ((0 = 0) ∧ (16 = 16)) then l727 else (List.take 16 (List.drop 0 l727))), (r723.2.2.2.1, ())))
    ((ref07_Ramp F r723.1 r723.2.1).bind fun r781 =>
    (ref07_Decode_l0 F F bcfour_DecodeT229 l724 (if ((0 = 0) ∧ (8 = 8)) then r781.1 else (((List.take 0 bcfour_joinedT53) ++ r781.1) ++ (List.drop 8 bcfour_joinedT53))) (0 : Int)).bind fun r806 =>
    let l807 : List Int := (if ((0 = 0) ∧ (16 = 16)) then r806.2.1 else (List.take 16 (List.drop 0 r806.2.1)))
    let l808 : List Int := (if ((0 = 0) ∧ (16 = 16)) then l807 else (((List.take 0 r806.1) ++ l807) ++ (List.drop 16 r806.1)))
    some ((if ((0 = 0) ∧ (16 = 16)) then l808 else (List.take 16 (List.drop 0 l808))), ((0 : Int), ())))

def ref03_power_l0S (F : Nat) (rec : Int → Int → Int → Option (Int × Unit)) (x0 : Int) (x1 : Int) (x2 : Int) : Option (Int × Unit) :=
  cond (decide (x2 < x0))
    (rec x0 (IntKind.wrap .i64 ((2 : Int) * x1)) (IntKind.wrap .i64 (x2 + (1 : Int))))
    (some (x1, ()))

def ref03_power_l0 (F : Nat) : Nat → Int → Int → Int → Option (Int × Unit)
  | 0, _, _, _ => none
  | k + 1, x0, x1, x2 => ref03_power_l0S F (ref03_power_l0 F k) x0 x1 x2

/-- swatch/swatchref03.power -/
def ref03_power (F : Nat) (a0 : Int) : Option (Int × Unit) :=
  (ref03_power_l0 F F a0 (1 : Int) (0 : Int)).bind fun r828 =>
  some (r828.1, ())

def ref03_Wide_l0S (F : Nat) (rec : Int → Int → Int → Int → Option (Int × Unit)) (x0 : Int) (x1 : Int) (x2 : Int) (x3 : Int) : Option (Int × Unit) :=
  cond (decide (x3 < (8 : Int)))
    (cond (!(x1 == (0 : Int)))
      ((ref03_power F (IntKind.wrap .i64 ((IntKind.wrap .i64 (x1 - (1 : Int))) - (Int.tmod x3 x1)))).bind fun r858 =>
      cond (!(r858.1 == (0 : Int)))
        (rec x0 x1 (IntKind.wrap .i64 ((IntKind.wrap .i64 ((2 : Int) * x2)) + (Int.tmod (IntKind.wrap .i64 (Int.tdiv x0 r858.1)) (2 : Int)))) (IntKind.wrap .i64 (x3 + (1 : Int))))
        (none))
      (none))
    (some (x2, ()))

def ref03_Wide_l0 (F : Nat) : Nat → Int → Int → Int → Int → Option (Int × Unit)
  | 0, _, _, _, _ => none
  | k + 1, x0, x1, x2, x3 => ref03_Wide_l0S F (ref03_Wide_l0 F k) x0 x1 x2 x3

/-- swatch/swatchref03.Wide -/
def ref03_Wide (F : Nat) (a0 : Int) (a1 : Int) : Option (Int × Unit) :=
  cond (decide (a1 < (1 : Int)))
    (some ((0 : Int), ()))
    (cond (decide ((8 : Int) < a1))
      (some ((0 : Int), ()))
      ((ref03_power F a1).bind fun r829 =>
      (ref03_mod F a0 r829.1).bind fun r830 =>
      (ref03_Wide_l0 F F r830.1 a1 (0 : Int) (0 : Int)).bind fun r864 =>
      some (r864.1, ())))

def ref07_Fours_l0S (F : Nat) (rec : List Int → List Int → List Int → Int → Option (List Int × (List Int × Unit))) (x0 : List Int) (x1 : List Int) (x2 : List Int) (x3 : Int) : Option (List Int × (List Int × Unit)) :=
  cond (decide (x3 < (16 : Int)))
    ((ref02_Field F x0 (IntKind.wrap .i64 ((4 : Int) * x3)) (4 : Int)).bind fun r879 =>
    (ref03_Wide F r879.1 (4 : Int)).bind fun r880 =>
    cond ((decide ((0 : Int) ≤ x3)) && (decide (x3 < (16 : Int))))
      (rec x0 x1 (List.set x2 (Int.toNat x3) r880.1) (IntKind.wrap .i64 (x3 + (1 : Int))))
      (none))
    (some (x1, (x2, ())))

def ref07_Fours_l0 (F : Nat) : Nat → List Int → List Int → List Int → Int → Option (List Int × (List Int × Unit))
  | 0, _, _, _, _ => none
  | k + 1, x0, x1, x2, x3 => ref07_Fours_l0S F (ref07_Fours_l0 F k) x0 x1 x2 x3

/-- swatch/swatchref07.Fours -/
def ref07_Fours (F : Nat) (a0 : List Int) : Option (List Int × (Int × Unit)) :=
  cond ((((List.length a0) : Nat) : Int) != (8 : Int))
    (some (bcfour_DecodeT229, ((1 : Int), ())))
    ((ref07_Fours_l0 F F a0 bcfour_DecodeT229 bcfour_DecodeT229 (0 : Int)).bind fun r885 =>
    let l886 : List Int := (if ((0 = 0) ∧ (16 = 16)) then r885.2.1 else (List.take 16 (List.drop 0 r885.2.1)))
    let l887 : List Int := (if ((0 = 0) ∧ (16 = 16)) then l886 else (((List.take 0 r885.1) ++ l886) ++ (List.drop 16 r885.1)))
    some ((if ((0 = 0) ∧ (16 = 16)) then l887 else (List.take 16 (List.drop 0 l887))), ((0 : Int), ())))

def ref07_Join_l0S (F : Nat) (rec : List Int → List Int → Int → Option (Unit ⊕ (List Int × Unit))) (x0 : List Int) (x1 : List Int) (x2 : Int) : Option (Unit ⊕ (List Int × Unit)) :=
  cond (decide (x2 < (16 : Int)))
    (let b1624 : Bool := ((decide ((0 : Int) ≤ x2)) && (decide (x2 < (16 : Int))))
    cond b1624
      (let v1626 : Int := (List.getD x0 (Int.toNat x2) (0 : Int))
      cond (decide (v1626 < (0 : Int)))
        (some (.inl ()))
        (cond b1624
          (cond (decide ((7 : Int) < v1626))
            (some (.inl ()))
            (cond b1624
              ((ref02_Set F x1 (IntKind.wrap .i64 ((16 : Int) + (IntKind.wrap .i64 ((3 : Int) * x2)))) (3 : Int) false (IntKind.wrap .u64 v1626)).bind fun r1632 =>
              rec x0 r1632.1 (IntKind.wrap .i64 (x2 + (1 : Int))))
              (none)))
          (none)))
      (none))
    (some (.inr (x1, ())))

def ref07_Join_l0 (F : Nat) : Nat → List Int → List Int → Int → Option (Unit ⊕ (List Int × Unit))
  | 0, _, _, _ => none
  | k + 1, x0, x1, x2 => ref07_Join_l0S F (ref07_Join_l0 F k) x0 x1 x2

/-- swatch/swatchref07.Join -/
def ref07_Join (F : Nat) (a0 : Int) (a1 : Int) (a2 : List Int) : Option (List Int × (Int × Unit)) :=
  cond (decide (a0 < (0 : Int)))
    (some ([], ((1 : Int), ())))
    (cond (decide (a1 < (0 : Int)))
      (some ([], ((1 : Int), ())))
      (cond (decide ((255 : Int) < a0))
        (some ([], ((1 : Int), ())))
        (cond (decide ((255 : Int) < a1))
          (some ([], ((1 : Int), ())))
          ((ref07_Join_l0 F F a2 [(IntKind.wrap .u8 a0), (IntKind.wrap .u8 a1), (0 : Int), (0 : Int), (0 : Int), (0 : Int), (0 : Int), (0 : Int)] (0 : Int)).bind fun r1635 => match r1635 with
            | .inl r1635 => (some ([], ((1 : Int), ())))
            | .inr r1635 => (some (r1635.1, ((0 : Int), ())))))))

def ref07_JoinFours_l0S (F : Nat) (rec : List Int → List Int → Int → Option (Unit ⊕ (List Int × Unit))) (x0 : List Int) (x1 : List Int) (x2 : Int) : Option (Unit ⊕ (List Int × Unit)) :=
  cond (decide (x2 < (16 : Int)))
    (let b1695 : Bool := ((decide ((0 : Int) ≤ x2)) && (decide (x2 < (16 : Int))))
    cond b1695
      (let v1697 : Int := (List.getD x0 (Int.toNat x2) (0 : Int))
      cond (decide (v1697 < (0 : Int)))
        (some (.inl ()))
        (cond b1695
          (cond (decide ((15 : Int) < v1697))
            (some (.inl ()))
            (cond b1695
              ((ref02_Set F x1 (IntKind.wrap .i64 ((4 : Int) * x2)) (4 : Int) false (IntKind.wrap .u64 v1697)).bind fun r1702 =>
              rec x0 r1702.1 (IntKind.wrap .i64 (x2 + (1 : Int))))
              (none)))
          (none)))
      (none))
    (some (.inr (x1, ())))

def ref07_JoinFours_l0 (F : Nat) : Nat → List Int → List Int → Int → Option (Unit ⊕ (List Int × Unit))
  | 0, _, _, _ => none
  | k + 1, x0, x1, x2 => ref07_JoinFours_l0S F (ref07_JoinFours_l0 F k) x0 x1 x2

/-- swatch/swatchref07.JoinFours -/
def ref07_JoinFours (F : Nat) (a0 : List Int) : Option (List Int × (Int × Unit)) :=
  (ref07_JoinFours_l0 F F a0 bcfour_joinedT53 (0 : Int)).bind fun r1705 => match r1705 with
    | .inl r1705 => (some ([], ((1 : Int), ())))
    | .inr r1705 => (some (r1705.1, ((0 : Int), ())))

def law07_BcfourTells_l0S (F : Nat) (rec : List Int → Bool → List Int → Int → Option (List Int × (Bool × (List Int × Unit)))) (x0 : List Int) (x1 : Bool) (x2 : List Int) (x3 : Int) : Option (List Int × (Bool × (List Int × Unit))) :=
  cond (decide (x3 < (16 : Int)))
    (let v917 : Int := (IntKind.wrap .i64 (x3 + (2 : Int)))
    cond ((decide ((0 : Int) ≤ v917)) && (decide (v917 < (18 : Int))))
      (cond ((decide ((0 : Int) ≤ x3)) && (decide (x3 < (16 : Int))))
        (rec x0 x1 (List.set x2 (Int.toNat x3) (List.getD x0 (Int.toNat v917) (0 : Int))) (IntKind.wrap .i64 (x3 + (1 : Int))))
        (none))
      (none))
    (some (x0, (x1, (x2, ()))))

def law07_BcfourTells_l0 (F : Nat) : Nat → List Int → Bool → List Int → Int → Option (List Int × (Bool × (List Int × Unit)))
  | 0, _, _, _, _ => none
  | k + 1, x0, x1, x2, x3 => law07_BcfourTells_l0S F (law07_BcfourTells_l0 F k) x0 x1 x2 x3

/-- swatch/swatchlaw07.BcfourTells -/
def law07_BcfourTells (F : Nat) (a0 : List Int) (a1 : List Int) : Option (Bool × Unit) :=
  (law07_awake F).bind fun r594 =>
  let v595 : Int := (((List.length a0) : Nat) : Int)
  cond (decide ((40 : Int) < v595))
    (some (r594.1, ()))
    ((bcfour_Parts F a0).bind fun r597 =>
    let l598 : List Int := (if ((0 = 0) ∧ (16 = 16)) then r597.2.2.1 else (((List.take 0 bcfour_DecodeT229) ++ r597.2.2.1) ++ (List.drop 16 bcfour_DecodeT229)))
    (ref07_Parts F a0).bind fun r718 =>
    let l719 : List Int := (if ((0 = 0) ∧ (16 = 16)) then r718.2.2.1 else (((List.take 0 bcfour_DecodeT229) ++ r718.2.2.1) ++ (List.drop 16 bcfour_DecodeT229)))
    (bcfour_Decode F a0).bind fun r720 =>
    let l721 : List Int := (if ((0 = 0) ∧ (16 = 16)) then r720.1 else (((List.take 0 bcfour_DecodeT229) ++ r720.1) ++ (List.drop 16 bcfour_DecodeT229)))
    (ref07_Decode F a0).bind fun r810 =>
    let l811 : List Int := (if ((0 = 0) ∧ (16 = 16)) then r810.1 else (((List.take 0 bcfour_DecodeT229) ++ r810.1) ++ (List.drop 16 bcfour_DecodeT229)))
    (bcfour_Fours F a0).bind fun r812 =>
    let l813 : List Int := (if ((0 = 0) ∧ (16 = 16)) then r812.1 else (((List.take 0 bcfour_DecodeT229) ++ r812.1) ++ (List.drop 16 bcfour_DecodeT229)))
    (ref07_Fours F a0).bind fun r889 =>
    let l890 : List Int := (if ((0 = 0) ∧ (16 = 16)) then r889.1 else (((List.take 0 bcfour_DecodeT229) ++ r889.1) ++ (List.drop 16 bcfour_DecodeT229)))
    cond (r597.1 != r718.1)
      (some (false, ()))
      (cond (r597.2.1 != r718.2.1)
        (some (false, ()))
        (cond (!((if ((0 = 0) ∧ (16 = 16)) then l598 else (List.take 16 (List.drop 0 l598))) == (if ((0 = 0) ∧ (16 = 16)) then l719 else (List.take 16 (List.drop 0 l719)))))
          (some (false, ()))
          (cond (r597.2.2.2.1 != r718.2.2.2.1)
            (some (false, ()))
            (cond (!((if ((0 = 0) ∧ (16 = 16)) then l721 else (List.take 16 (List.drop 0 l721))) == (if ((0 = 0) ∧ (16 = 16)) then l811 else (List.take 16 (List.drop 0 l811)))))
              (some (false, ()))
              (cond (r720.2.1 != r810.2.1)
                (some (false, ()))
                (cond (!((if ((0 = 0) ∧ (16 = 16)) then l813 else (List.take 16 (List.drop 0 l813))) == (if ((0 = 0) ∧ (16 = 16)) then l890 else (List.take 16 (List.drop 0 l890)))))
                  (some (false, ()))
                  (cond (r812.2.1 != r889.2.1)
                    (some (false, ()))
                    ((law07_BcfourTells_l0 F F a1 r594.1 bcfour_DecodeT229 (0 : Int)).bind fun r925 =>
                    let v926 : Int := (List.getD r925.1 0 (0 : Int))
                    let v927 : Int := (List.getD r925.1 1 (0 : Int))
                    let l928 : List Int := (if ((0 = 0) ∧ (16 = 16)) then r925.2.2.1 else (List.take 16 (List.drop 0 r925.2.2.1)))
                    (bcfour_Join F v926 v927 l928).bind fun r929 =>
                    (ref07_Join F v926 v927 l928).bind fun r1637 =>
                    (bcfour_JoinFours F l928).bind fun r1639 =>
                    (ref07_JoinFours F l928).bind fun r1707 =>
                    (ref01_Same F r929.1 r1637.1).bind fun r1746 =>
                    (ref01_Same F r1639.1 r1707.1).bind fun r1747 =>
                    cond (decide (v926 < (0 : Int)))
                      (cond r925.2.1
                        (cond r1746.1
                          (cond (r929.2.1 == r1637.2.1)
                            (cond r1747.1
                              (cond (r1639.2.1 == r1707.2.1)
                                (some (true, ()))
                                (some (false, ())))
                              (some (false, ())))
                            (some (false, ())))
                          (some (false, ())))
                        (some (false, ())))
                      (cond (decide (v927 < (0 : Int)))
                        (cond r925.2.1
                          (cond r1746.1
                            (cond (r929.2.1 == r1637.2.1)
                              (cond r1747.1
                                (cond (r1639.2.1 == r1707.2.1)
                                  (some (true, ()))
                                  (some (false, ())))
                                (some (false, ())))
                              (some (false, ())))
                            (some (false, ())))
                          (some (false, ())))
                        (cond (decide ((255 : Int) < v926))
                          (cond r925.2.1
                            (cond r1746.1
                              (cond (r929.2.1 == r1637.2.1)
                                (cond r1747.1
                                  (cond (r1639.2.1 == r1707.2.1)
                                    (some (true, ()))
                                    (some (false, ())))
                                  (some (false, ())))
                                (some (false, ())))
                              (some (false, ())))
                            (some (false, ())))
                          (cond (decide ((255 : Int) < v927))
                            (cond r925.2.1
                              (cond r1746.1
                                (cond (r929.2.1 == r1637.2.1)
                                  (cond r1747.1
                                    (cond (r1639.2.1 == r1707.2.1)
                                      (some (true, ()))
                                      (some (false, ())))
                                    (some (false, ())))
                                  (some (false, ())))
                                (some (false, ())))
                              (some (false, ())))
                            ((bcfour_Ramp F v926 v927).bind fun r1760 =>
                            (ref07_Ramp F v926 v927).bind fun r1761 =>
                            cond r925.2.1
                              (cond r1746.1
                                (cond (r929.2.1 == r1637.2.1)
                                  (cond r1747.1
                                    (cond (r1639.2.1 == r1707.2.1)
                                      (some ((r1760.1 == r1761.1), ()))
                                      (some (false, ())))
                                    (some (false, ())))
                                  (some (false, ())))
                                (some (false, ())))
                              (some (false, ())))))))))))))))

def law07_BcfourRamp_l0S (F : Nat) (rec : Int → Int → Bool → List Int → Int → Int → Int → Option (Unit ⊕ (Int × (Int × (Bool × (List Int × Unit)))))) (x0 : Int) (x1 : Int) (x2 : Bool) (x3 : List Int) (x4 : Int) (x5 : Int) (x6 : Int) : Option (Unit ⊕ (Int × (Int × (Bool × (List Int × Unit))))) :=
  cond (decide (x6 ≤ x4))
    (cond (decide (x1 < x0))
      (let b1970 : Bool := ((decide ((0 : Int) ≤ x6)) && (decide (x6 < (8 : Int))))
      cond b1970
        (let v1972 : Int := (List.getD x3 (Int.toNat x6) (0 : Int))
        cond (decide (x5 < v1972))
          (some (.inl ()))
          (cond (decide (x0 ≤ x1))
            (cond b1970
              (cond (decide (v1972 < x5))
                (some (.inl ()))
                (cond b1970
                  (let v1976 : Int := (min x0 x1)
                  cond (decide (v1972 < v1976))
                    (some (.inl ()))
                    (cond b1970
                      (let v1978 : Int := (max x0 x1)
                      cond (decide (v1978 < v1972))
                        (some (.inl ()))
                        (cond b1970
                          (rec x0 x1 x2 x3 x4 v1972 (IntKind.wrap .i64 (x6 + (1 : Int))))
                          (none)))
                      (none)))
                  (none)))
              (none))
            (cond b1970
              (let v1981 : Int := (min x0 x1)
              cond (decide (v1972 < v1981))
                (some (.inl ()))
                (cond b1970
                  (let v1983 : Int := (max x0 x1)
                  cond (decide (v1983 < v1972))
                    (some (.inl ()))
                    (cond b1970
                      (rec x0 x1 x2 x3 x4 v1972 (IntKind.wrap .i64 (x6 + (1 : Int))))
                      (none)))
                  (none)))
              (none))))
        (none))
      (cond (decide (x0 ≤ x1))
        (let b1987 : Bool := ((decide ((0 : Int) ≤ x6)) && (decide (x6 < (8 : Int))))
        cond b1987
          (let v1989 : Int := (List.getD x3 (Int.toNat x6) (0 : Int))
          cond (decide (v1989 < x5))
            (some (.inl ()))
            (cond b1987
              (let v1991 : Int := (min x0 x1)
              cond (decide (v1989 < v1991))
                (some (.inl ()))
                (cond b1987
                  (let v1993 : Int := (max x0 x1)
                  cond (decide (v1993 < v1989))
                    (some (.inl ()))
                    (cond b1987
                      (rec x0 x1 x2 x3 x4 v1989 (IntKind.wrap .i64 (x6 + (1 : Int))))
                      (none)))
                  (none)))
              (none)))
          (none))
        (let b1996 : Bool := ((decide ((0 : Int) ≤ x6)) && (decide (x6 < (8 : Int))))
        cond b1996
          (let v1998 : Int := (List.getD x3 (Int.toNat x6) (0 : Int))
          let v1999 : Int := (min x0 x1)
          cond (decide (v1998 < v1999))
            (some (.inl ()))
            (cond b1996
              (let v2001 : Int := (max x0 x1)
              cond (decide (v2001 < v1998))
                (some (.inl ()))
                (cond b1996
                  (rec x0 x1 x2 x3 x4 v1998 (IntKind.wrap .i64 (x6 + (1 : Int))))
                  (none)))
              (none)))
          (none))))
    (some (.inr (x0, (x1, (x2, (x3, ()))))))

def law07_BcfourRamp_l0 (F : Nat) : Nat → Int → Int → Bool → List Int → Int → Int → Int → Option (Unit ⊕ (Int × (Int × (Bool × (List Int × Unit)))))
  | 0, _, _, _, _, _, _, _ => none
  | k + 1, x0, x1, x2, x3, x4, x5, x6 => law07_BcfourRamp_l0S F (law07_BcfourRamp_l0 F k) x0 x1 x2 x3 x4 x5 x6

/-- swatch/swatchlaw07.BcfourRamp -/
def law07_BcfourRamp (F : Nat) (a0 : Int) (a1 : Int) : Option (Bool × Unit) :=
  (law07_awake F).bind fun r1920 =>
  cond (decide (a0 < (0 : Int)))
    (some (r1920.1, ()))
    (cond (decide (a1 < (0 : Int)))
      (some (r1920.1, ()))
      (cond (decide ((255 : Int) < a0))
        (some (r1920.1, ()))
        (cond (decide ((255 : Int) < a1))
          (some (r1920.1, ()))
          ((bcfour_Ramp F a0 a1).bind fun r1925 =>
          let l1926 : List Int := (if ((0 = 0) ∧ (8 = 8)) then r1925.1 else (((List.take 0 bcfour_joinedT53) ++ r1925.1) ++ (List.drop 8 bcfour_joinedT53)))
          cond (decide (a0 ≤ a1))
            (cond ((List.getD l1926 6 (0 : Int)) != (0 : Int))
              (some (false, ()))
              (cond ((List.getD l1926 7 (0 : Int)) != (255 : Int))
                (some (false, ()))
                ((law07_BcfourRamp_l0 F F a0 a1 r1920.1 l1926 (5 : Int) a0 (2 : Int)).bind fun r2004 => match r2004 with
                  | .inl r2004 => (some (false, ()))
                  | .inr r2004 => (cond r2004.2.2.1
                      (cond ((List.getD r2004.2.2.2.1 0 (0 : Int)) == r2004.1)
                        (some (((List.getD r2004.2.2.2.1 1 (0 : Int)) == r2004.2.1), ()))
                        (some (false, ())))
                      (some (false, ()))))))
            ((law07_BcfourRamp_l0 F F a0 a1 r1920.1 l1926 (7 : Int) a0 (2 : Int)).bind fun r2045 => match r2045 with
              | .inl r2045 => (some (false, ()))
              | .inr r2045 => (cond r2045.2.2.1
                  (cond ((List.getD r2045.2.2.2.1 0 (0 : Int)) == r2045.1)
                    (some (((List.getD r2045.2.2.2.1 1 (0 : Int)) == r2045.2.1), ()))
                    (some (false, ())))
                  (some (false, ()))))))))

/-- swatch/level.square -/
def level_square (F : Nat) (a0 : Int) : Option (Int × Unit) :=
  some ((IntKind.wrap .i64 (a0 * a0)), ())

/-- swatch/level.Near$1 -/
def level_Near_c1 (F : Nat) (a0 : Int) (a1 : Int) (a2 : Int) : Option (Int × Unit) :=
  (level_Wide F a0 a1).bind fun r2075 =>
  (level_square F (IntKind.wrap .i64 (r2075.1 - a2))).bind fun r2077 =>
  some (r2077.1, ())

def level_least_Near_c1_l0S (F : Nat) (rec : Int → Int → Int → Int → Int → Int → Option (Int × Unit)) (x0 : Int) (x1 : Int) (x2 : Int) (x3 : Int) (x4 : Int) (x5 : Int) : Option (Int × Unit) :=
  cond (decide (x5 < x4))
    ((level_Near_c1 F x5 x0 x1).bind fun r2118 =>
    cond (x5 == (0 : Int))
      (rec x0 x1 x5 r2118.1 x4 (IntKind.wrap .i64 (x5 + (1 : Int))))
      (cond (decide (r2118.1 < x3))
        (rec x0 x1 x5 r2118.1 x4 (IntKind.wrap .i64 (x5 + (1 : Int))))
        (rec x0 x1 x2 x3 x4 (IntKind.wrap .i64 (x5 + (1 : Int))))))
    (some (x2, ()))

def level_least_Near_c1_l0 (F : Nat) : Nat → Int → Int → Int → Int → Int → Int → Option (Int × Unit)
  | 0, _, _, _, _, _, _ => none
  | k + 1, x0, x1, x2, x3, x4, x5 => level_least_Near_c1_l0S F (level_least_Near_c1_l0 F k) x0 x1 x2 x3 x4 x5

/-- swatch/level.least -/
def level_least_Near_c1 (F : Nat) (a0 : Int) (a1 : Int) (a2 : Int) : Option (Int × Unit) :=
  (level_least_Near_c1_l0 F F a1 a2 (0 : Int) (0 : Int) a0 (0 : Int)).bind fun r2124 =>
  some (r2124.1, ())

/-- swatch/level.Near -/
def level_Near (F : Nat) (a0 : Int) (a1 : Int) : Option (Int × Unit) :=
  (level_odd F a1).bind fun r2067 =>
  cond r2067.1
    (some ((0 : Int), ()))
    (cond (decide ((0 : Int) ≤ a1))
      ((level_least_Near_c1 F (ishl .i64 (1 : Int) a1) a1 a0).bind fun r2125 =>
      some (r2125.1, ()))
      (none))

def law07_BcfourBack_l0S (F : Nat) (rec : List Int → Bool → Int → List Int → Int → List Int → Int → Int → Option (List Int × (Bool × (Int × (List Int × (Int × (List Int × (Int × Unit)))))))) (x0 : List Int) (x1 : Bool) (x2 : Int) (x3 : List Int) (x4 : Int) (x5 : List Int) (x6 : Int) (x7 : Int) : Option (List Int × (Bool × (Int × (List Int × (Int × (List Int × (Int × Unit))))))) :=
  cond (decide (x7 < (16 : Int)))
    (let b2140 : Bool := ((decide ((0 : Int) ≤ x7)) && (decide (x7 < (16 : Int))))
    cond b2140
      ((level_Near F (List.getD x3 (Int.toNat x7) (0 : Int)) (4 : Int)).bind fun r2143 =>
      cond b2140
        (rec x0 x1 x2 (List.set x3 (Int.toNat x7) r2143.1) x4 x5 x6 (IntKind.wrap .i64 (x7 + (1 : Int))))
        (none))
      (none))
    (some (x0, (x1, (x2, (x3, (x4, (x5, (x6, ()))))))))

def law07_BcfourBack_l0 (F : Nat) : Nat → List Int → Bool → Int → List Int → Int → List Int → Int → Int → Option (List Int × (Bool × (Int × (List Int × (Int × (List Int × (Int × Unit)))))))
  | 0, _, _, _, _, _, _, _, _ => none
  | k + 1, x0, x1, x2, x3, x4, x5, x6, x7 => law07_BcfourBack_l0S F (law07_BcfourBack_l0 F k) x0 x1 x2 x3 x4 x5 x6 x7

/-- swatch/swatchlaw07.BcfourBack -/
def law07_BcfourBack (F : Nat) (a0 : List Int) : Option (Bool × Unit) :=
  (law07_awake F).bind fun r2052 =>
  (bcfour_Parts F a0).bind fun r2053 =>
  let l2054 : List Int := (if ((0 = 0) ∧ (16 = 16)) then r2053.2.2.1 else (((List.take 0 bcfour_DecodeT229) ++ r2053.2.2.1) ++ (List.drop 16 bcfour_DecodeT229)))
  (bcfour_Fours F a0).bind fun r2055 =>
  cond ((((List.length a0) : Nat) : Int) != (8 : Int))
    (cond r2052.1
      (cond (r2053.2.2.2.1 == (1 : Int))
        (some ((r2055.2.1 == (1 : Int)), ()))
        (some (false, ())))
      (some (false, ())))
    ((bcfour_Join F r2053.1 r2053.2.1 (if ((0 = 0) ∧ (16 = 16)) then l2054 else (List.take 16 (List.drop 0 l2054)))).bind fun r2062 =>
    (law07_BcfourBack_l0 F F a0 r2052.1 r2053.2.2.2.1 (if ((0 = 0) ∧ (16 = 16)) then r2055.1 else (((List.take 0 bcfour_DecodeT229) ++ r2055.1) ++ (List.drop 16 bcfour_DecodeT229))) r2055.2.1 r2062.1 r2062.2.1 (0 : Int)).bind fun r2146 =>
    (bcfour_JoinFours F (if ((0 = 0) ∧ (16 = 16)) then r2146.2.2.2.1 else (List.take 16 (List.drop 0 r2146.2.2.2.1)))).bind fun r2150 =>
    (ref01_Same F r2146.1 r2146.2.2.2.2.2.1).bind fun r2152 =>
    (ref01_Same F r2146.1 r2150.1).bind fun r2153 =>
    cond r2146.2.1
      (cond (r2146.2.2.1 == (0 : Int))
        (cond (r2146.2.2.2.2.1 == (0 : Int))
          (cond (r2146.2.2.2.2.2.2.1 == (0 : Int))
            (cond (r2150.2.1 == (0 : Int))
              (cond r2152.1
                (some (r2153.1, ()))
                (some (false, ())))
              (some (false, ())))
            (some (false, ())))
          (some (false, ())))
        (some (false, ())))
      (some (false, ())))

/-- swatch/swatchref03.Small -/
def ref03_Small (F : Nat) (a0 : Int) : Option (Bool × Unit) :=
  cond (decide ((-(1048576 : Int)) ≤ a0))
    (some ((decide (a0 ≤ (1048576 : Int))), ()))
    (some (false, ()))

/-- swatch/level.Clamp -/
def level_Clamp (F : Nat) (a0 : Int) (a1 : Int) : Option (Int × Unit) :=
  some ((max (0 : Int) (min a0 a1)), ())

end Go.AE.Gn

/- Printed by a program of mine (gen.py): what the Go functions of this part come to. -/
import Derived.Test.YtaogfbhifeobmaaA02defs
import Derived.Test.YtaogfbhifeobmaaA07defs
set_option linter.unusedSimpArgs false
set_option linter.unusedVariables false
namespace Go.AE.Gn
open Go Go.AE

def law06_awakeT0 : List Int := [0, 1, 2, 3, 0, 0, 0, 0, 0, 0, 0, 0, 0, 0, 0, 0]
def bcone_JoinT41 : List Int := [0, 0, 0, 0, 0, 0, 0, 0]
def bcone_Join_l0S (F : Nat) (rec : Int → List Int → Int → Option (Unit ⊕ (Int × Unit))) (x0 : Int) (x1 : List Int) (x2 : Int) : Option (Unit ⊕ (Int × Unit)) :=
  cond (decide (x2 < (16 : Int)))
    (cond ((decide ((0 : Int) ≤ x2)) && (decide (x2 < (16 : Int))))
      (let v187 : Int := (List.getD x1 (Int.toNat x2) (0 : Int))
      cond (decide (v187 < (0 : Int)))
        (some (.inl ()))
        (cond (decide ((3 : Int) < v187))
          (some (.inl ()))
          (let v192 : Int := (IntKind.wrap .i64 ((32 : Int) + (IntKind.wrap .i64 ((2 : Int) * x2))))
          cond (decide ((0 : Int) ≤ v192))
            (rec (ior .u64 x0 (ishl .u64 (IntKind.wrap .u64 v187) v192)) x1 (IntKind.wrap .i64 (x2 + (1 : Int))))
            (none))))
      (none))
    (some (.inr (x0, ())))

def bcone_Join_l0 (F : Nat) : Nat → Int → List Int → Int → Option (Unit ⊕ (Int × Unit))
  | 0, _, _, _ => none
  | k + 1, x0, x1, x2 => bcone_Join_l0S F (bcone_Join_l0 F k) x0 x1 x2

/-- swatch/bcone.Join -/
def bcone_Join (F : Nat) (a0 : Int) (a1 : Int) (a2 : List Int) : Option (List Int × (Int × Unit)) :=
  cond (decide (a0 < (0 : Int)))
    (some ([], ((1 : Int), ())))
    (cond (decide ((65535 : Int) < a0))
      (some ([], ((1 : Int), ())))
      (cond (decide (a1 < (0 : Int)))
        (some ([], ((1 : Int), ())))
        (cond (decide ((65535 : Int) < a1))
          (some ([], ((1 : Int), ())))
          ((bcone_Join_l0 F F (ior .u64 (IntKind.wrap .u64 a0) (ishl .u64 (IntKind.wrap .u64 a1) (16 : Int))) (if ((0 = 0) ∧ (16 = 16)) then a2 else (List.take 16 (List.drop 0 a2))) (0 : Int)).bind fun r197 => match r197 with
            | .inl r197 => (some ([], ((1 : Int), ())))
            | .inr r197 => ((bits_SetLow F bcone_JoinT41 (0 : Int) (64 : Int) r197.1).bind fun r198 =>
              some (r198.1, (r198.2.1, ())))))))

def bcone_DecodeT203 : List Int := [0, 0, 0, 0, 0, 0, 0, 0, 0, 0, 0, 0, 0, 0, 0, 0, 0, 0, 0, 0, 0, 0, 0, 0, 0, 0, 0, 0, 0, 0, 0, 0, 0, 0, 0, 0, 0, 0, 0, 0, 0, 0, 0, 0, 0, 0, 0, 0, 0, 0, 0, 0, 0, 0, 0, 0, 0, 0, 0, 0, 0, 0, 0, 0]
def bcone_PartsT205 : List Int := [0, 0, 0, 0, 0, 0, 0, 0, 0, 0, 0, 0, 0, 0, 0, 0]
/-- swatch/bcone.Parts -/
def bcone_Parts (F : Nat) (a0 : List Int) : Option (Int × (Int × (List Int × (Int × Unit)))) :=
  cond ((((List.length a0) : Nat) : Int) != (8 : Int))
    (some ((0 : Int), ((0 : Int), (bcone_PartsT205, ((1 : Int), ())))))
    ((bits_Lows F a0 (0 : Int) (16 : Int) (2 : Int)).bind fun r348 =>
    let n349 : Nat := (List.length r348.1)
    (bits_Lows F a0 (32 : Int) (2 : Int) (16 : Int)).bind fun r350 =>
    let n351 : Nat := (List.length r350.1)
    let l353 : List Int := (((List.take 0 bcone_PartsT205) ++ (List.take (min n351 16) r350.1)) ++ (List.drop (0 + (min n351 16)) bcone_PartsT205))
    cond (decide ((0 : Int) < ((n349 : Nat) : Int)))
      (cond (decide ((1 : Int) < ((n349 : Nat) : Int)))
        (let l358 : List Int := (if ((0 = 0) ∧ (16 = 16)) then l353 else (List.take 16 (List.drop 0 l353)))
        let l359 : List Int := (if ((0 = 0) ∧ (16 = 16)) then l358 else (((List.take 0 bcone_PartsT205) ++ l358) ++ (List.drop 16 bcone_PartsT205)))
        some ((List.getD r348.1 0 (0 : Int)), ((List.getD r348.1 1 (0 : Int)), ((if ((0 = 0) ∧ (16 = 16)) then l359 else (List.take 16 (List.drop 0 l359))), ((0 : Int), ())))))
        (none))
      (none))

/-- swatch/bcone.Colour -/
def bcone_Colour (F : Nat) (a0 : Int) : Option (List Int × Unit) :=
  (level_Wide F (ishr .i64 a0 (11 : Int)) (5 : Int)).bind fun r390 =>
  (level_Wide F (ishr .i64 a0 (5 : Int)) (6 : Int)).bind fun r392 =>
  (level_Wide F a0 (5 : Int)).bind fun r393 =>
  some ([r390.1, r392.1, r393.1, (255 : Int)], ())

def bcone_between_l0S (F : Nat) (rec : Int → Int → List Int → List Int → List Int → List Int → Int → Option (List Int × (List Int × Unit))) (x0 : Int) (x1 : Int) (x2 : List Int) (x3 : List Int) (x4 : List Int) (x5 : List Int) (x6 : Int) : Option (List Int × (List Int × Unit)) :=
  cond (decide (x6 < (3 : Int)))
    (let b424 : Bool := ((decide ((0 : Int) ≤ x6)) && (decide (x6 < (4 : Int))))
    cond b424
      (cond b424
        ((level_Mix F (List.getD x2 (Int.toNat x6) (0 : Int)) (List.getD x3 (Int.toNat x6) (0 : Int)) x0 x1 (0 : Int)).bind fun r428 =>
        cond b424
          (rec x0 x1 x2 x3 x4 (List.set x5 (Int.toNat x6) r428.1) (IntKind.wrap .i64 (x6 + (1 : Int))))
          (none))
        (none))
      (none))
    (some (x4, (x5, ())))

def bcone_between_l0 (F : Nat) : Nat → Int → Int → List Int → List Int → List Int → List Int → Int → Option (List Int × (List Int × Unit))
  | 0, _, _, _, _, _, _, _ => none
  | k + 1, x0, x1, x2, x3, x4, x5, x6 => bcone_between_l0S F (bcone_between_l0 F k) x0 x1 x2 x3 x4 x5 x6

/-- swatch/bcone.between -/
def bcone_between (F : Nat) (a0 : List Int) (a1 : List Int) (a2 : Int) (a3 : Int) : Option (List Int × Unit) :=
  (bcone_between_l0 F F a2 a3 a0 a1 [(0 : Int), (0 : Int), (0 : Int), (0 : Int)] [(0 : Int), (0 : Int), (0 : Int), (255 : Int)] (0 : Int)).bind fun r431 =>
  let l432 : List Int := (if ((0 = 0) ∧ (4 = 4)) then r431.2.1 else (List.take 4 (List.drop 0 r431.2.1)))
  let l433 : List Int := (if ((0 = 0) ∧ (4 = 4)) then l432 else (((List.take 0 r431.1) ++ l432) ++ (List.drop 4 r431.1)))
  some ((if ((0 = 0) ∧ (4 = 4)) then l433 else (List.take 4 (List.drop 0 l433))), ())

/-- swatch/bcone.Palette -/
def bcone_Palette (F : Nat) (a0 : Int) (a1 : Int) (a2 : Bool) : Option (List Int × Unit) :=
  (bcone_Colour F a0).bind fun r394 =>
  (bcone_Colour F a1).bind fun r395 =>
  let l396 : List Int := (if ((0 = 0) ∧ (4 = 4)) then r394.1 else (((List.take 0 [(0 : Int), (0 : Int), (0 : Int), (0 : Int)]) ++ r394.1) ++ (List.drop 4 [(0 : Int), (0 : Int), (0 : Int), (0 : Int)])))
  let l397 : List Int := (if ((0 = 0) ∧ (4 = 4)) then r395.1 else (((List.take 0 [(0 : Int), (0 : Int), (0 : Int), (0 : Int)]) ++ r395.1) ++ (List.drop 4 [(0 : Int), (0 : Int), (0 : Int), (0 : Int)])))
  cond a2
    (let l398 : List Int := (if ((0 = 0) ∧ (4 = 4)) then l396 else (List.take 4 (List.drop 0 l396)))
    let l399 : List Int := (if ((0 = 0) ∧ (4 = 4)) then l397 else (List.take 4 (List.drop 0 l397)))
    (bcone_between F l398 l399 (1 : Int) (3 : Int)).bind fun r435 =>
    (bcone_between F l398 l399 (2 : Int) (3 : Int)).bind fun r436 =>
    let l437 : List Int := (l398 ++ (l399 ++ (r435.1 ++ r436.1)))
    let l438 : List Int := (if ((0 = 0) ∧ (16 = 16)) then l437 else (((List.take 0 bcone_PartsT205) ++ l437) ++ (List.drop 16 bcone_PartsT205)))
    some ((if ((0 = 0) ∧ (16 = 16)) then l438 else (List.take 16 (List.drop 0 l438))), ()))
    (cond (decide (a1 < a0))
      (let l441 : List Int := (if ((0 = 0) ∧ (4 = 4)) then l396 else (List.take 4 (List.drop 0 l396)))
      let l442 : List Int := (if ((0 = 0) ∧ (4 = 4)) then l397 else (List.take 4 (List.drop 0 l397)))
      (bcone_between F l441 l442 (1 : Int) (3 : Int)).bind fun r443 =>
      (bcone_between F l441 l442 (2 : Int) (3 : Int)).bind fun r444 =>
      let l445 : List Int := (l441 ++ (l442 ++ (r443.1 ++ r444.1)))
      let l446 : List Int := (if ((0 = 0) ∧ (16 = 16)) then l445 else (((List.take 0 bcone_PartsT205) ++ l445) ++ (List.drop 16 bcone_PartsT205)))
      some ((if ((0 = 0) ∧ (16 = 16)) then l446 else (List.take 16 (List.drop 0 l446))), ()))
      (let l448 : List Int := (if ((0 = 0) ∧ (4 = 4)) then l396 else (List.take 4 (List.drop 0 l396)))
      let l449 : List Int := (if ((0 = 0) ∧ (4 = 4)) then l397 else (List.take 4 (List.drop 0 l397)))
      (bcone_between F l448 l449 (1 : Int) (2 : Int)).bind fun r450 =>
      let l451 : List Int := (l448 ++ (l449 ++ (r450.1 ++ [(0 : Int), (0 : Int), (0 : Int), (0 : Int)])))
      let l452 : List Int := (if ((0 = 0) ∧ (16 = 16)) then l451 else (((List.take 0 bcone_PartsT205) ++ l451) ++ (List.drop 16 bcone_PartsT205)))
      some ((if ((0 = 0) ∧ (16 = 16)) then l452 else (List.take 16 (List.drop 0 l452))), ())))

def bcone_Decode_l0S (F : Nat) (rec : List Int → List Int → List Int → List Int → Int → Option (List Int × (List Int × Unit))) (x0 : List Int) (x1 : List Int) (x2 : List Int) (x3 : List Int) (x4 : Int) : Option (List Int × (List Int × Unit)) :=
  cond (decide (x4 < (16 : Int)))
    (let b472 : Bool := ((decide ((0 : Int) ≤ x4)) && (decide (x4 < (16 : Int))))
    cond b472
      (let v473 : Int := (List.getD x3 (Int.toNat x4) (0 : Int))
      cond ((decide ((0 : Int) ≤ v473)) && (decide (v473 < (4 : Int))))
        (cond b472
          (let n477 : Nat := ((Int.toNat x4) * 4)
          rec x0 (((List.take n477 x1) ++ (List.take 4 (List.drop ((Int.toNat v473) * 4) x2))) ++ (List.drop (n477 + 4) x1)) x2 x3 (IntKind.wrap .i64 (x4 + (1 : Int))))
          (none))
        (none))
      (none))
    (some (x0, (x1, ())))

def bcone_Decode_l0 (F : Nat) : Nat → List Int → List Int → List Int → List Int → Int → Option (List Int × (List Int × Unit))
  | 0, _, _, _, _, _ => none
  | k + 1, x0, x1, x2, x3, x4 => bcone_Decode_l0S F (bcone_Decode_l0 F k) x0 x1 x2 x3 x4

/-- swatch/bcone.Decode -/
def bcone_Decode (F : Nat) (a0 : List Int) (a1 : Bool) : Option (List Int × (Int × Unit)) :=
  (bcone_Parts F a0).bind fun r361 =>
  let l362 : List Int := (if ((0 = 0) ∧ (16 = 16)) then r361.2.2.1 else (((List.take 0 bcone_PartsT205) ++ r361.2.2.1) ++ (List.drop 16 bcone_PartsT205)))
  cond (r361.2.2.2.1 != (0 : Int))
    (some (bcone_DecodeT203, (r361.2.2.2.1, ())))
    ((bcone_Palette F r361.1 r361.2.1 a1).bind fun r454 =>
    (bcone_Decode_l0 F F bcone_DecodeT203 bcone_DecodeT203 (if ((0 = 0) ∧ (16 = 16)) then r454.1 else (((List.take 0 bcone_PartsT205) ++ r454.1) ++ (List.drop 16 bcone_PartsT205))) (if ((0 = 0) ∧ (16 = 16)) then l362 else (List.take 16 (List.drop 0 l362))) (0 : Int)).bind fun r480 =>
    let l481 : List Int := (if ((0 = 0) ∧ (64 = 64)) then r480.2.1 else (List.take 64 (List.drop 0 r480.2.1)))
    let l482 : List Int := (if ((0 = 0) ∧ (64 = 64)) then l481 else (((List.take 0 r480.1) ++ l481) ++ (List.drop 64 r480.1)))
    some ((if ((0 = 0) ∧ (64 = 64)) then l482 else (List.take 64 (List.drop 0 l482))), ((0 : Int), ())))

def law06_awakeT486 : List Int := [0, 0, 0, 0, 255, 0, 0, 0]
/-- swatch/bcone.Pack -/
def bcone_Pack (F : Nat) (a0 : List Int) : Option (Int × Unit) :=
  (level_Near F (List.getD a0 0 (0 : Int)) (5 : Int)).bind fun r564 =>
  (level_Near F (List.getD a0 1 (0 : Int)) (6 : Int)).bind fun r567 =>
  (level_Near F (List.getD a0 2 (0 : Int)) (5 : Int)).bind fun r571 =>
  some ((ior .i64 (ior .i64 (ishl .i64 r564.1 (11 : Int)) (ishl .i64 r567.1 (5 : Int))) r571.1), ())

/-- swatch/swatchlaw06.awake -/
def law06_awake (F : Nat) : Option (Bool × Unit) :=
  (bcone_Join F (63488 : Int) (31 : Int) law06_awakeT0).bind fun r200 =>
  (bcone_Decode F r200.1 false).bind fun r484 =>
  let l485 : List Int := (if ((0 = 0) ∧ (64 = 64)) then r484.1 else (((List.take 0 bcone_DecodeT203) ++ r484.1) ++ (List.drop 64 bcone_DecodeT203)))
  (bcone_Decode F law06_awakeT486 false).bind fun r487 =>
  let l488 : List Int := (if ((0 = 0) ∧ (64 = 64)) then r487.1 else (((List.take 0 bcone_DecodeT203) ++ r487.1) ++ (List.drop 64 bcone_DecodeT203)))
  cond (r200.2.1 == (0 : Int))
    (cond (r484.2.1 == (0 : Int))
      (cond (r487.2.1 == (0 : Int))
        (cond ((if ((0 = 0) ∧ (4 = 64)) then l485 else (List.take 4 (List.drop 0 l485))) == [(255 : Int), (0 : Int), (0 : Int), (255 : Int)])
          (cond ((if ((4 = 0) ∧ (4 = 64)) then l485 else (List.take 4 (List.drop 4 l485))) == [(0 : Int), (0 : Int), (255 : Int), (255 : Int)])
            (cond ((if ((8 = 0) ∧ (4 = 64)) then l485 else (List.take 4 (List.drop 8 l485))) == [(170 : Int), (0 : Int), (85 : Int), (255 : Int)])
              (cond ((if ((12 = 0) ∧ (4 = 64)) then l485 else (List.take 4 (List.drop 12 l485))) == [(85 : Int), (0 : Int), (170 : Int), (255 : Int)])
                (cond ((if ((0 = 0) ∧ (4 = 64)) then l488 else (List.take 4 (List.drop 0 l488))) == [(0 : Int), (0 : Int), (0 : Int), (0 : Int)])
                  (cond ((if ((16 = 0) ∧ (4 = 64)) then l488 else (List.take 4 (List.drop 16 l488))) == [(0 : Int), (0 : Int), (0 : Int), (255 : Int)])
                    ((bcone_Pack F [(250 : Int), (1 : Int), (1 : Int), (9 : Int)]).bind fun r573 =>
                    some ((r573.1 == (61440 : Int)), ()))
                    (some (false, ())))
                  (some (false, ())))
                (some (false, ())))
              (some (false, ())))
            (some (false, ())))
          (some (false, ())))
        (some (false, ())))
      (some (false, ())))
    (some (false, ()))

/-- swatch/swatchref06.Colour -/
def ref06_Colour (F : Nat) (a0 : Int) : Option (List Int × Unit) :=
  let v598 : Int := (Int.tmod a0 (65536 : Int))
  cond (decide (v598 < (0 : Int)))
    (let v600 : Int := (IntKind.wrap .i64 (v598 + (65536 : Int)))
    (ref03_Wide F (IntKind.wrap .i64 (Int.tdiv v600 (2048 : Int))) (5 : Int)).bind fun r652 =>
    (ref03_Wide F (IntKind.wrap .i64 (Int.tdiv v600 (32 : Int))) (6 : Int)).bind fun r654 =>
    (ref03_Wide F v600 (5 : Int)).bind fun r655 =>
    some ([r652.1, r654.1, r655.1, (255 : Int)], ()))
    ((ref03_Wide F (IntKind.wrap .i64 (Int.tdiv v598 (2048 : Int))) (5 : Int)).bind fun r657 =>
    (ref03_Wide F (IntKind.wrap .i64 (Int.tdiv v598 (32 : Int))) (6 : Int)).bind fun r659 =>
    (ref03_Wide F v598 (5 : Int)).bind fun r660 =>
    some ([r657.1, r659.1, r660.1, (255 : Int)], ()))

/-- swatch/swatchref03.far -/
def ref03_far (F : Nat) (a0 : Int) : Option (Int × Unit) :=
  some ((IntKind.wrap .i64 (a0 * a0)), ())

def ref03_Near_l0S (F : Nat) (rec : Int → Int → Int → Int → Option (Int × Unit)) (x0 : Int) (x1 : Int) (x2 : Int) (x3 : Int) : Option (Int × Unit) :=
  (ref03_power F x1).bind fun r689 =>
  cond (decide (x3 < r689.1))
    ((ref03_Wide F x3 x1).bind fun r691 =>
    (ref03_far F (IntKind.wrap .i64 (r691.1 - x0))).bind fun r693 =>
    (ref03_Wide F x2 x1).bind fun r694 =>
    (ref03_far F (IntKind.wrap .i64 (r694.1 - x0))).bind fun r696 =>
    cond (decide (r693.1 < r696.1))
      (rec x0 x1 x3 (IntKind.wrap .i64 (x3 + (1 : Int))))
      (rec x0 x1 x2 (IntKind.wrap .i64 (x3 + (1 : Int)))))
    (some (x2, ()))

def ref03_Near_l0 (F : Nat) : Nat → Int → Int → Int → Int → Option (Int × Unit)
  | 0, _, _, _, _ => none
  | k + 1, x0, x1, x2, x3 => ref03_Near_l0S F (ref03_Near_l0 F k) x0 x1 x2 x3

/-- swatch/swatchref03.Near -/
def ref03_Near (F : Nat) (a0 : Int) (a1 : Int) : Option (Int × Unit) :=
  cond (decide (a1 < (1 : Int)))
    (some ((0 : Int), ()))
    (cond (decide ((8 : Int) < a1))
      (some ((0 : Int), ()))
      ((ref03_Near_l0 F F a0 a1 (0 : Int) (1 : Int)).bind fun r700 =>
      some (r700.1, ())))

/-- swatch/swatchref06.Pack -/
def ref06_Pack (F : Nat) (a0 : List Int) : Option (Int × Unit) :=
  (ref03_Near F (List.getD a0 0 (0 : Int)) (5 : Int)).bind fun r701 =>
  (ref03_Near F (List.getD a0 1 (0 : Int)) (6 : Int)).bind fun r704 =>
  (ref03_Near F (List.getD a0 2 (0 : Int)) (5 : Int)).bind fun r708 =>
  some ((IntKind.wrap .i64 ((IntKind.wrap .i64 ((IntKind.wrap .i64 ((2048 : Int) * r701.1)) + (IntKind.wrap .i64 ((32 : Int) * r704.1)))) + r708.1)), ())

def ref06_mix_l0S (F : Nat) (rec : Int → Int → List Int → List Int → List Int → List Int → Int → Option (List Int × (List Int × Unit))) (x0 : Int) (x1 : Int) (x2 : List Int) (x3 : List Int) (x4 : List Int) (x5 : List Int) (x6 : Int) : Option (List Int × (List Int × Unit)) :=
  cond (decide (x6 < (3 : Int)))
    (let b747 : Bool := ((decide ((0 : Int) ≤ x6)) && (decide (x6 < (4 : Int))))
    cond b747
      (cond b747
        ((ref03_Mix F (List.getD x2 (Int.toNat x6) (0 : Int)) (List.getD x3 (Int.toNat x6) (0 : Int)) x0 x1 (0 : Int)).bind fun r751 =>
        cond b747
          (rec x0 x1 x2 x3 x4 (List.set x5 (Int.toNat x6) r751.1) (IntKind.wrap .i64 (x6 + (1 : Int))))
          (none))
        (none))
      (none))
    (some (x4, (x5, ())))

def ref06_mix_l0 (F : Nat) : Nat → Int → Int → List Int → List Int → List Int → List Int → Int → Option (List Int × (List Int × Unit))
  | 0, _, _, _, _, _, _, _ => none
  | k + 1, x0, x1, x2, x3, x4, x5, x6 => ref06_mix_l0S F (ref06_mix_l0 F k) x0 x1 x2 x3 x4 x5 x6

/-- swatch/swatchref06.mix -/
def ref06_mix (F : Nat) (a0 : List Int) (a1 : List Int) (a2 : Int) (a3 : Int) : Option (List Int × Unit) :=
  (ref06_mix_l0 F F a2 a3 a0 a1 [(0 : Int), (0 : Int), (0 : Int), (0 : Int)] [(0 : Int), (0 : Int), (0 : Int), (255 : Int)] (0 : Int)).bind fun r754 =>
  let l755 : List Int := (if ((0 = 0) ∧ (4 = 4)) then r754.2.1 else (List.take 4 (List.drop 0 r754.2.1)))
  let l756 : List Int := (if ((0 = 0) ∧ (4 = 4)) then l755 else (((List.take 0 r754.1) ++ l755) ++ (List.drop 4 r754.1)))
  some ((if ((0 = 0) ∧ (4 = 4)) then l756 else (List.take 4 (List.drop 0 l756))), ())

/-- swatch/swatchref06.Palette -/
def ref06_Palette (F : Nat) (a0 : Int) (a1 : Int) (a2 : Bool) : Option (List Int × Unit) :=
  (ref06_Colour F a0).bind fun r718 =>
  let l719 : List Int := (if ((0 = 0) ∧ (4 = 4)) then r718.1 else (((List.take 0 [(0 : Int), (0 : Int), (0 : Int), (0 : Int)]) ++ r718.1) ++ (List.drop 4 [(0 : Int), (0 : Int), (0 : Int), (0 : Int)])))
  (ref06_Colour F a1).bind fun r720 =>
  let l721 : List Int := (if ((0 = 0) ∧ (4 = 4)) then r720.1 else (((List.take 0 [(0 : Int), (0 : Int), (0 : Int), (0 : Int)]) ++ r720.1) ++ (List.drop 4 [(0 : Int), (0 : Int), (0 : Int), (0 : Int)])))
  cond a2
    (let l722 : List Int := (if ((0 = 0) ∧ (4 = 4)) then l719 else (List.take 4 (List.drop 0 l719)))
    let l723 : List Int := (if ((0 = 0) ∧ (4 = 4)) then l721 else (List.take 4 (List.drop 0 l721)))
    (ref06_mix F l722 l723 (1 : Int) (3 : Int)).bind fun r758 =>
    (ref06_mix F l722 l723 (2 : Int) (3 : Int)).bind fun r759 =>
    let l760 : List Int := (l722 ++ (l723 ++ (r758.1 ++ r759.1)))
    let l761 : List Int := (if ((0 = 0) ∧ (16 = 16)) then l760 else (((List.take 0 bcone_PartsT205) ++ l760) ++ (List.drop 16 bcone_PartsT205)))
    some ((if ((0 = 0) ∧ (16 = 16)) then l761 else (List.take 16 (List.drop 0 l761))), ()))
    (cond (decide (a1 < a0))
      (let l764 : List Int := (if ((0 = 0) ∧ (4 = 4)) then l719 else (List.take 4 (List.drop 0 l719)))
      let l765 : List Int := (if ((0 = 0) ∧ (4 = 4)) then l721 else (List.take 4 (List.drop 0 l721)))
      (ref06_mix F l764 l765 (1 : Int) (3 : Int)).bind fun r766 =>
      (ref06_mix F l764 l765 (2 : Int) (3 : Int)).bind fun r767 =>
      let l768 : List Int := (l764 ++ (l765 ++ (r766.1 ++ r767.1)))
      let l769 : List Int := (if ((0 = 0) ∧ (16 = 16)) then l768 else (((List.take 0 bcone_PartsT205) ++ l768) ++ (List.drop 16 bcone_PartsT205)))
      some ((if ((0 = 0) ∧ (16 = 16)) then l769 else (List.take 16 (List.drop 0 l769))), ()))
      (let l771 : List Int := (if ((0 = 0) ∧ (4 = 4)) then l719 else (List.take 4 (List.drop 0 l719)))
      let l772 : List Int := (if ((0 = 0) ∧ (4 = 4)) then l721 else (List.take 4 (List.drop 0 l721)))
      (ref06_mix F l771 l772 (1 : Int) (2 : Int)).bind fun r773 =>
      let l774 : List Int := (l771 ++ (l772 ++ (r773.1 ++ [(0 : Int), (0 : Int), (0 : Int), (0 : Int)])))
      let l775 : List Int := (if ((0 = 0) ∧ (16 = 16)) then l774 else (((List.take 0 bcone_PartsT205) ++ l774) ++ (List.drop 16 bcone_PartsT205)))
      some ((if ((0 = 0) ∧ (16 = 16)) then l775 else (List.take 16 (List.drop 0 l775))), ())))

def law06_BconeColours_l0S (F : Nat) (rec : Bool → List Int → List Int → Bool → Int → Option ((Bool × Unit) ⊕ (Bool × (List Int × (List Int × (Bool × Unit)))))) (x0 : Bool) (x1 : List Int) (x2 : List Int) (x3 : Bool) (x4 : Int) : Option ((Bool × Unit) ⊕ (Bool × (List Int × (List Int × (Bool × Unit))))) :=
  cond (decide (x4 < (4 : Int)))
    (cond ((decide ((0 : Int) ≤ x4)) && (decide (x4 < (4 : Int))))
      ((ref03_Small F (List.getD x2 (Int.toNat x4) (0 : Int))).bind fun r592 =>
      cond (!r592.1)
        (some (.inl (x3, ())))
        (rec x0 x1 x2 x3 (IntKind.wrap .i64 (x4 + (1 : Int)))))
      (none))
    (some (.inr (x0, (x1, (x2, (x3, ()))))))

def law06_BconeColours_l0 (F : Nat) : Nat → Bool → List Int → List Int → Bool → Int → Option ((Bool × Unit) ⊕ (Bool × (List Int × (List Int × (Bool × Unit)))))
  | 0, _, _, _, _, _ => none
  | k + 1, x0, x1, x2, x3, x4 => law06_BconeColours_l0S F (law06_BconeColours_l0 F k) x0 x1 x2 x3 x4

/-- swatch/swatchlaw06.BconeColours -/
def law06_BconeColours (F : Nat) (a0 : List Int) (a1 : Bool) (a2 : List Int) : Option (Bool × Unit) :=
  (law06_awake F).bind fun r575 =>
  (law06_BconeColours_l0 F F a1 a0 a2 r575.1 (0 : Int)).bind fun r595 => match r595 with
    | .inl r595 => (some (r595.1, ()))
    | .inr r595 => (let v596 : Int := (List.getD r595.2.1 0 (0 : Int))
      (bcone_Colour F v596).bind fun r597 =>
      (ref06_Colour F v596).bind fun r661 =>
      cond (!(r597.1 == r661.1))
        (some (false, ()))
        (let l663 : List Int := (if ((0 = 0) ∧ (4 = 4)) then r595.2.2.1 else (List.take 4 (List.drop 0 r595.2.2.1)))
        (bcone_Pack F l663).bind fun r664 =>
        (ref06_Pack F l663).bind fun r710 =>
        cond (r664.1 != r710.1)
          (some (false, ()))
          (cond (decide (v596 < (0 : Int)))
            (some (r595.2.2.2.1, ()))
            (cond (decide ((65535 : Int) < v596))
              (some (r595.2.2.2.1, ()))
              (let v714 : Int := (List.getD r595.2.1 1 (0 : Int))
              cond (decide (v714 < (0 : Int)))
                (some (r595.2.2.2.1, ()))
                (cond (decide ((65535 : Int) < v714))
                  (some (r595.2.2.2.1, ()))
                  (cond r595.2.2.2.1
                    ((bcone_Palette F v596 v714 r595.1).bind fun r717 =>
                    (ref06_Palette F v596 v714 r595.1).bind fun r777 =>
                    some ((r717.1 == r777.1), ()))
                    (some (false, ())))))))))

def ref06_Parts_l0S (F : Nat) (rec : List Int → List Int → List Int → Int → Option (List Int × (List Int × (List Int × Unit)))) (x0 : List Int) (x1 : List Int) (x2 : List Int) (x3 : Int) : Option (List Int × (List Int × (List Int × Unit))) :=
  cond (decide (x3 < (16 : Int)))
    ((ref02_Field F x0 (IntKind.wrap .i64 ((32 : Int) + (IntKind.wrap .i64 ((2 : Int) * x3)))) (2 : Int)).bind fun r891 =>
    cond ((decide ((0 : Int) ≤ x3)) && (decide (x3 < (16 : Int))))
      (rec x0 x1 (List.set x2 (Int.toNat x3) r891.1) (IntKind.wrap .i64 (x3 + (1 : Int))))
      (none))
    (some (x0, (x1, (x2, ()))))

def ref06_Parts_l0 (F : Nat) : Nat → List Int → List Int → List Int → Int → Option (List Int × (List Int × (List Int × Unit)))
  | 0, _, _, _, _ => none
  | k + 1, x0, x1, x2, x3 => ref06_Parts_l0S F (ref06_Parts_l0 F k) x0 x1 x2 x3

/-- swatch/swatchref06.Parts -/
def ref06_Parts (F : Nat) (a0 : List Int) : Option (Int × (Int × (List Int × (Int × Unit)))) :=
  cond ((((List.length a0) : Nat) : Int) != (8 : Int))
    (some ((0 : Int), ((0 : Int), (bcone_PartsT205, ((1 : Int), ())))))
    ((ref06_Parts_l0 F F a0 bcone_PartsT205 bcone_PartsT205 (0 : Int)).bind fun r896 =>
    (ref02_Field F r896.1 (0 : Int) (16 : Int)).bind fun r898 =>
    (ref02_Field F r896.1 (16 : Int) (16 : Int)).bind fun r899 =>
    let l900 : List Int := (if ((0 = 0) ∧ (16 = 16)) then r896.2.2.1 else (List.take 16 (List.drop 0 r896.2.2.1)))
    let l901 : List Int := (if ((0 = 0) ∧ (16 = 16)) then l900 else (((List.take 0 r896.2.1) ++ l900) ++ (List.drop 16 r896.2.1)))
    some (r898.1, (r899.1, ((if ((0 = 0) ∧ (16 = 16)) then l901 else (List.take 16 (List.drop 0 l901))), ((0 : Int), ())))))

def ref06_Decode_l0S (F : Nat) (rec : List Int → List Int → List Int → List Int → Int → Option (List Int × (List Int × Unit))) (x0 : List Int) (x1 : List Int) (x2 : List Int) (x3 : List Int) (x4 : Int) : Option (List Int × (List Int × Unit)) :=
  cond (decide (x4 < (16 : Int)))
    (let b929 : Bool := ((decide ((0 : Int) ≤ x4)) && (decide (x4 < (16 : Int))))
    cond b929
      (let v931 : Int := (List.getD x2 (Int.toNat x4) (0 : Int))
      cond ((decide ((0 : Int) ≤ v931)) && (decide (v931 < (4 : Int))))
        (cond b929
          (let n935 : Nat := ((Int.toNat x4) * 4)
          rec x0 (((List.take n935 x1) ++ (List.take 4 (List.drop ((Int.toNat v931) * 4) x3))) ++ (List.drop (n935 + 4) x1)) x2 x3 (IntKind.wrap .i64 (x4 + (1 : Int))))
          (none))
        (none))
      (none))
    (some (x0, (x1, ())))

def ref06_Decode_l0 (F : Nat) : Nat → List Int → List Int → List Int → List Int → Int → Option (List Int × (List Int × Unit))
  | 0, _, _, _, _, _ => none
  | k + 1, x0, x1, x2, x3, x4 => ref06_Decode_l0S F (ref06_Decode_l0 F k) x0 x1 x2 x3 x4

/-- swatch/swatchref06.Decode -/
def ref06_Decode (F : Nat) (a0 : List Int) (a1 : Bool) : Option (List Int × (Int × Unit)) :=
  (ref06_Parts F a0).bind fun r908 =>
  cond (r908.2.2.2.1 != (0 : Int))
    (some (bcone_DecodeT203, (r908.2.2.2.1, ())))
    ((ref06_Palette F r908.1 r908.2.1 a1).bind fun r911 =>
    (ref06_Decode_l0 F F bcone_DecodeT203 bcone_DecodeT203 (if ((0 = 0) ∧ (16 = 16)) then r908.2.2.1 else (((List.take 0 bcone_PartsT205) ++ r908.2.2.1) ++ (List.drop 16 bcone_PartsT205))) (if ((0 = 0) ∧ (16 = 16)) then r911.1 else (((List.take 0 bcone_PartsT205) ++ r911.1) ++ (List.drop 16 bcone_PartsT205))) (0 : Int)).bind fun r938 =>
    let l939 : List Int := (if ((0 = 0) ∧ (64 = 64)) then r938.2.1 else (List.take 64 (List.drop 0 r938.2.1)))
    let l940 : List Int := (if ((0 = 0) ∧ (64 = 64)) then l939 else (((List.take 0 r938.1) ++ l939) ++ (List.drop 64 r938.1)))
    some ((if ((0 = 0) ∧ (64 = 64)) then l940 else (List.take 64 (List.drop 0 l940))), ((0 : Int), ())))

def ref06_Join_l0S (F : Nat) (rec : List Int → List Int → Int → Option (Unit ⊕ (List Int × Unit))) (x0 : List Int) (x1 : List Int) (x2 : Int) : Option (Unit ⊕ (List Int × Unit)) :=
  cond (decide (x2 < (16 : Int)))
    (let b1671 : Bool := ((decide ((0 : Int) ≤ x2)) && (decide (x2 < (16 : Int))))
    cond b1671
      (let v1673 : Int := (List.getD x0 (Int.toNat x2) (0 : Int))
      cond (decide (v1673 < (0 : Int)))
        (some (.inl ()))
        (cond b1671
          (cond (decide ((3 : Int) < v1673))
            (some (.inl ()))
            (cond b1671
              ((ref02_Set F x1 (IntKind.wrap .i64 ((32 : Int) + (IntKind.wrap .i64 ((2 : Int) * x2)))) (2 : Int) false (IntKind.wrap .u64 v1673)).bind fun r1679 =>
              rec x0 r1679.1 (IntKind.wrap .i64 (x2 + (1 : Int))))
              (none)))
          (none)))
      (none))
    (some (.inr (x1, ())))

def ref06_Join_l0 (F : Nat) : Nat → List Int → List Int → Int → Option (Unit ⊕ (List Int × Unit))
  | 0, _, _, _ => none
  | k + 1, x0, x1, x2 => ref06_Join_l0S F (ref06_Join_l0 F k) x0 x1 x2

/-- swatch/swatchref06.Join -/
def ref06_Join (F : Nat) (a0 : Int) (a1 : Int) (a2 : List Int) : Option (List Int × (Int × Unit)) :=
  cond (decide (a0 < (0 : Int)))
    (some ([], ((1 : Int), ())))
    (cond (decide (a1 < (0 : Int)))
      (some ([], ((1 : Int), ())))
      (cond (decide ((65535 : Int) < a0))
        (some ([], ((1 : Int), ())))
        (cond (decide ((65535 : Int) < a1))
          (some ([], ((1 : Int), ())))
          ((ref02_Set F bcone_JoinT41 (0 : Int) (16 : Int) false (IntKind.wrap .u64 a0)).bind fun r1644 =>
          (ref02_Set F r1644.1 (16 : Int) (16 : Int) false (IntKind.wrap .u64 a1)).bind fun r1647 =>
          (ref06_Join_l0 F F a2 r1647.1 (0 : Int)).bind fun r1682 => match r1682 with
            | .inl r1682 => (some ([], ((1 : Int), ())))
            | .inr r1682 => (some (r1682.1, ((0 : Int), ())))))))

def law06_BconeBlocks_l0S (F : Nat) (rec : List Int → Bool → Int → Int → List Int → Int → Int → Int → List Int → Int → List Int → Int → List Int → Int → List Int → Int → Option (List Int × (Bool × (Int × (Int × (List Int × (Int × (Int × (Int × (List Int × (Int × (List Int × (Int × (List Int × (Int × (List Int × Unit)))))))))))))))) (x0 : List Int) (x1 : Bool) (x2 : Int) (x3 : Int) (x4 : List Int) (x5 : Int) (x6 : Int) (x7 : Int) (x8 : List Int) (x9 : Int) (x10 : List Int) (x11 : Int) (x12 : List Int) (x13 : Int) (x14 : List Int) (x15 : Int) : Option (List Int × (Bool × (Int × (Int × (List Int × (Int × (Int × (Int × (List Int × (Int × (List Int × (Int × (List Int × (Int × (List Int × Unit))))))))))))))) :=
  cond (decide (x15 < (16 : Int)))
    (let v956 : Int := (IntKind.wrap .i64 (x15 + (2 : Int)))
    cond ((decide ((0 : Int) ≤ v956)) && (decide (v956 < (18 : Int))))
      (cond ((decide ((0 : Int) ≤ x15)) && (decide (x15 < (16 : Int))))
        (rec x0 x1 x2 x3 x4 x5 x6 x7 x8 x9 x10 x11 x12 x13 (List.set x14 (Int.toNat x15) (List.getD x0 (Int.toNat v956) (0 : Int))) (IntKind.wrap .i64 (x15 + (1 : Int))))
        (none))
      (none))
    (some (x0, (x1, (x2, (x3, (x4, (x5, (x6, (x7, (x8, (x9, (x10, (x11, (x12, (x13, (x14, ()))))))))))))))))

def law06_BconeBlocks_l0 (F : Nat) : Nat → List Int → Bool → Int → Int → List Int → Int → Int → Int → List Int → Int → List Int → Int → List Int → Int → List Int → Int → Option (List Int × (Bool × (Int × (Int × (List Int × (Int × (Int × (Int × (List Int × (Int × (List Int × (Int × (List Int × (Int × (List Int × Unit)))))))))))))))
  | 0, _, _, _, _, _, _, _, _, _, _, _, _, _, _, _, _ => none
  | k + 1, x0, x1, x2, x3, x4, x5, x6, x7, x8, x9, x10, x11, x12, x13, x14, x15 => law06_BconeBlocks_l0S F (law06_BconeBlocks_l0 F k) x0 x1 x2 x3 x4 x5 x6 x7 x8 x9 x10 x11 x12 x13 x14 x15

/-- swatch/swatchlaw06.BconeBlocks -/
def law06_BconeBlocks (F : Nat) (a0 : List Int) (a1 : Bool) (a2 : List Int) : Option (Bool × Unit) :=
  (law06_awake F).bind fun r781 =>
  let v782 : Int := (((List.length a0) : Nat) : Int)
  cond (decide ((40 : Int) < v782))
    (some (r781.1, ()))
    ((bcone_Parts F a0).bind fun r784 =>
    (ref06_Parts F a0).bind fun r903 =>
    (bcone_Decode F a0 a1).bind fun r905 =>
    (ref06_Decode F a0 a1).bind fun r942 =>
    (law06_BconeBlocks_l0 F F a2 r781.1 r784.1 r784.2.1 (if ((0 = 0) ∧ (16 = 16)) then r784.2.2.1 else (((List.take 0 bcone_PartsT205) ++ r784.2.2.1) ++ (List.drop 16 bcone_PartsT205))) r784.2.2.2.1 r903.1 r903.2.1 (if ((0 = 0) ∧ (16 = 16)) then r903.2.2.1 else (((List.take 0 bcone_PartsT205) ++ r903.2.2.1) ++ (List.drop 16 bcone_PartsT205))) r903.2.2.2.1 (if ((0 = 0) ∧ (64 = 64)) then r905.1 else (((List.take 0 bcone_DecodeT203) ++ r905.1) ++ (List.drop 64 bcone_DecodeT203))) r905.2.1 (if ((0 = 0) ∧ (64 = 64)) then r942.1 else (((List.take 0 bcone_DecodeT203) ++ r942.1) ++ (List.drop 64 bcone_DecodeT203))) r942.2.1 bcone_PartsT205 (0 : Int)).bind fun r964 =>
    let v965 : Int := (List.getD r964.1 0 (0 : Int))
    let v966 : Int := (List.getD r964.1 1 (0 : Int))
    let l967 : List Int := (if ((0 = 0) ∧ (16 = 16)) then r964.2.2.2.2.2.2.2.2.2.2.2.2.2.2.1 else (List.take 16 (List.drop 0 r964.2.2.2.2.2.2.2.2.2.2.2.2.2.2.1)))
    (bcone_Join F v965 v966 l967).bind fun r968 =>
    (ref06_Join F v965 v966 l967).bind fun r1684 =>
    (ref01_Same F r968.1 r1684.1).bind fun r1723 =>
    cond r964.2.1
      (cond (r964.2.2.1 == r964.2.2.2.2.2.2.1)
        (cond (r964.2.2.2.1 == r964.2.2.2.2.2.2.2.1)
          (cond ((if ((0 = 0) ∧ (16 = 16)) then r964.2.2.2.2.1 else (List.take 16 (List.drop 0 r964.2.2.2.2.1))) == (if ((0 = 0) ∧ (16 = 16)) then r964.2.2.2.2.2.2.2.2.1 else (List.take 16 (List.drop 0 r964.2.2.2.2.2.2.2.2.1))))
            (cond (r964.2.2.2.2.2.1 == r964.2.2.2.2.2.2.2.2.2.1)
              (cond ((if ((0 = 0) ∧ (64 = 64)) then r964.2.2.2.2.2.2.2.2.2.2.1 else (List.take 64 (List.drop 0 r964.2.2.2.2.2.2.2.2.2.2.1))) == (if ((0 = 0) ∧ (64 = 64)) then r964.2.2.2.2.2.2.2.2.2.2.2.2.1 else (List.take 64 (List.drop 0 r964.2.2.2.2.2.2.2.2.2.2.2.2.1))))
                (cond (r964.2.2.2.2.2.2.2.2.2.2.2.1 == r964.2.2.2.2.2.2.2.2.2.2.2.2.2.1)
                  (cond r1723.1
                    (some ((r968.2.1 == r1684.2.1), ()))
                    (some (false, ())))
                  (some (false, ())))
                (some (false, ())))
              (some (false, ())))
            (some (false, ())))
          (some (false, ())))
        (some (false, ())))
      (some (false, ())))

/-- swatch/swatchlaw06.BconeBack -/
def law06_BconeBack (F : Nat) (a0 : List Int) : Option (Bool × Unit) :=
  (law06_awake F).bind fun r1737 =>
  (bcone_Parts F a0).bind fun r1738 =>
  let l1739 : List Int := (if ((0 = 0) ∧ (16 = 16)) then r1738.2.2.1 else (((List.take 0 bcone_PartsT205) ++ r1738.2.2.1) ++ (List.drop 16 bcone_PartsT205)))
  cond ((((List.length a0) : Nat) : Int) != (8 : Int))
    (cond r1737.1
      (some ((r1738.2.2.2.1 == (1 : Int)), ()))
      (some (false, ())))
    ((bcone_Join F r1738.1 r1738.2.1 (if ((0 = 0) ∧ (16 = 16)) then l1739 else (List.take 16 (List.drop 0 l1739)))).bind fun r1744 =>
    (ref01_Same F a0 r1744.1).bind fun r1746 =>
    cond r1737.1
      (cond (r1738.2.2.2.1 == (0 : Int))
        (cond (r1744.2.1 == (0 : Int))
          (some (r1746.1, ()))
          (some (false, ())))
        (some (false, ())))
      (some (false, ())))

def law06_BconeBetween_l4S (F : Nat) (rec : List Int → Int → Bool → Int → List Int → Int → Int → List Int → List Int → Int → Int → Option (Unit ⊕ (List Int × (Int × (Bool × (Int × (List Int × (Int × (Int × (List Int × (List Int × (Int × Unit)))))))))))) (x0 : List Int) (x1 : Int) (x2 : Bool) (x3 : Int) (x4 : List Int) (x5 : Int) (x6 : Int) (x7 : List Int) (x8 : List Int) (x9 : Int) (x10 : Int) : Option (Unit ⊕ (List Int × (Int × (Bool × (Int × (List Int × (Int × (Int × (List Int × (List Int × (Int × Unit))))))))))) :=
  cond (decide (x10 < (4 : Int)))
    (let b2223 : Bool := ((decide ((0 : Int) ≤ x9)) && (decide (x9 < (16 : Int))))
    cond b2223
      (let b2225 : Bool := ((decide ((0 : Int) ≤ x10)) && (decide (x10 < (4 : Int))))
      cond b2225
        (let v2227 : Int := (List.getD x4 (((Int.toNat x9) * 4) + (Int.toNat x10)) (0 : Int))
        cond b2225
          (let v2229 : Int := (List.getD x7 (Int.toNat x10) (0 : Int))
          cond b2225
            (let v2230 : Int := (List.getD x8 (Int.toNat x10) (0 : Int))
            let v2231 : Int := (min v2229 v2230)
            cond (decide (v2227 < v2231))
              (some (.inl ()))
              (cond b2223
                (cond b2225
                  (cond b2225
                    (cond b2225
                      (let v2233 : Int := (max v2229 v2230)
                      cond (decide (v2233 < v2227))
                        (some (.inl ()))
                        (rec x0 x1 x2 x3 x4 x5 x6 x7 x8 x9 (IntKind.wrap .i64 (x10 + (1 : Int)))))
                      (none))
                    (none))
                  (none))
                (none)))
            (none))
          (none))
        (none))
      (none))
    (some (.inr (x0, (x1, (x2, (x3, (x4, (x5, (x6, (x7, (x8, (x9, ()))))))))))))

def law06_BconeBetween_l4 (F : Nat) : Nat → List Int → Int → Bool → Int → List Int → Int → Int → List Int → List Int → Int → Int → Option (Unit ⊕ (List Int × (Int × (Bool × (Int × (List Int × (Int × (Int × (List Int × (List Int × (Int × Unit)))))))))))
  | 0, _, _, _, _, _, _, _, _, _, _, _ => none
  | k + 1, x0, x1, x2, x3, x4, x5, x6, x7, x8, x9, x10 => law06_BconeBetween_l4S F (law06_BconeBetween_l4 F k) x0 x1 x2 x3 x4 x5 x6 x7 x8 x9 x10

def law06_BconeBetween_l2S (F : Nat) (rec : List Int → Int → Bool → Int → List Int → Int → Int → List Int → List Int → Int → Option (Unit ⊕ (List Int × (Int × (Bool × (Int × Unit)))))) (x0 : List Int) (x1 : Int) (x2 : Bool) (x3 : Int) (x4 : List Int) (x5 : Int) (x6 : Int) (x7 : List Int) (x8 : List Int) (x9 : Int) : Option (Unit ⊕ (List Int × (Int × (Bool × (Int × Unit))))) :=
  cond (decide (x9 < (16 : Int)))
    (cond (x3 == (0 : Int))
      (cond (decide (x5 ≤ x6))
        (cond ((decide ((0 : Int) ≤ x9)) && (decide (x9 < (16 : Int))))
          (cond ((List.take 4 (List.drop ((Int.toNat x9) * 4) x4)) == [(0 : Int), (0 : Int), (0 : Int), (0 : Int)])
            (rec x0 x1 x2 x3 x4 x5 x6 x7 x8 (IntKind.wrap .i64 (x9 + (1 : Int))))
            ((law06_BconeBetween_l4 F F x0 x1 x2 x3 x4 x5 x6 x7 x8 x9 (0 : Int)).bind fun r2236 => match r2236 with
              | .inl r2236 => (some (.inl ()))
              | .inr r2236 => (rec r2236.1 r2236.2.1 r2236.2.2.1 r2236.2.2.2.1 r2236.2.2.2.2.1 r2236.2.2.2.2.2.1 r2236.2.2.2.2.2.2.1 r2236.2.2.2.2.2.2.2.1 r2236.2.2.2.2.2.2.2.2.1 (IntKind.wrap .i64 (r2236.2.2.2.2.2.2.2.2.2.1 + (1 : Int))))))
          (none))
        ((law06_BconeBetween_l4 F F x0 x1 x2 x3 x4 x5 x6 x7 x8 x9 (0 : Int)).bind fun r2254 => match r2254 with
          | .inl r2254 => (some (.inl ()))
          | .inr r2254 => (rec r2254.1 r2254.2.1 r2254.2.2.1 r2254.2.2.2.1 r2254.2.2.2.2.1 r2254.2.2.2.2.2.1 r2254.2.2.2.2.2.2.1 r2254.2.2.2.2.2.2.2.1 r2254.2.2.2.2.2.2.2.2.1 (IntKind.wrap .i64 (r2254.2.2.2.2.2.2.2.2.2.1 + (1 : Int))))))
      ((law06_BconeBetween_l4 F F x0 x1 x2 x3 x4 x5 x6 x7 x8 x9 (0 : Int)).bind fun r2272 => match r2272 with
        | .inl r2272 => (some (.inl ()))
        | .inr r2272 => (rec r2272.1 r2272.2.1 r2272.2.2.1 r2272.2.2.2.1 r2272.2.2.2.2.1 r2272.2.2.2.2.2.1 r2272.2.2.2.2.2.2.1 r2272.2.2.2.2.2.2.2.1 r2272.2.2.2.2.2.2.2.2.1 (IntKind.wrap .i64 (r2272.2.2.2.2.2.2.2.2.2.1 + (1 : Int))))))
    (some (.inr (x0, (x1, (x2, (x3, ()))))))

def law06_BconeBetween_l2 (F : Nat) : Nat → List Int → Int → Bool → Int → List Int → Int → Int → List Int → List Int → Int → Option (Unit ⊕ (List Int × (Int × (Bool × (Int × Unit)))))
  | 0, _, _, _, _, _, _, _, _, _, _ => none
  | k + 1, x0, x1, x2, x3, x4, x5, x6, x7, x8, x9 => law06_BconeBetween_l2S F (law06_BconeBetween_l2 F k) x0 x1 x2 x3 x4 x5 x6 x7 x8 x9

def law06_BconeBetween_l0S (F : Nat) (rec : List Int → Int → Bool → Int → Option (Unit ⊕ (Int × (Bool × Unit)))) (x0 : List Int) (x1 : Int) (x2 : Bool) (x3 : Int) : Option (Unit ⊕ (Int × (Bool × Unit))) :=
  cond (decide (x3 < (2 : Int)))
    ((bcone_Decode F x0 (x3 == (1 : Int))).bind fun r2110 =>
    (bcone_Parts F x0).bind fun r2112 =>
    (bcone_Colour F r2112.1).bind fun r2114 =>
    (bcone_Colour F r2112.2.1).bind fun r2116 =>
    cond (r2110.2.1 != (0 : Int))
      (some (.inl ()))
      ((law06_BconeBetween_l2 F F x0 x1 x2 x3 (if ((0 = 0) ∧ (64 = 64)) then r2110.1 else (((List.take 0 bcone_DecodeT203) ++ r2110.1) ++ (List.drop 64 bcone_DecodeT203))) r2112.1 r2112.2.1 (if ((0 = 0) ∧ (4 = 4)) then r2114.1 else (((List.take 0 [(0 : Int), (0 : Int), (0 : Int), (0 : Int)]) ++ r2114.1) ++ (List.drop 4 [(0 : Int), (0 : Int), (0 : Int), (0 : Int)]))) (if ((0 = 0) ∧ (4 = 4)) then r2116.1 else (((List.take 0 [(0 : Int), (0 : Int), (0 : Int), (0 : Int)]) ++ r2116.1) ++ (List.drop 4 [(0 : Int), (0 : Int), (0 : Int), (0 : Int)]))) (0 : Int)).bind fun r2275 => match r2275 with
        | .inl r2275 => (some (.inl ()))
        | .inr r2275 => (rec r2275.1 r2275.2.1 r2275.2.2.1 (IntKind.wrap .i64 (r2275.2.2.2.1 + (1 : Int))))))
    (some (.inr (x1, (x2, ()))))

def law06_BconeBetween_l0 (F : Nat) : Nat → List Int → Int → Bool → Int → Option (Unit ⊕ (Int × (Bool × Unit)))
  | 0, _, _, _, _ => none
  | k + 1, x0, x1, x2, x3 => law06_BconeBetween_l0S F (law06_BconeBetween_l0 F k) x0 x1 x2 x3

def law06_BconeBetween_l6S (F : Nat) (rec : Bool → Int → Int → List Int → Int → Int → Option (Unit ⊕ (Bool × (Int × (Int × (Int × Unit)))))) (x0 : Bool) (x1 : Int) (x2 : Int) (x3 : List Int) (x4 : Int) (x5 : Int) : Option (Unit ⊕ (Bool × (Int × (Int × (Int × Unit))))) :=
  cond (decide (x5 < (16 : Int)))
    (cond ((decide ((0 : Int) ≤ x5)) && (decide (x5 < (16 : Int))))
      ((bcone_Colour F x1).bind fun r2300 =>
      cond (!((List.take 4 (List.drop ((Int.toNat x5) * 4) x3)) == r2300.1))
        (some (.inl ()))
        (rec x0 x1 x2 x3 x4 (IntKind.wrap .i64 (x5 + (1 : Int)))))
      (none))
    (some (.inr (x0, (x1, (x2, (x4, ()))))))

def law06_BconeBetween_l6 (F : Nat) : Nat → Bool → Int → Int → List Int → Int → Int → Option (Unit ⊕ (Bool × (Int × (Int × (Int × Unit)))))
  | 0, _, _, _, _, _, _ => none
  | k + 1, x0, x1, x2, x3, x4, x5 => law06_BconeBetween_l6S F (law06_BconeBetween_l6 F k) x0 x1 x2 x3 x4 x5

/-- swatch/swatchlaw06.BconeBetween -/
def law06_BconeBetween (F : Nat) (a0 : List Int) (a1 : Int) : Option (Bool × Unit) :=
  (law06_awake F).bind fun r1751 =>
  cond ((((List.length a0) : Nat) : Int) != (8 : Int))
    (some (r1751.1, ()))
    ((law06_BconeBetween_l0 F F a0 a1 r1751.1 (0 : Int)).bind fun r2278 => match r2278 with
      | .inl r2278 => (some (false, ()))
      | .inr r2278 => (let v2279 : Int := (iand .i64 r2278.1 (65535 : Int))
        (bcone_Join F v2279 v2279 bcone_PartsT205).bind fun r2280 =>
        (bcone_Decode F r2280.1 ((Int.tmod r2278.1 (2 : Int)) == (0 : Int))).bind fun r2284 =>
        (law06_BconeBetween_l6 F F r2278.2.1 v2279 r2280.2.1 (if ((0 = 0) ∧ (64 = 64)) then r2284.1 else (((List.take 0 bcone_DecodeT203) ++ r2284.1) ++ (List.drop 64 bcone_DecodeT203))) r2284.2.1 (0 : Int)).bind fun r2303 => match r2303 with
          | .inl r2303 => (some (false, ()))
          | .inr r2303 => (cond r2303.1
              (cond (r2303.2.2.1 == (0 : Int))
                (cond (r2303.2.2.2.1 == (0 : Int))
                  ((bcone_Colour F r2303.2.1).bind fun r2306 =>
                  (bcone_Pack F r2306.1).bind fun r2307 =>
                  some ((r2307.1 == r2303.2.1), ()))
                  (some (false, ())))
                (some (false, ())))
              (some (false, ())))))

end Go.AE.Gn

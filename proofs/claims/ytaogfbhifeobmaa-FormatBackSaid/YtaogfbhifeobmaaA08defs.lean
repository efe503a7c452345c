/- Printed by a program of mine (gen.py): what the Go functions of this part come to. -/
import Derived.Test.YtaogfbhifeobmaaFw19
set_option linter.unusedSimpArgs false
set_option linter.unusedVariables false
namespace Go.AE.Gn
open Go Go.AE

/-- swatch/bctable.in -/
def bctable_in (F : Nat) (a0 : Int) (a1 : Int) : Option (Bool × Unit) :=
  cond (decide ((0 : Int) ≤ a0))
    (some ((decide (a0 < a1)), ()))
    (some (false, ()))

def bctable_threeT0 : List Int := [0, 0, 0, 0, 0, 0, 0, 0, 0, 0, 0, 0, 0, 0, 0, 0, 0, 0, 0, 0, 0, 0, 0, 0, 0, 0, 0, 0, 0, 0, 0, 0, 0, 0, 0, 0, 0, 0, 0, 0, 0, 0, 0, 0, 0, 0, 0, 0, 0, 0, 0, 0, 0, 0, 0, 0, 0, 0, 0, 0, 0, 0, 0, 0]
def bctable_threeT1 : List Int := [2858963024, 1784303680, 1515864576, 1414570152, 2779054080, 2694860880, 1431675040, 1515868240, 2857697280, 2857719040, 2863289600, 2425393296, 2492765332, 2762253476, 2846200912, 705315408, 2777960512, 172118100, 2779096320, 1436590240, 2829603924, 1785348160, 2762231808, 437912832, 5285028, 2862977168, 342452500, 1768494080, 2693105056, 2860651540, 1352967248, 1784283648, 2846195712, 1351655592, 2829094992, 606348324, 11162880, 613566756, 608801316, 1352993360, 1342874960, 2863285316, 1717960704, 2778768800, 1352683680, 1764256040, 1152035396, 1717986816, 2856600644, 1420317864, 2508232064, 2526451200, 2824098984, 2157286784, 2853442580, 2526412800, 2863272980, 2689618080, 2695210400, 2516582400, 1082146944, 2846402984, 2863311428, 709513812]
/-- swatch/bctable.three -/
def bctable_three (F : Nat) : Option (List Int × Unit) :=
  some (bctable_threeT1, ())

def bctable_twoT2 : List Int := [52428, 34952, 61166, 60616, 51328, 65260, 65224, 60544, 51200, 65516, 65152, 59392, 65512, 65280, 65520, 61440, 63248, 142, 28928, 2254, 140, 29456, 12544, 36046, 2188, 12560, 26214, 13932, 6120, 4080, 29070, 14748, 43690, 61680, 23130, 13260, 15420, 21930, 38550, 42330, 29646, 5064, 12876, 15324, 27030, 49980, 39270, 1632, 626, 1252, 20032, 10016, 51510, 37740, 14790, 25500, 37686, 40134, 33150, 59160, 52464, 4044, 30532, 60962]
/-- swatch/bctable.two -/
def bctable_two (F : Nat) : Option (List Int × Unit) :=
  some (bctable_twoT2, ())

/-- swatch/bctable.Part -/
def bctable_Part (F : Nat) (a0 : Int) (a1 : Int) (a2 : Int) : Option (Int × Unit) :=
  (bctable_in F a1 (64 : Int)).bind fun r2 =>
  cond (!r2.1)
    (some ((0 : Int), ()))
    ((bctable_in F a2 (16 : Int)).bind fun r4 =>
    cond (!r4.1)
      (some ((0 : Int), ()))
      (cond (a0 == (3 : Int))
        ((bctable_three F).bind fun r7 =>
        cond ((decide ((0 : Int) ≤ a1)) && (decide (a1 < (64 : Int))))
          (let v10 : Int := (IntKind.wrap .i64 ((2 : Int) * a2))
          cond (decide ((0 : Int) ≤ v10))
            (some ((iand .u32 (ishr .u32 (List.getD r7.1 (Int.toNat a1) (0 : Int)) v10) (3 : Int)), ()))
            (none))
          (none))
        (cond (a0 == (2 : Int))
          ((bctable_two F).bind fun r15 =>
          cond ((decide ((0 : Int) ≤ a1)) && (decide (a1 < (64 : Int))))
            (cond (decide ((0 : Int) ≤ a2))
              (some ((iand .u16 (ishr .u16 (List.getD r15.1 (Int.toNat a1) (0 : Int)) a2) (1 : Int)), ()))
              (none))
            (none))
          (some ((0 : Int), ())))))

/-- swatch/swatchref08.two -/
def ref08_two (F : Nat) : Option (List Int × Unit) :=
  some (bctable_twoT2, ())

/-- swatch/swatchref08.three -/
def ref08_three (F : Nat) : Option (List Int × Unit) :=
  some (bctable_threeT1, ())

def ref08_Part_l0S (F : Nat) (rec : Int → Int → Int → Int → Option (Int × (Int × Unit))) (x0 : Int) (x1 : Int) (x2 : Int) (x3 : Int) : Option (Int × (Int × Unit)) :=
  cond (decide (x3 < x0))
    (cond (!(x2 == (0 : Int)))
      (rec x0 (IntKind.wrap .i64 (Int.tdiv x1 x2)) x2 (IntKind.wrap .i64 (x3 + (1 : Int))))
      (none))
    (some (x1, (x2, ())))

def ref08_Part_l0 (F : Nat) : Nat → Int → Int → Int → Int → Option (Int × (Int × Unit))
  | 0, _, _, _, _ => none
  | k + 1, x0, x1, x2, x3 => ref08_Part_l0S F (ref08_Part_l0 F k) x0 x1 x2 x3

/-- swatch/swatchref08.Part -/
def ref08_Part (F : Nat) (a0 : Int) (a1 : Int) (a2 : Int) : Option (Int × Unit) :=
  cond (decide (a1 < (0 : Int)))
    (some ((0 : Int), ()))
    (cond (decide ((63 : Int) < a1))
      (some ((0 : Int), ()))
      (cond (decide (a2 < (0 : Int)))
        (some ((0 : Int), ()))
        (cond (decide ((15 : Int) < a2))
          (some ((0 : Int), ()))
          (cond (a0 != (2 : Int))
            (cond (a0 != (3 : Int))
              (some ((0 : Int), ()))
              ((ref08_two F).bind fun r27 =>
              let n28 : Nat := (List.length r27.1)
              cond ((decide ((0 : Int) ≤ a1)) && (decide (a1 < ((n28 : Nat) : Int))))
                (cond (a0 == (3 : Int))
                  ((ref08_three F).bind fun r33 =>
                  let n34 : Nat := (List.length r33.1)
                  cond ((decide ((0 : Int) ≤ a1)) && (decide (a1 < ((n34 : Nat) : Int))))
                    ((ref08_Part_l0 F F a2 (List.getD r33.1 (Int.toNat a1) (0 : Int)) (4 : Int) (0 : Int)).bind fun r45 =>
                    cond (!(r45.2.1 == (0 : Int)))
                      (some ((Int.tmod r45.1 r45.2.1), ()))
                      (none))
                    (none))
                  ((ref08_Part_l0 F F a2 (List.getD r27.1 (Int.toNat a1) (0 : Int)) (2 : Int) (0 : Int)).bind fun r52 =>
                  cond (!(r52.2.1 == (0 : Int)))
                    (some ((Int.tmod r52.1 r52.2.1), ()))
                    (none)))
                (none)))
            ((ref08_two F).bind fun r55 =>
            let n56 : Nat := (List.length r55.1)
            cond ((decide ((0 : Int) ≤ a1)) && (decide (a1 < ((n56 : Nat) : Int))))
              (cond (a0 == (3 : Int))
                ((ref08_three F).bind fun r61 =>
                let n62 : Nat := (List.length r61.1)
                cond ((decide ((0 : Int) ≤ a1)) && (decide (a1 < ((n62 : Nat) : Int))))
                  ((ref08_Part_l0 F F a2 (List.getD r61.1 (Int.toNat a1) (0 : Int)) (4 : Int) (0 : Int)).bind fun r69 =>
                  cond (!(r69.2.1 == (0 : Int)))
                    (some ((Int.tmod r69.1 r69.2.1), ()))
                    (none))
                  (none))
                ((ref08_Part_l0 F F a2 (List.getD r55.1 (Int.toNat a1) (0 : Int)) (2 : Int) (0 : Int)).bind fun r76 =>
                cond (!(r76.2.1 == (0 : Int)))
                  (some ((Int.tmod r76.1 r76.2.1), ()))
                  (none)))
              (none))))))

def bctable_anchorsT3 : List Int := [15, 15, 15, 15, 15, 15, 15, 15, 15, 15, 15, 15, 15, 15, 15, 15, 15, 2, 8, 2, 2, 8, 8, 15, 2, 8, 2, 2, 8, 8, 2, 2, 15, 15, 6, 8, 2, 8, 15, 15, 2, 8, 2, 2, 2, 15, 15, 6, 6, 2, 6, 8, 15, 15, 2, 2, 15, 15, 15, 15, 15, 2, 2, 15]
def bctable_anchorsT4 : List Int := [3, 3, 15, 15, 8, 3, 15, 15, 8, 8, 6, 6, 6, 5, 3, 3, 3, 3, 8, 15, 3, 3, 6, 10, 5, 8, 8, 6, 8, 5, 15, 15, 8, 15, 3, 5, 6, 10, 8, 15, 15, 3, 15, 5, 15, 15, 15, 15, 3, 15, 5, 5, 5, 8, 5, 10, 5, 10, 8, 13, 15, 12, 3, 3]
def bctable_anchorsT5 : List Int := [15, 8, 8, 3, 15, 15, 3, 8, 15, 15, 15, 15, 15, 15, 15, 8, 15, 8, 15, 3, 15, 8, 15, 8, 3, 15, 6, 10, 15, 15, 10, 8, 15, 3, 15, 10, 10, 8, 9, 10, 6, 15, 8, 15, 3, 6, 6, 8, 15, 3, 15, 15, 15, 15, 15, 15, 15, 15, 15, 15, 3, 15, 15, 8]
/-- swatch/bctable.anchors -/
def bctable_anchors (F : Nat) (a0 : (Int × (Int × Unit))) : Option (List Int × Unit) :=
  cond ((a0.1 == (2 : Int)) && (a0.2.1 == (1 : Int)))
    (some (bctable_anchorsT3, ()))
    (cond ((a0.1 == (3 : Int)) && (a0.2.1 == (1 : Int)))
      (some (bctable_anchorsT4, ()))
      (cond ((a0.1 == (3 : Int)) && (a0.2.1 == (2 : Int)))
        (some (bctable_anchorsT5, ()))
        (some ([], ()))))

/-- swatch/bctable.Anchor -/
def bctable_Anchor (F : Nat) (a0 : Int) (a1 : Int) (a2 : Int) : Option (Int × Unit) :=
  (bctable_anchors F (a0, (a2, ()))).bind fun r82 =>
  let n83 : Nat := (List.length r82.1)
  (bctable_in F a1 ((n83 : Nat) : Int)).bind fun r85 =>
  cond (!r85.1)
    (some ((0 : Int), ()))
    (cond ((decide ((0 : Int) ≤ a1)) && (decide (a1 < ((n83 : Nat) : Int))))
      (some ((List.getD r82.1 (Int.toNat a1) (0 : Int)), ()))
      (none))

/-- swatch/swatchref08.anchors -/
def ref08_anchors (F : Nat) (a0 : Int) : Option (List Int × Unit) :=
  cond (a0 == (0 : Int))
    (some (bctable_anchorsT3, ()))
    (cond (a0 == (1 : Int))
      (some (bctable_anchorsT4, ()))
      (some (bctable_anchorsT5, ())))

/-- swatch/swatchref08.Anchor -/
def ref08_Anchor (F : Nat) (a0 : Int) (a1 : Int) (a2 : Int) : Option (Int × Unit) :=
  cond (decide (a1 < (0 : Int)))
    (some ((0 : Int), ()))
    (cond (decide ((63 : Int) < a1))
      (some ((0 : Int), ()))
      (cond (a0 == (2 : Int))
        (let b95 : Bool := (a2 == (1 : Int))
        cond b95
          ((ref08_anchors F (0 : Int)).bind fun r96 =>
          let n97 : Nat := (List.length r96.1)
          cond ((decide ((0 : Int) ≤ a1)) && (decide (a1 < ((n97 : Nat) : Int))))
            (some ((List.getD r96.1 (Int.toNat a1) (0 : Int)), ()))
            (none))
          (cond (a0 == (3 : Int))
            (cond b95
              ((ref08_anchors F a2).bind fun r102 =>
              let n103 : Nat := (List.length r102.1)
              cond ((decide ((0 : Int) ≤ a1)) && (decide (a1 < ((n103 : Nat) : Int))))
                (some ((List.getD r102.1 (Int.toNat a1) (0 : Int)), ()))
                (none))
              (cond (a2 == (2 : Int))
                ((ref08_anchors F a2).bind fun r108 =>
                let n109 : Nat := (List.length r108.1)
                cond ((decide ((0 : Int) ≤ a1)) && (decide (a1 < ((n109 : Nat) : Int))))
                  (some ((List.getD r108.1 (Int.toNat a1) (0 : Int)), ()))
                  (none))
                (some ((0 : Int), ()))))
            (some ((0 : Int), ()))))
        (cond (a0 == (3 : Int))
          (cond (a2 == (1 : Int))
            ((ref08_anchors F a2).bind fun r115 =>
            let n116 : Nat := (List.length r115.1)
            cond ((decide ((0 : Int) ≤ a1)) && (decide (a1 < ((n116 : Nat) : Int))))
              (some ((List.getD r115.1 (Int.toNat a1) (0 : Int)), ()))
              (none))
            (cond (a2 == (2 : Int))
              ((ref08_anchors F a2).bind fun r121 =>
              let n122 : Nat := (List.length r121.1)
              cond ((decide ((0 : Int) ≤ a1)) && (decide (a1 < ((n122 : Nat) : Int))))
                (some ((List.getD r121.1 (Int.toNat a1) (0 : Int)), ()))
                (none))
              (some ((0 : Int), ()))))
          (some ((0 : Int), ())))))

def bctable_WeightsT6 : List Int := [0, 9, 18, 27, 37, 46, 55, 64]
def bctable_WeightsT7 : List Int := [0, 4, 9, 13, 17, 21, 26, 30, 34, 38, 43, 47, 51, 55, 60, 64]
/-- swatch/bctable.Weights -/
def bctable_Weights (F : Nat) (a0 : Int) : Option (List Int × Unit) :=
  cond (a0 == (2 : Int))
    (some ([(0 : Int), (21 : Int), (43 : Int), (64 : Int)], ()))
    (cond (a0 == (3 : Int))
      (some (bctable_WeightsT6, ()))
      (cond (a0 == (4 : Int))
        (some (bctable_WeightsT7, ()))
        (some ([], ()))))

/-- swatch/swatchref08.Weights -/
def ref08_Weights (F : Nat) (a0 : Int) : Option (List Int × Unit) :=
  cond (a0 == (2 : Int))
    (some ([(0 : Int), (21 : Int), (43 : Int), (64 : Int)], ()))
    (cond (a0 == (3 : Int))
      (some (bctable_WeightsT6, ()))
      (cond (a0 == (4 : Int))
        (some (bctable_WeightsT7, ()))
        (some ([], ()))))

def law08_awakeT8 : List Int := [3, 4, 0, 0, 4, 0, 1, 0, 3, 0, 2, 6, 0, 0, 6, 0, 0, 1, 3, 0, 3, 6, 0, 0, 5, 0, 0, 0, 2, 0, 2, 6, 0, 0, 7, 0, 1, 0, 2, 0, 1, 0, 2, 1, 5, 6, 0, 0, 2, 3, 1, 0, 2, 0, 7, 8, 0, 0, 2, 2, 1, 0, 0, 0, 7, 7, 1, 0, 4, 0, 2, 6, 0, 0, 5, 5, 1, 0, 2, 0]
def law08_awakeT9 : List Int := [1, 0, 0, 0, 7, 7, 1, 0, 4, 0]
/-- swatch/swatchlaw08.awake -/
def law08_awake (F : Nat) : Option (Bool × Unit) :=
  (bctable_Weights F (3 : Int)).bind fun r132 =>
  cond ((((List.length r132.1) : Nat) : Int) == (8 : Int))
    ((bctable_Part F (2 : Int) (0 : Int) (2 : Int)).bind fun r136 =>
    cond (r136.1 == (1 : Int))
      ((bctable_Part F (3 : Int) (0 : Int) (9 : Int)).bind fun r138 =>
      cond (r138.1 == (2 : Int))
        ((bctable_Anchor F (2 : Int) (17 : Int) (1 : Int)).bind fun r140 =>
        cond (r140.1 == (2 : Int))
          ((bctable_Anchor F (3 : Int) (0 : Int) (2 : Int)).bind fun r142 =>
          some ((r142.1 == (15 : Int)), ()))
          (some (false, ())))
        (some (false, ())))
      (some (false, ())))
    (some (false, ()))

def law08_TellsT10 : List Int := [3, 4, 0, 0, 4, 0, 1, 0, 3, 0]
def law08_TellsT11 : List Int := [2, 6, 0, 0, 6, 0, 0, 1, 3, 0]
def law08_TellsT12 : List Int := [3, 6, 0, 0, 5, 0, 0, 0, 2, 0]
def law08_TellsT13 : List Int := [2, 6, 0, 0, 7, 0, 1, 0, 2, 0]
def law08_TellsT14 : List Int := [1, 0, 2, 1, 5, 6, 0, 0, 2, 3]
def law08_TellsT15 : List Int := [1, 0, 2, 0, 7, 8, 0, 0, 2, 2]
def law08_TellsT16 : List Int := [2, 6, 0, 0, 5, 5, 1, 0, 2, 0]
def law08_Tells_l2S (F : Nat) (rec : Int → Int → Int → Bool → List Int → List Int → Int → Option (Unit ⊕ (Int × (Int × (Int × (Bool × Unit)))))) (x0 : Int) (x1 : Int) (x2 : Int) (x3 : Bool) (x4 : List Int) (x5 : List Int) (x6 : Int) : Option (Unit ⊕ (Int × (Int × (Int × (Bool × Unit))))) :=
  let v174 : Int := (((List.length x4) : Nat) : Int)
  cond (decide (x6 < v174))
    (cond ((decide ((0 : Int) ≤ x6)) && (decide (x6 < (((List.length x4) : Nat) : Int))))
      (cond ((decide ((0 : Int) ≤ x6)) && (decide (x6 < (((List.length x5) : Nat) : Int))))
        (cond ((List.getD x4 (Int.toNat x6) (0 : Int)) != (List.getD x5 (Int.toNat x6) (0 : Int)))
          (some (.inl ()))
          (rec x0 x1 x2 x3 x4 x5 (IntKind.wrap .i64 (x6 + (1 : Int)))))
        (none))
      (none))
    (some (.inr (x0, (x1, (x2, (x3, ()))))))

def law08_Tells_l2 (F : Nat) : Nat → Int → Int → Int → Bool → List Int → List Int → Int → Option (Unit ⊕ (Int × (Int × (Int × (Bool × Unit)))))
  | 0, _, _, _, _, _, _, _ => none
  | k + 1, x0, x1, x2, x3, x4, x5, x6 => law08_Tells_l2S F (law08_Tells_l2 F k) x0 x1 x2 x3 x4 x5 x6

/-- swatch/swatchlaw08.BctableTells -/
def law08_Tells (F : Nat) (a0 : Int) (a1 : Int) (a2 : Int) : Option (Bool × Unit) :=
  (law08_awake F).bind fun r144 =>
  (bctable_Weights F a2).bind fun r145 =>
  (ref08_Weights F a2).bind fun r147 =>
  cond ((((List.length r145.1) : Nat) : Int) != (((List.length r147.1) : Nat) : Int))
    (some (false, ()))
    ((law08_Tells_l2 F F a0 a1 a2 r144.1 r145.1 r147.1 (0 : Int)).bind fun r183 => match r183 with
      | .inl r183 => (some (false, ()))
      | .inr r183 => (cond r183.2.2.2.1
          ((bctable_Part F r183.1 r183.2.1 r183.2.2.1).bind fun r184 =>
          (ref08_Part F r183.1 r183.2.1 r183.2.2.1).bind fun r185 =>
          cond (r184.1 == r185.1)
            ((bctable_Anchor F r183.1 r183.2.1 r183.2.2.1).bind fun r187 =>
            (ref08_Anchor F r183.1 r183.2.1 r183.2.2.1).bind fun r188 =>
            some ((r187.1 == r188.1), ()))
            (some (false, ())))
          (some (false, ()))))

/-- swatch/swatchlaw08.BctableDeals -/
def law08_Deals (F : Nat) (a0 : Int) : Option (Bool × Unit) :=
  (law08_awake F).bind fun r190 =>
  cond (decide (a0 < (0 : Int)))
    (cond r190.1
      (some (true, ()))
      (some (false, ())))
    (cond (decide ((7 : Int) < a0))
      (cond r190.1
        (some (true, ()))
        (some (false, ())))
      (cond ((decide ((0 : Int) ≤ a0)) && (decide (a0 < (8 : Int))))
        (let l195 : List Int := (List.take 10 (List.drop ((Int.toNat a0) * 10) law08_awakeT8))
        let v196 : Int := (List.getD l195 0 (0 : Int))
        let v205 : Int := (List.getD l195 9 (0 : Int))
        let v220 : Int := (IntKind.wrap .i64 ((IntKind.wrap .i64 ((IntKind.wrap .i64 ((IntKind.wrap .i64 ((IntKind.wrap .i64 ((IntKind.wrap .i64 ((IntKind.wrap .i64 ((IntKind.wrap .i64 (a0 + (1 : Int))) + (List.getD l195 1 (0 : Int)))) + (List.getD l195 2 (0 : Int)))) + (List.getD l195 3 (0 : Int)))) + (IntKind.wrap .i64 ((IntKind.wrap .i64 ((2 : Int) * v196)) * (IntKind.wrap .i64 ((IntKind.wrap .i64 ((IntKind.wrap .i64 ((3 : Int) * (List.getD l195 4 (0 : Int)))) + (List.getD l195 5 (0 : Int)))) + (List.getD l195 6 (0 : Int)))))))) + (IntKind.wrap .i64 (v196 * (List.getD l195 7 (0 : Int)))))) + (IntKind.wrap .i64 ((16 : Int) * (List.getD l195 8 (0 : Int)))))) - v196))
        cond (decide ((0 : Int) < v205))
          (cond r190.1
            (cond ((IntKind.wrap .i64 ((IntKind.wrap .i64 (v220 + (IntKind.wrap .i64 ((16 : Int) * v205)))) - (1 : Int))) == (128 : Int))
              (cond (decide ((1 : Int) ≤ v196))
                (cond (decide (v196 ≤ (3 : Int)))
                  (cond (v205 == (0 : Int))
                    (some (true, ()))
                    (some ((v196 == (1 : Int)), ())))
                  (some (false, ())))
                (some (false, ())))
              (some (false, ())))
            (some (false, ())))
          (cond r190.1
            (cond (v220 == (128 : Int))
              (cond (decide ((1 : Int) ≤ v196))
                (cond (decide (v196 ≤ (3 : Int)))
                  (cond (v205 == (0 : Int))
                    (some (true, ()))
                    (some ((v196 == (1 : Int)), ())))
                  (some (false, ())))
                (some (false, ())))
              (some (false, ())))
            (some (false, ()))))
        (none)))

def law08_Weighs_l0S (F : Nat) (rec : Int → Bool → List Int → Int → Int → Option (Bool × (List Int × (Int × Unit)))) (x0 : Int) (x1 : Bool) (x2 : List Int) (x3 : Int) (x4 : Int) : Option (Bool × (List Int × (Int × Unit))) :=
  cond (decide (x4 < x0))
    (rec x0 x1 x2 (IntKind.wrap .i64 ((2 : Int) * x3)) (IntKind.wrap .i64 (x4 + (1 : Int))))
    (some (x1, (x2, (x3, ()))))

def law08_Weighs_l0 (F : Nat) : Nat → Int → Bool → List Int → Int → Int → Option (Bool × (List Int × (Int × Unit)))
  | 0, _, _, _, _, _ => none
  | k + 1, x0, x1, x2, x3, x4 => law08_Weighs_l0S F (law08_Weighs_l0 F k) x0 x1 x2 x3 x4

def law08_Weighs_l2S (F : Nat) (rec : Bool → List Int → Int → Int → Option (Unit ⊕ (Bool × (List Int × Unit)))) (x0 : Bool) (x1 : List Int) (x2 : Int) (x3 : Int) : Option (Unit ⊕ (Bool × (List Int × Unit))) :=
  cond (decide (x3 < x2))
    (cond (decide ((0 : Int) < x3))
      (let b302 : Bool := ((decide ((0 : Int) ≤ x3)) && (decide (x3 < (((List.length x1) : Nat) : Int))))
      cond b302
        (let v304 : Int := (List.getD x1 (Int.toNat x3) (0 : Int))
        let v305 : Int := (IntKind.wrap .i64 (x3 - (1 : Int)))
        cond ((decide ((0 : Int) ≤ v305)) && (decide (v305 < (((List.length x1) : Nat) : Int))))
          (let v308 : Int := (List.getD x1 (Int.toNat v305) (0 : Int))
          cond (decide (v304 ≤ v308))
            (some (.inl ()))
            (cond b302
              (let v311 : Int := (IntKind.wrap .i64 ((IntKind.wrap .i64 (x2 - (1 : Int))) - x3))
              cond ((decide ((0 : Int) ≤ v311)) && (decide (v311 < (((List.length x1) : Nat) : Int))))
                (cond ((IntKind.wrap .i64 (v304 + (List.getD x1 (Int.toNat v311) (0 : Int)))) != (64 : Int))
                  (some (.inl ()))
                  (rec x0 x1 x2 (IntKind.wrap .i64 (x3 + (1 : Int)))))
                (none))
              (none)))
          (none))
        (none))
      (cond ((decide ((0 : Int) ≤ x3)) && (decide (x3 < (((List.length x1) : Nat) : Int))))
        (let v322 : Int := (IntKind.wrap .i64 ((IntKind.wrap .i64 (x2 - (1 : Int))) - x3))
        cond ((decide ((0 : Int) ≤ v322)) && (decide (v322 < (((List.length x1) : Nat) : Int))))
          (cond ((IntKind.wrap .i64 ((List.getD x1 (Int.toNat x3) (0 : Int)) + (List.getD x1 (Int.toNat v322) (0 : Int)))) != (64 : Int))
            (some (.inl ()))
            (rec x0 x1 x2 (IntKind.wrap .i64 (x3 + (1 : Int)))))
          (none))
        (none)))
    (some (.inr (x0, (x1, ()))))

def law08_Weighs_l2 (F : Nat) : Nat → Bool → List Int → Int → Int → Option (Unit ⊕ (Bool × (List Int × Unit)))
  | 0, _, _, _, _ => none
  | k + 1, x0, x1, x2, x3 => law08_Weighs_l2S F (law08_Weighs_l2 F k) x0 x1 x2 x3

/-- swatch/swatchlaw08.BctableWeighs -/
def law08_Weighs (F : Nat) (a0 : Int) : Option (Bool × Unit) :=
  (law08_awake F).bind fun r235 =>
  (bctable_Weights F a0).bind fun r236 =>
  let n237 : Nat := (List.length r236.1)
  cond (decide (a0 < (2 : Int)))
    (cond r235.1
      (some ((((n237 : Nat) : Int) == (0 : Int)), ()))
      (some (false, ())))
    (cond (decide ((4 : Int) < a0))
      (cond r235.1
        (some ((((n237 : Nat) : Int) == (0 : Int)), ()))
        (some (false, ())))
      ((law08_Weighs_l0 F F a0 r235.1 r236.1 (1 : Int) (0 : Int)).bind fun r254 =>
      cond ((((List.length r254.2.1) : Nat) : Int) != r254.2.2.1)
        (some (false, ()))
        ((law08_Weighs_l2 F F r254.1 r254.2.1 r254.2.2.1 (0 : Int)).bind fun r329 => match r329 with
          | .inl r329 => (some (false, ()))
          | .inr r329 => (let n330 : Nat := (List.length r329.2.1)
            cond r329.1
              (cond (decide ((0 : Int) < ((n330 : Nat) : Int)))
                (some (((List.getD r329.2.1 0 (0 : Int)) == (0 : Int)), ()))
                (none))
              (some (false, ()))))))

end Go.AE.Gn

/- A part of the proof, put together of my texts: D18defs, D18certs, PureLib, Pure17a, Pure02, PureBits, Pure03, PureTab, Pure09, Pure09b, Pure09c, Pure10, Pure11, Pure11c, Pure11d, Pure12, Pure13c, Pure13z, Pure17b, Pure17c, Pure17d, Pure17e, Pure17f, Pure17g, Pure17h, Pure18a, Pure18b, Pure18h, Pure18i. -/
import Derived.Test.YtcjfigcbloploaaRows
import Derived.KernelRfl
import Derived.Test.YtcjfigcbloploaaRowDdsAgainP4
set_option linter.unusedSimpArgs false
set_option linter.unusedVariables false
namespace Go.AE.Gn
open Go Go.AE
def law18_awakeT2 : List Int := [1, 2, 3, 4, 5, 6, 7, 8]
def dds_WriteT274 : List Int := [68, 68, 83, 32, 0, 0, 0, 0, 0, 0, 0, 0, 0, 0, 0, 0, 0, 0, 0, 0, 0, 0, 0, 0, 0, 0, 0, 0, 0, 0, 0, 0, 0, 0, 0, 0, 0, 0, 0, 0, 0, 0, 0, 0, 0, 0, 0, 0, 0, 0, 0, 0, 0, 0, 0, 0, 0, 0, 0, 0, 0, 0, 0, 0, 0, 0, 0, 0, 0, 0, 0, 0, 0, 0, 0, 0, 0, 0, 0, 0, 0, 0, 0, 0, 0, 0, 0, 0, 0, 0, 0, 0, 0, 0, 0, 0, 0, 0, 0, 0, 0, 0, 0, 0, 0, 0, 0, 0, 0, 0, 0, 0, 0, 0, 0, 0, 0, 0, 0, 0, 0, 0, 0, 0, 0, 0, 0, 0, 0, 0, 0, 0, 0, 0, 0, 0, 0, 0, 0, 0, 0, 0, 0, 0, 0, 0, 0, 0]
def dds_at (F : Nat) (a0 : Int) : Option (Int × Unit) :=
  some ((IntKind.wrap .i64 ((4 : Int) * (IntKind.wrap .i64 (a0 + (1 : Int))))), ())
def field_check (F : Nat) (a0 : List Int) (a1 : Int) (a2 : Int) : Option (Int × Unit) :=
  cond (decide (a2 < (1 : Int)))
    (some ((1 : Int), ()))
    (cond (decide ((4 : Int) < a2))
      (some ((1 : Int), ()))
      (cond (decide (a1 < (0 : Int)))
        (some ((1 : Int), ()))
        ((field_room F a0 a1 a2).bind fun r289 =>
        cond (!r289.1)
          (some ((2 : Int), ()))
          (some ((0 : Int), ())))))
def field_far (F : Nat) (a0 : Int) (a1 : Int) (a2 : Bool) : Option (Int × Unit) :=
  cond a2
    (some ((IntKind.wrap .i64 ((8 : Int) * (IntKind.wrap .i64 ((IntKind.wrap .i64 (a1 - (1 : Int))) - a0)))), ()))
    (some ((IntKind.wrap .i64 ((8 : Int) * a0)), ()))
def field_Put_l1S (F : Nat) (rec : Int → Int → Bool → Int → List Int → Int → Int → Option (List Int × Unit)) (x0 : Int) (x1 : Int) (x2 : Bool) (x3 : Int) (x4 : List Int) (x5 : Int) (x6 : Int) : Option (List Int × Unit) :=
  cond (decide (x6 < x5))
    (let v384 : Int := (IntKind.wrap .i64 (x0 + x6))
    (field_far F x6 x1 x2).bind fun r385 =>
    cond (decide ((0 : Int) ≤ r385.1))
      (cond ((decide ((0 : Int) ≤ v384)) && (decide (v384 < (((List.length x4) : Nat) : Int))))
        (rec x0 x1 x2 x3 (List.set x4 (Int.toNat v384) (IntKind.wrap .u8 (iand .i64 (ishr .i64 x3 r385.1) (255 : Int)))) x5 (IntKind.wrap .i64 (x6 + (1 : Int))))
        (none))
      (none))
    (some (x4, ()))
def field_Put_l1 (F : Nat) : Nat → Int → Int → Bool → Int → List Int → Int → Int → Option (List Int × Unit)
  | 0, _, _, _, _, _, _, _ => none
  | k + 1, x0, x1, x2, x3, x4, x5, x6 => field_Put_l1S F (field_Put_l1 F k) x0 x1 x2 x3 x4 x5 x6
def field_Put (F : Nat) (a0 : List Int) (a1 : Int) (a2 : Int) (a3 : Bool) (a4 : Int) : Option (List Int × (Int × Unit)) :=
  (field_check F a0 a1 a2).bind fun r346 =>
  cond (r346.1 != (0 : Int))
    (some ([], (r346.1, ())))
    (cond (decide (a4 < (0 : Int)))
      (some ([], ((10 : Int), ())))
      (let v349 : Int := (IntKind.wrap .i64 ((8 : Int) * a2))
      cond (decide ((0 : Int) ≤ v349))
        (cond ((ishr .i64 a4 v349) != (0 : Int))
          (some ([], ((10 : Int), ())))
          (let v353 : Int := (((List.length a0) : Nat) : Int)
          cond ((decide ((0 : Int) ≤ v353)) && ((decide (v353 ≤ (1099511627776 : Int))) && (decide (v353 = v353))))
            (let l356 : List Int := (List.replicate (Int.toNat v353) (0 : Int))
            (field_Put_l1 F F a1 a2 a3 a4 (((List.take 0 l356) ++ (List.take (min (List.length a0) (Int.toNat v353)) a0)) ++ (List.drop (0 + (min (List.length a0) (Int.toNat v353))) l356)) a2 (0 : Int)).bind fun r394 =>
            some (r394.1, ((0 : Int), ())))
            (none)))
        (none)))
def dds_Write_c1 (F : Nat) (a0 : Int) (a1 : Int) (a2 : List Int) : Option (List Int × Unit) :=
  (dds_at F a0).bind fun r403 =>
  (field_Put F a2 r403.1 (4 : Int) false a1).bind fun r404 =>
  some (r404.1, ())
 def bytes_Join (F : Nat) (a0 : List (List Int)) : Option (List Int × Unit) := cond (decide (a0.length ≤ 1099511627776) && decide (a0.flatten.length ≤ 1099511627776)) (some (a0.flatten, ())) none
def dds_Write (F : Nat) (a0 : (Int × (Int × (Int × (Int × (Int × (Int × (List (List Int) × (List (List Int × List Int) × Unit))))))))) : Option (List Int × (Int × Unit)) :=
  (layout_Check F (a0.1, (a0.2.1, (a0.2.2.1, (a0.2.2.2.1, (a0.2.2.2.2.1, (a0.2.2.2.2.2.1, (a0.2.2.2.2.2.2.1, (a0.2.2.2.2.2.2.2.1, ())))))))) ((2147483647 : Int), ((2147483647 : Int), ((2147483647 : Int), ())))).bind fun r595 =>
  cond (r595.1 != (0 : Int))
    (some ([], (r595.1, ())))
    ((format_Code F a0.1 (1 : Int)).bind fun r597 =>
    cond (r597.2.1 != (0 : Int))
      (some ([], (r597.2.1, ())))
      ((dds_Write_c1 F (0 : Int) (124 : Int) dds_WriteT274).bind fun r599 =>
      (dds_Write_c1 F (1 : Int) (659463 : Int) r599.1).bind fun r601 =>
      (dds_Write_c1 F (2 : Int) a0.2.2.1 r601.1).bind fun r603 =>
      (dds_Write_c1 F (3 : Int) a0.2.1 r603.1).bind fun r605 =>
      cond (decide ((0 : Int) < (((List.length a0.2.2.2.2.2.2.1) : Nat) : Int)))
        (let l608 : List Int := (List.getD a0.2.2.2.2.2.2.1 0 [])
        let v609 : Int := (((List.length l608) : Nat) : Int)
        (dds_Write_c1 F (4 : Int) v609 r605.1).bind fun r610 =>
        (dds_Write_c1 F (6 : Int) a0.2.2.2.2.2.1 r610.1).bind fun r612 =>
        (dds_Write_c1 F (18 : Int) (32 : Int) r612.1).bind fun r614 =>
        (dds_Write_c1 F (19 : Int) (4 : Int) r614.1).bind fun r616 =>
        let n617 : Nat := (List.length r616.1)
        (dds_at F (20 : Int)).bind fun r618 =>
        cond ((decide ((0 : Int) ≤ r618.1)) && ((decide ((Int.toNat r618.1) ≤ n617)) && true))
          (let n620 : Nat := (Int.toNat r618.1)
          let n621 : Nat := (psub n617 (Int.toNat r618.1))
          let v622 : Int := (((min 4 n621) : Nat) : Int)
          let l623 : List Int := (((List.take n620 r616.1) ++ (List.take (min 4 n621) (bytesL (ByteArray.mk (List.toArray [68, 88, 49, 48]))))) ++ (List.drop (n620 + (min 4 n621)) r616.1))
          let b624 : Bool := (decide ((1 : Int) < a0.2.2.2.2.2.1))
          cond b624
            (cond b624
              ((dds_Write_c1 F (26 : Int) (4198408 : Int) l623).bind fun r625 =>
              cond (a0.2.2.2.2.1 == (6 : Int))
                ((dds_Write_c1 F (27 : Int) (65024 : Int) r625.1).bind fun r628 =>
                (dds_Write_c1 F (33 : Int) (4 : Int) r628.1).bind fun r630 =>
                (dds_Write_c1 F (31 : Int) r597.1 r630.1).bind fun r632 =>
                (dds_Write_c1 F (32 : Int) (3 : Int) r632.1).bind fun r634 =>
                (dds_Write_c1 F (34 : Int) a0.2.2.2.1 r634.1).bind fun r636 =>
                let n637 : Nat := (List.length r636.1)
                (bytes_Join F a0.2.2.2.2.2.2.1).bind fun r638 =>
                cond ((decide ((n637 + (List.length r638.1)) ≤ 1099511627776)) && true)
                  (some ((r636.1 ++ r638.1), ((0 : Int), ())))
                  (none))
                ((dds_Write_c1 F (31 : Int) r597.1 r625.1).bind fun r642 =>
                (dds_Write_c1 F (32 : Int) (3 : Int) r642.1).bind fun r644 =>
                (dds_Write_c1 F (34 : Int) a0.2.2.2.1 r644.1).bind fun r646 =>
                let n647 : Nat := (List.length r646.1)
                (bytes_Join F a0.2.2.2.2.2.2.1).bind fun r648 =>
                cond ((decide ((n647 + (List.length r648.1)) ≤ 1099511627776)) && true)
                  (some ((r646.1 ++ r648.1), ((0 : Int), ())))
                  (none)))
              ((dds_Write_c1 F (26 : Int) (4104 : Int) l623).bind fun r652 =>
              cond (a0.2.2.2.2.1 == (6 : Int))
                ((dds_Write_c1 F (27 : Int) (65024 : Int) r652.1).bind fun r655 =>
                (dds_Write_c1 F (33 : Int) (4 : Int) r655.1).bind fun r657 =>
                (dds_Write_c1 F (31 : Int) r597.1 r657.1).bind fun r659 =>
                (dds_Write_c1 F (32 : Int) (3 : Int) r659.1).bind fun r661 =>
                (dds_Write_c1 F (34 : Int) a0.2.2.2.1 r661.1).bind fun r663 =>
                let n664 : Nat := (List.length r663.1)
                (bytes_Join F a0.2.2.2.2.2.2.1).bind fun r665 =>
                cond ((decide ((n664 + (List.length r665.1)) ≤ 1099511627776)) && true)
                  (some ((r663.1 ++ r665.1), ((0 : Int), ())))
                  (none))
                ((dds_Write_c1 F (31 : Int) r597.1 r652.1).bind fun r669 =>
                (dds_Write_c1 F (32 : Int) (3 : Int) r669.1).bind fun r671 =>
                (dds_Write_c1 F (34 : Int) a0.2.2.2.1 r671.1).bind fun r673 =>
                let n674 : Nat := (List.length r673.1)
                (bytes_Join F a0.2.2.2.2.2.2.1).bind fun r675 =>
                cond ((decide ((n674 + (List.length r675.1)) ≤ 1099511627776)) && true)
                  (some ((r673.1 ++ r675.1), ((0 : Int), ())))
                  (none))))
            (let b679 : Bool := (decide ((1 : Int) < a0.2.2.2.2.1))
            cond b679
              (cond b624
                ((dds_Write_c1 F (26 : Int) (4198408 : Int) l623).bind fun r680 =>
                cond (a0.2.2.2.2.1 == (6 : Int))
                  ((dds_Write_c1 F (27 : Int) (65024 : Int) r680.1).bind fun r683 =>
                  (dds_Write_c1 F (33 : Int) (4 : Int) r683.1).bind fun r685 =>
                  (dds_Write_c1 F (31 : Int) r597.1 r685.1).bind fun r687 =>
                  (dds_Write_c1 F (32 : Int) (3 : Int) r687.1).bind fun r689 =>
                  (dds_Write_c1 F (34 : Int) a0.2.2.2.1 r689.1).bind fun r691 =>
                  let n692 : Nat := (List.length r691.1)
                  (bytes_Join F a0.2.2.2.2.2.2.1).bind fun r693 =>
                  cond ((decide ((n692 + (List.length r693.1)) ≤ 1099511627776)) && true)
                    (some ((r691.1 ++ r693.1), ((0 : Int), ())))
                    (none))
                  ((dds_Write_c1 F (31 : Int) r597.1 r680.1).bind fun r697 =>
                  (dds_Write_c1 F (32 : Int) (3 : Int) r697.1).bind fun r699 =>
                  (dds_Write_c1 F (34 : Int) a0.2.2.2.1 r699.1).bind fun r701 =>
                  let n702 : Nat := (List.length r701.1)
                  (bytes_Join F a0.2.2.2.2.2.2.1).bind fun r703 =>
                  cond ((decide ((n702 + (List.length r703.1)) ≤ 1099511627776)) && true)
                    (some ((r701.1 ++ r703.1), ((0 : Int), ())))
                    (none)))
                ((dds_Write_c1 F (26 : Int) (4104 : Int) l623).bind fun r707 =>
                cond (a0.2.2.2.2.1 == (6 : Int))
                  ((dds_Write_c1 F (27 : Int) (65024 : Int) r707.1).bind fun r710 =>
                  (dds_Write_c1 F (33 : Int) (4 : Int) r710.1).bind fun r712 =>
                  (dds_Write_c1 F (31 : Int) r597.1 r712.1).bind fun r714 =>
                  (dds_Write_c1 F (32 : Int) (3 : Int) r714.1).bind fun r716 =>
                  (dds_Write_c1 F (34 : Int) a0.2.2.2.1 r716.1).bind fun r718 =>
                  let n719 : Nat := (List.length r718.1)
                  (bytes_Join F a0.2.2.2.2.2.2.1).bind fun r720 =>
                  cond ((decide ((n719 + (List.length r720.1)) ≤ 1099511627776)) && true)
                    (some ((r718.1 ++ r720.1), ((0 : Int), ())))
                    (none))
                  ((dds_Write_c1 F (31 : Int) r597.1 r707.1).bind fun r724 =>
                  (dds_Write_c1 F (32 : Int) (3 : Int) r724.1).bind fun r726 =>
                  (dds_Write_c1 F (34 : Int) a0.2.2.2.1 r726.1).bind fun r728 =>
                  let n729 : Nat := (List.length r728.1)
                  (bytes_Join F a0.2.2.2.2.2.2.1).bind fun r730 =>
                  cond ((decide ((n729 + (List.length r730.1)) ≤ 1099511627776)) && true)
                    (some ((r728.1 ++ r730.1), ((0 : Int), ())))
                    (none))))
              (cond b624
                ((dds_Write_c1 F (26 : Int) (4198400 : Int) l623).bind fun r734 =>
                cond (a0.2.2.2.2.1 == (6 : Int))
                  ((dds_Write_c1 F (27 : Int) (65024 : Int) r734.1).bind fun r737 =>
                  (dds_Write_c1 F (33 : Int) (4 : Int) r737.1).bind fun r739 =>
                  (dds_Write_c1 F (31 : Int) r597.1 r739.1).bind fun r741 =>
                  (dds_Write_c1 F (32 : Int) (3 : Int) r741.1).bind fun r743 =>
                  (dds_Write_c1 F (34 : Int) a0.2.2.2.1 r743.1).bind fun r745 =>
                  let n746 : Nat := (List.length r745.1)
                  (bytes_Join F a0.2.2.2.2.2.2.1).bind fun r747 =>
                  cond ((decide ((n746 + (List.length r747.1)) ≤ 1099511627776)) && true)
                    (some ((r745.1 ++ r747.1), ((0 : Int), ())))
                    (none))
                  ((dds_Write_c1 F (31 : Int) r597.1 r734.1).bind fun r751 =>
                  (dds_Write_c1 F (32 : Int) (3 : Int) r751.1).bind fun r753 =>
                  (dds_Write_c1 F (34 : Int) a0.2.2.2.1 r753.1).bind fun r755 =>
                  let n756 : Nat := (List.length r755.1)
                  (bytes_Join F a0.2.2.2.2.2.2.1).bind fun r757 =>
                  cond ((decide ((n756 + (List.length r757.1)) ≤ 1099511627776)) && true)
                    (some ((r755.1 ++ r757.1), ((0 : Int), ())))
                    (none)))
                ((dds_Write_c1 F (26 : Int) (4096 : Int) l623).bind fun r761 =>
                cond (a0.2.2.2.2.1 == (6 : Int))
                  ((dds_Write_c1 F (27 : Int) (65024 : Int) r761.1).bind fun r764 =>
                  (dds_Write_c1 F (33 : Int) (4 : Int) r764.1).bind fun r766 =>
                  (dds_Write_c1 F (31 : Int) r597.1 r766.1).bind fun r768 =>
                  (dds_Write_c1 F (32 : Int) (3 : Int) r768.1).bind fun r770 =>
                  (dds_Write_c1 F (34 : Int) a0.2.2.2.1 r770.1).bind fun r772 =>
                  let n773 : Nat := (List.length r772.1)
                  (bytes_Join F a0.2.2.2.2.2.2.1).bind fun r774 =>
                  cond ((decide ((n773 + (List.length r774.1)) ≤ 1099511627776)) && true)
                    (some ((r772.1 ++ r774.1), ((0 : Int), ())))
                    (none))
                  ((dds_Write_c1 F (31 : Int) r597.1 r761.1).bind fun r778 =>
                  (dds_Write_c1 F (32 : Int) (3 : Int) r778.1).bind fun r780 =>
                  (dds_Write_c1 F (34 : Int) a0.2.2.2.1 r780.1).bind fun r782 =>
                  let n783 : Nat := (List.length r782.1)
                  (bytes_Join F a0.2.2.2.2.2.2.1).bind fun r784 =>
                  cond ((decide ((n783 + (List.length r784.1)) ≤ 1099511627776)) && true)
                    (some ((r782.1 ++ r784.1), ((0 : Int), ())))
                    (none))))))
          (none))
        (none)))
def field_Get_l0S (F : Nat) (rec : List Int → Int → Int → Bool → Int → Int → Int → Option (Int × Unit)) (x0 : List Int) (x1 : Int) (x2 : Int) (x3 : Bool) (x4 : Int) (x5 : Int) (x6 : Int) : Option (Int × Unit) :=
  cond (decide (x6 < x5))
    (let v827 : Int := (IntKind.wrap .i64 (x1 + x6))
    cond ((decide ((0 : Int) ≤ v827)) && (decide (v827 < (((List.length x0) : Nat) : Int))))
      ((field_far F x6 x2 x3).bind fun r831 =>
      cond (decide ((0 : Int) ≤ r831.1))
        (rec x0 x1 x2 x3 (ior .i64 x4 (ishl .i64 (List.getD x0 (Int.toNat v827) (0 : Int)) r831.1)) x5 (IntKind.wrap .i64 (x6 + (1 : Int))))
        (none))
      (none))
    (some (x4, ()))
def field_Get_l0 (F : Nat) : Nat → List Int → Int → Int → Bool → Int → Int → Int → Option (Int × Unit)
  | 0, _, _, _, _, _, _, _ => none
  | k + 1, x0, x1, x2, x3, x4, x5, x6 => field_Get_l0S F (field_Get_l0 F k) x0 x1 x2 x3 x4 x5 x6
def field_Get (F : Nat) (a0 : List Int) (a1 : Int) (a2 : Int) (a3 : Bool) : Option (Int × (Int × Unit)) :=
  (field_check F a0 a1 a2).bind fun r802 =>
  cond (r802.1 != (0 : Int))
    (some ((0 : Int), (r802.1, ())))
    ((field_Get_l0 F F a0 a1 a2 a3 (0 : Int) a2 (0 : Int)).bind fun r836 =>
    some (r836.1, ((0 : Int), ())))
def dds_header_c1 (F : Nat) (a0 : Int) (a1 : List Int) : Option (Int × Unit) :=
  (dds_at F a0).bind fun r839 =>
  (field_Get F a1 r839.1 (4 : Int) false).bind fun r840 =>
  some (r840.1, ())
def dds_dx10_header_c1 (F : Nat) (a0 : Int) (a1 : Int) (a2 : Int) (a3 : Int) (a4 : Int) (a5 : Int) (a6 : List Int) : Option (Int × (Int × (Int × (Int × (Int × (Int × (Int × Unit))))))) :=
  (dds_header_c1 F (31 : Int) a6).bind fun r877 =>
  (format_Format F r877.1 (1 : Int)).bind fun r878 =>
  cond (r878.2.1 != (0 : Int))
    (some (r878.2.1, (a0, (a1, (a2, (a3, (a4, (a5, ()))))))))
    ((dds_header_c1 F (32 : Int) a6).bind fun r880 =>
    cond (r880.1 != (3 : Int))
      (some ((4 : Int), (a0, (a1, (a2, (a3, (a4, (a5, ()))))))))
      ((dds_header_c1 F (34 : Int) a6).bind fun r882 =>
      (dds_header_c1 F (33 : Int) a6).bind fun r883 =>
      cond ((iand .i64 r883.1 (4 : Int)) != (0 : Int))
        (some ((0 : Int), (r878.1, (a1, (a2, (r882.1, ((6 : Int), (a5, ()))))))))
        (some ((0 : Int), (r878.1, (a1, (a2, (r882.1, (a4, (a5, ()))))))))))
def dds_older (F : Nat) (a0 : Int) (a1 : Int) (a2 : Int) (a3 : Int) (a4 : Int) (a5 : Int) (a6 : List Int) (a7 : Int) : Option (Int × (Int × (Int × (Int × (Int × (Int × (Int × Unit))))))) :=
  (format_Letters F a6).bind fun r905 =>
  cond (r905.2.1 != (0 : Int))
    (some (r905.2.1, (a0, (a1, (a2, (a3, (a4, (a5, ()))))))))
    (cond ((iand .i64 a7 (512 : Int)) != (0 : Int))
      (cond ((iand .i64 a7 (64512 : Int)) != (64512 : Int))
        (some ((4 : Int), (r905.1, (a1, (a2, (a3, (a4, (a5, ()))))))))
        (some ((0 : Int), (r905.1, (a1, (a2, (a3, ((6 : Int), (a5, ())))))))))
      (some ((0 : Int), (r905.1, (a1, (a2, (a3, (a4, (a5, ())))))))))
def dds_header (F : Nat) (a0 : List Int) : Option (Int × (Int × (Int × (Int × (Int × (Int × (Int × (Int × Unit)))))))) :=
  let v922 : Int := (((List.length a0) : Nat) : Int)
  cond (decide (v922 < (4 : Int)))
    (some ((0 : Int), ((0 : Int), ((0 : Int), ((0 : Int), ((0 : Int), ((0 : Int), ((0 : Int), ((2 : Int), ())))))))))
    (cond (decide (4 ≤ (List.length a0)))
      (cond (!((List.take 4 a0) == (bytesL (ByteArray.mk (List.toArray [68, 68, 83, 32])))))
        (some ((0 : Int), ((0 : Int), ((0 : Int), ((0 : Int), ((0 : Int), ((0 : Int), ((0 : Int), ((3 : Int), ())))))))))
        (cond (decide (v922 < (128 : Int)))
          (some ((0 : Int), ((0 : Int), ((0 : Int), ((0 : Int), ((0 : Int), ((0 : Int), ((0 : Int), ((2 : Int), ())))))))))
          ((dds_header_c1 F (0 : Int) a0).bind fun r928 =>
          cond (r928.1 != (124 : Int))
            (some ((0 : Int), ((0 : Int), ((0 : Int), ((0 : Int), ((0 : Int), ((0 : Int), ((0 : Int), ((4 : Int), ())))))))))
            ((dds_header_c1 F (18 : Int) a0).bind fun r930 =>
            cond (r930.1 != (32 : Int))
              (some ((0 : Int), ((0 : Int), ((0 : Int), ((0 : Int), ((0 : Int), ((0 : Int), ((0 : Int), ((4 : Int), ())))))))))
              ((dds_header_c1 F (19 : Int) a0).bind fun r932 =>
              cond ((iand .i64 r932.1 (4 : Int)) == (0 : Int))
                (some ((0 : Int), ((0 : Int), ((0 : Int), ((0 : Int), ((0 : Int), ((0 : Int), ((0 : Int), ((5 : Int), ())))))))))
                ((dds_header_c1 F (3 : Int) a0).bind fun r935 =>
                (dds_header_c1 F (2 : Int) a0).bind fun r936 =>
                (dds_at F (20 : Int)).bind fun r937 =>
                (dds_at F (20 : Int)).bind fun r938 =>
                let v939 : Int := (IntKind.wrap .i64 (r938.1 + (4 : Int)))
                cond ((decide ((0 : Int) ≤ r937.1)) && ((decide ((0 : Int) ≤ v939)) && ((decide ((Int.toNat r937.1) ≤ (Int.toNat v939))) && (decide ((Int.toNat v939) ≤ (List.length a0))))))
                  (let l943 : List Int := (List.take (psub (Int.toNat v939) (Int.toNat r937.1)) (List.drop (Int.toNat r937.1) a0))
                  cond (l943 == (bytesL (ByteArray.mk (List.toArray [68, 88, 49, 48]))))
                    (cond (decide (v922 < (148 : Int)))
                      (some ((0 : Int), ((0 : Int), ((0 : Int), ((0 : Int), ((0 : Int), ((0 : Int), ((0 : Int), ((2 : Int), ())))))))))
                      ((dds_dx10_header_c1 F (0 : Int) r935.1 r936.1 (1 : Int) (1 : Int) (1 : Int) a0).bind fun r946 =>
                      cond (r946.1 != (0 : Int))
                        (some ((0 : Int), ((0 : Int), ((0 : Int), ((0 : Int), ((0 : Int), ((0 : Int), ((0 : Int), (r946.1, ())))))))))
                        ((dds_header_c1 F (27 : Int) a0).bind fun r948 =>
                        cond ((iand .i64 r948.1 (2097152 : Int)) != (0 : Int))
                          (some ((0 : Int), ((0 : Int), ((0 : Int), ((0 : Int), ((0 : Int), ((0 : Int), ((0 : Int), ((4 : Int), ())))))))))
                          ((dds_header_c1 F (6 : Int) a0).bind fun r951 =>
                          (dds_header_c1 F (1 : Int) a0).bind fun r952 =>
                          cond ((iand .i64 r952.1 (131072 : Int)) != (0 : Int))
                            (cond (r951.1 != (0 : Int))
                              (some (r946.2.1, (r946.2.2.1, (r946.2.2.2.1, (r946.2.2.2.2.1, (r946.2.2.2.2.2.1, (r951.1, ((148 : Int), ((0 : Int), ())))))))))
                              (some (r946.2.1, (r946.2.2.1, (r946.2.2.2.1, (r946.2.2.2.2.1, (r946.2.2.2.2.2.1, (r946.2.2.2.2.2.2.1, ((148 : Int), ((0 : Int), ()))))))))))
                            (some (r946.2.1, (r946.2.2.1, (r946.2.2.2.1, (r946.2.2.2.2.1, (r946.2.2.2.2.2.1, (r946.2.2.2.2.2.2.1, ((148 : Int), ((0 : Int), ())))))))))))))
                    ((dds_header_c1 F (27 : Int) a0).bind fun r956 =>
                    (dds_older F (0 : Int) r935.1 r936.1 (1 : Int) (1 : Int) (1 : Int) l943 r956.1).bind fun r957 =>
                    cond (r957.1 != (0 : Int))
                      (some ((0 : Int), ((0 : Int), ((0 : Int), ((0 : Int), ((0 : Int), ((0 : Int), ((0 : Int), (r957.1, ())))))))))
                      ((dds_header_c1 F (27 : Int) a0).bind fun r959 =>
                      cond ((iand .i64 r959.1 (2097152 : Int)) != (0 : Int))
                        (some ((0 : Int), ((0 : Int), ((0 : Int), ((0 : Int), ((0 : Int), ((0 : Int), ((0 : Int), ((4 : Int), ())))))))))
                        ((dds_header_c1 F (6 : Int) a0).bind fun r962 =>
                        (dds_header_c1 F (1 : Int) a0).bind fun r963 =>
                        cond ((iand .i64 r963.1 (131072 : Int)) != (0 : Int))
                          (cond (r962.1 != (0 : Int))
                            (some (r957.2.1, (r957.2.2.1, (r957.2.2.2.1, (r957.2.2.2.2.1, (r957.2.2.2.2.2.1, (r962.1, ((128 : Int), ((0 : Int), ())))))))))
                            (some (r957.2.1, (r957.2.2.1, (r957.2.2.2.1, (r957.2.2.2.2.1, (r957.2.2.2.2.2.1, (r957.2.2.2.2.2.2.1, ((128 : Int), ((0 : Int), ()))))))))))
                          (some (r957.2.1, (r957.2.2.1, (r957.2.2.2.1, (r957.2.2.2.2.1, (r957.2.2.2.2.2.1, (r957.2.2.2.2.2.2.1, ((128 : Int), ((0 : Int), ())))))))))))))
                  (none)))))))
      (none))
 def errors_Is (F : Nat) (a0 : Int) (a1 : Int) : Option (Bool × Unit) := some (a0 == a1, ())
def dds_Read_l3S (F : Nat) (rec : List Int → List (List Int) → Int → Int → Int → Int → Int → Int → Int → List Int → Int → Int → Int → Int → Option (Unit ⊕ (List Int × (List (List Int) × (Int × (Int × (Int × (Int × (Int × (Int × (Int × (List Int × (Int × (Int × Unit)))))))))))))) (x0 : List Int) (x1 : List (List Int)) (x2 : Int) (x3 : Int) (x4 : Int) (x5 : Int) (x6 : Int) (x7 : Int) (x8 : Int) (x9 : List Int) (x10 : Int) (x11 : Int) (x12 : Int) (x13 : Int) : Option (Unit ⊕ (List Int × (List (List Int) × (Int × (Int × (Int × (Int × (Int × (Int × (Int × (List Int × (Int × (Int × Unit))))))))))))) :=
  let n1253 : Nat := (List.length x1)
  cond (decide (x13 < x12))
    (cond ((decide ((0 : Int) ≤ x13)) && (decide (x13 < (((List.length x9) : Nat) : Int))))
      (let v1257 : Int := (List.getD x9 (Int.toNat x13) (0 : Int))
      (field_Part F x0 x8 v1257).bind fun r1258 =>
      let n1259 : Nat := (List.length r1258.1)
      cond (r1258.2.1 != (0 : Int))
        (some (.inl ()))
        (cond ((decide ((n1253 + (List.length [r1258.1])) ≤ 1099511627776)) && true)
          (rec x0 (x1 ++ [r1258.1]) x2 x3 x4 x5 x6 x7 (IntKind.wrap .i64 (x8 + v1257)) x9 x10 x11 x12 (IntKind.wrap .i64 (x13 + (1 : Int))))
          (none)))
      (none))
    (some (.inr (x0, (x1, (x2, (x3, (x4, (x5, (x6, (x7, (x8, (x9, (x10, (x11, ()))))))))))))))
def dds_Read_l3 (F : Nat) : Nat → List Int → List (List Int) → Int → Int → Int → Int → Int → Int → Int → List Int → Int → Int → Int → Int → Option (Unit ⊕ (List Int × (List (List Int) × (Int × (Int × (Int × (Int × (Int × (Int × (Int × (List Int × (Int × (Int × Unit)))))))))))))
  | 0, _, _, _, _, _, _, _, _, _, _, _, _, _, _ => none
  | k + 1, x0, x1, x2, x3, x4, x5, x6, x7, x8, x9, x10, x11, x12, x13 => dds_Read_l3S F (dds_Read_l3 F k) x0 x1 x2 x3 x4 x5 x6 x7 x8 x9 x10 x11 x12 x13
def dds_Read_l1S (F : Nat) (rec : List Int → List (List Int) → Int → Int → Int → Int → Int → Int → Int → List Int → Int → Int → Option (Unit ⊕ (List Int × (List (List Int) × (Int × (Int × (Int × (Int × (Int × (Int × (Int × Unit))))))))))) (x0 : List Int) (x1 : List (List Int)) (x2 : Int) (x3 : Int) (x4 : Int) (x5 : Int) (x6 : Int) (x7 : Int) (x8 : Int) (x9 : List Int) (x10 : Int) (x11 : Int) : Option (Unit ⊕ (List Int × (List (List Int) × (Int × (Int × (Int × (Int × (Int × (Int × (Int × Unit)))))))))) :=
  cond (decide (x11 < x10))
    ((dds_Read_l3 F F x0 x1 x2 x3 x4 x5 x6 x7 x8 x9 x10 x11 (((List.length x9) : Nat) : Int) (0 : Int)).bind fun r1266 => match r1266 with
      | .inl r1266 => (some (.inl ()))
      | .inr r1266 => (rec r1266.1 r1266.2.1 r1266.2.2.1 r1266.2.2.2.1 r1266.2.2.2.2.1 r1266.2.2.2.2.2.1 r1266.2.2.2.2.2.2.1 r1266.2.2.2.2.2.2.2.1 r1266.2.2.2.2.2.2.2.2.1 r1266.2.2.2.2.2.2.2.2.2.1 r1266.2.2.2.2.2.2.2.2.2.2.1 (IntKind.wrap .i64 (r1266.2.2.2.2.2.2.2.2.2.2.2.1 + (1 : Int)))))
    (some (.inr (x0, (x1, (x2, (x3, (x4, (x5, (x6, (x7, (x8, ())))))))))))
def dds_Read_l1 (F : Nat) : Nat → List Int → List (List Int) → Int → Int → Int → Int → Int → Int → Int → List Int → Int → Int → Option (Unit ⊕ (List Int × (List (List Int) × (Int × (Int × (Int × (Int × (Int × (Int × (Int × Unit))))))))))
  | 0, _, _, _, _, _, _, _, _, _, _, _, _ => none
  | k + 1, x0, x1, x2, x3, x4, x5, x6, x7, x8, x9, x10, x11 => dds_Read_l1S F (dds_Read_l1 F k) x0 x1 x2 x3 x4 x5 x6 x7 x8 x9 x10 x11
def dds_Read (F : Nat) (a0 : List Int) (a1 : (Int × (Int × (Int × Unit)))) : Option (Int × (Int × (Int × (Int × (Int × (Int × (List (List Int) × (Int × Unit)))))))) :=
  (dds_header F a0).bind fun r1134 =>
  cond (r1134.2.2.2.2.2.2.2.1 != (0 : Int))
    (some ((0 : Int), ((0 : Int), ((0 : Int), ((0 : Int), ((0 : Int), ((0 : Int), ([], (r1134.2.2.2.2.2.2.2.1, ())))))))))
    ((layout_Header F (r1134.1, (r1134.2.1, (r1134.2.2.1, (r1134.2.2.2.1, (r1134.2.2.2.2.1, (r1134.2.2.2.2.2.1, ([], ([], ())))))))) (a1.1, (a1.2.1, (a1.2.2.1, ())))).bind fun r1136 =>
    (errors_Is F r1136.1 (1 : Int)).bind fun r1137 =>
    cond r1137.1
      (some ((0 : Int), ((0 : Int), ((0 : Int), ((0 : Int), ((0 : Int), ((0 : Int), ([], ((4 : Int), ())))))))))
      (cond (r1136.1 != (0 : Int))
        (some ((0 : Int), ((0 : Int), ((0 : Int), ((0 : Int), ((0 : Int), ((0 : Int), ([], (r1136.1, ())))))))))
        ((layout_Sizes F r1134.1 r1134.2.1 r1134.2.2.1 r1134.2.2.2.2.2.1).bind fun r1139 =>
        cond (r1139.2.1 != (0 : Int))
          (some ((0 : Int), ((0 : Int), ((0 : Int), ((0 : Int), ((0 : Int), ((0 : Int), ([], ((2 : Int), ())))))))))
          ((dds_Read_l1 F F a0 [] r1134.1 r1134.2.1 r1134.2.2.1 r1134.2.2.2.1 r1134.2.2.2.2.1 r1134.2.2.2.2.2.1 r1134.2.2.2.2.2.2.1 r1139.1 (IntKind.wrap .i64 (r1134.2.2.2.1 * r1134.2.2.2.2.1)) (0 : Int)).bind fun r1271 => match r1271 with
            | .inl r1271 => (some ((0 : Int), ((0 : Int), ((0 : Int), ((0 : Int), ((0 : Int), ((0 : Int), ([], ((2 : Int), ())))))))))
            | .inr r1271 => (let v1274 : Int := (((List.length r1271.1) : Nat) : Int)
              cond (decide (r1271.2.2.2.2.2.2.2.2.1 < v1274))
                (some ((0 : Int), ((0 : Int), ((0 : Int), ((0 : Int), ((0 : Int), ((0 : Int), ([], ((7 : Int), ())))))))))
                (some (r1271.2.2.1, (r1271.2.2.2.1, (r1271.2.2.2.2.1, (r1271.2.2.2.2.2.1, (r1271.2.2.2.2.2.2.1, (r1271.2.2.2.2.2.2.2.1, (r1271.2.1, ((0 : Int), ()))))))))))))))
def law18_awake (F : Nat) : Option (Bool × Unit) :=
  (dds_Write F ((1 : Int), ((4 : Int), ((3 : Int), ((1 : Int), ((1 : Int), ((1 : Int), ([law18_awakeT2], ([], ()))))))))).bind fun r788 =>
  let n789 : Nat := (List.length r788.1)
  (ref17_Wide F).bind fun r790 =>
  (dds_Read F r788.1 (r790.1.1, (r790.1.2.1, (r790.1.2.2.1, ())))).bind fun r1276 =>
  cond ((decide ((n789 + 1) ≤ 1099511627776)) && true)
    ((ref17_Wide F).bind fun r1280 =>
    (dds_Read F (r788.1 ++ [(0 : Int)]) (r1280.1.1, (r1280.1.2.1, (r1280.1.2.2.1, ())))).bind fun r1281 =>
    cond (r788.2.1 == (0 : Int))
      (cond (((n789 : Nat) : Int) == (156 : Int))
        (cond (r1276.2.2.2.2.2.2.2.1 == (0 : Int))
          ((ref17_Same F ((1 : Int), ((4 : Int), ((3 : Int), ((1 : Int), ((1 : Int), ((1 : Int), ([law18_awakeT2], ([], ())))))))) (r1276.1, (r1276.2.1, (r1276.2.2.1, (r1276.2.2.2.1, (r1276.2.2.2.2.1, (r1276.2.2.2.2.2.1, (r1276.2.2.2.2.2.2.1, ([], ()))))))))).bind fun r1386 =>
          cond r1386.1
            (some ((r1281.2.2.2.2.2.2.2.1 == (7 : Int)), ()))
            (some (false, ())))
          (some (false, ())))
        (some (false, ())))
      (some (false, ())))
    (none)
def ref01_room (F : Nat) (a0 : List Int) (a1 : Int) (a2 : Int) : Option (Bool × Unit) :=
  let v1405 : Int := (((List.length a0) : Nat) : Int)
  cond (decide (a1 ≤ v1405))
    (let v1407 : Int := (IntKind.wrap .i64 (v1405 - a1))
    some ((decide (a2 ≤ v1407)), ()))
    (some (false, ()))
def ref01_Get_l0S (F : Nat) (rec : List Int → Int → Int → Bool → Int → Int → Option (Int × Unit)) (x0 : List Int) (x1 : Int) (x2 : Int) (x3 : Bool) (x4 : Int) (x5 : Int) : Option (Int × Unit) :=
  cond (decide (x5 < x2))
    (let v1447 : Int := (IntKind.wrap .i64 ((IntKind.wrap .i64 ((IntKind.wrap .i64 (x1 + x2)) - (1 : Int))) - x5))
    cond x3
      (let v1448 : Int := (IntKind.wrap .i64 (x1 + x5))
      cond ((decide ((0 : Int) ≤ v1448)) && (decide (v1448 < (((List.length x0) : Nat) : Int))))
        (rec x0 x1 x2 x3 (IntKind.wrap .i64 ((IntKind.wrap .i64 ((256 : Int) * x4)) + (List.getD x0 (Int.toNat v1448) (0 : Int)))) (IntKind.wrap .i64 (x5 + (1 : Int))))
        (none))
      (cond ((decide ((0 : Int) ≤ v1447)) && (decide (v1447 < (((List.length x0) : Nat) : Int))))
        (rec x0 x1 x2 x3 (IntKind.wrap .i64 ((IntKind.wrap .i64 ((256 : Int) * x4)) + (List.getD x0 (Int.toNat v1447) (0 : Int)))) (IntKind.wrap .i64 (x5 + (1 : Int))))
        (none)))
    (some (x4, ()))
def ref01_Get_l0 (F : Nat) : Nat → List Int → Int → Int → Bool → Int → Int → Option (Int × Unit)
  | 0, _, _, _, _, _, _ => none
  | k + 1, x0, x1, x2, x3, x4, x5 => ref01_Get_l0S F (ref01_Get_l0 F k) x0 x1 x2 x3 x4 x5
def ref01_Get (F : Nat) (a0 : List Int) (a1 : Int) (a2 : Int) (a3 : Bool) : Option (Int × (Int × Unit)) :=
  cond (decide (a2 < (1 : Int)))
    (some ((0 : Int), ((1 : Int), ())))
    (cond (decide ((4 : Int) < a2))
      (some ((0 : Int), ((1 : Int), ())))
      (cond (decide (a1 < (0 : Int)))
        (some ((0 : Int), ((1 : Int), ())))
        ((ref01_room F a0 a1 a2).bind fun r1409 =>
        cond (!r1409.1)
          (some ((0 : Int), ((2 : Int), ())))
          ((ref01_Get_l0 F F a0 a1 a2 a3 (0 : Int) (0 : Int)).bind fun r1461 =>
          some (r1461.1, ((0 : Int), ()))))))
def ref18_get (F : Nat) (a0 : List Int) (a1 : Int) : Option (Int × Unit) :=
  (ref01_Get F a0 a1 (4 : Int) false).bind fun r1462 =>
  some (r1462.1, ())
def ref18_Blocks_l2S (F : Nat) (rec : List Int → Int → List (List Int) → Int → Int → Int → Int → Int → Int → Int → Int → Option (Unit ⊕ (List Int × (Int × (List (List Int) × (Int × (Int × (Int × (Int × (Int × (Int × (Int × Unit)))))))))))) (x0 : List Int) (x1 : Int) (x2 : List (List Int)) (x3 : Int) (x4 : Int) (x5 : Int) (x6 : Int) (x7 : Int) (x8 : Int) (x9 : Int) (x10 : Int) : Option (Unit ⊕ (List Int × (Int × (List (List Int) × (Int × (Int × (Int × (Int × (Int × (Int × (Int × Unit))))))))))) :=
  let n2101 : Nat := (List.length x2)
  cond (decide (x10 < x8))
    ((ref05_Side F x4 x10).bind fun r2103 =>
    (ref05_Side F x5 x10).bind fun r2104 =>
    (ref13_Bytes F x3 r2103.1 r2104.1).bind fun r2105 =>
    let b2106 : Bool := (r2105.2.1 != (0 : Int))
    cond b2106
      (some (.inl ()))
      (let v2107 : Int := (((List.length x0) : Nat) : Int)
      let v2108 : Int := (IntKind.wrap .i64 (v2107 - x1))
      let b2109 : Bool := (decide (v2108 < r2105.1))
      cond b2109
        (some (.inl ()))
        (let v2110 : Int := (IntKind.wrap .i64 (x1 + r2105.1))
        cond ((decide ((0 : Int) ≤ x1)) && ((decide ((0 : Int) ≤ v2110)) && ((decide ((Int.toNat x1) ≤ (Int.toNat v2110))) && (decide ((Int.toNat v2110) ≤ (List.length x0))))))
          (let n2113 : Nat := (psub (Int.toNat v2110) (Int.toNat x1))
          cond ((decide ((0 + n2113) ≤ 1099511627776)) && true)
            (let n2115 : Nat := (0 + n2113)
            let l2116 : List Int := ([] ++ (List.take n2113 (List.drop (Int.toNat x1) x0)))
            cond ((decide ((n2101 + (List.length [l2116])) ≤ 1099511627776)) && true)
              (rec x0 v2110 (x2 ++ [l2116]) x3 x4 x5 x6 x7 x8 x9 (IntKind.wrap .i64 (x10 + (1 : Int))))
              (none))
            (none))
          (none))))
    (some (.inr (x0, (x1, (x2, (x3, (x4, (x5, (x6, (x7, (x8, (x9, ()))))))))))))
def ref18_Blocks_l2 (F : Nat) : Nat → List Int → Int → List (List Int) → Int → Int → Int → Int → Int → Int → Int → Int → Option (Unit ⊕ (List Int × (Int × (List (List Int) × (Int × (Int × (Int × (Int × (Int × (Int × (Int × Unit)))))))))))
  | 0, _, _, _, _, _, _, _, _, _, _, _ => none
  | k + 1, x0, x1, x2, x3, x4, x5, x6, x7, x8, x9, x10 => ref18_Blocks_l2S F (ref18_Blocks_l2 F k) x0 x1 x2 x3 x4 x5 x6 x7 x8 x9 x10
def ref18_Blocks_l0S (F : Nat) (rec : List Int → Int → List (List Int) → Int → Int → Int → Int → Int → Int → Int → Option (Unit ⊕ (List Int × (Int × (List (List Int) × (Int × (Int × (Int × (Int × (Int × (Int × Unit))))))))))) (x0 : List Int) (x1 : Int) (x2 : List (List Int)) (x3 : Int) (x4 : Int) (x5 : Int) (x6 : Int) (x7 : Int) (x8 : Int) (x9 : Int) : Option (Unit ⊕ (List Int × (Int × (List (List Int) × (Int × (Int × (Int × (Int × (Int × (Int × Unit)))))))))) :=
  let v2077 : Int := (IntKind.wrap .i64 (x6 * x7))
  cond (decide (x9 < v2077))
    ((ref18_Blocks_l2 F F x0 x1 x2 x3 x4 x5 x6 x7 x8 x9 (0 : Int)).bind fun r2121 => match r2121 with
      | .inl r2121 => (some (.inl ()))
      | .inr r2121 => (rec r2121.1 r2121.2.1 r2121.2.2.1 r2121.2.2.2.1 r2121.2.2.2.2.1 r2121.2.2.2.2.2.1 r2121.2.2.2.2.2.2.1 r2121.2.2.2.2.2.2.2.1 r2121.2.2.2.2.2.2.2.2.1 (IntKind.wrap .i64 (r2121.2.2.2.2.2.2.2.2.2.1 + (1 : Int)))))
    (some (.inr (x0, (x1, (x2, (x3, (x4, (x5, (x6, (x7, (x8, ())))))))))))
def ref18_Blocks_l0 (F : Nat) : Nat → List Int → Int → List (List Int) → Int → Int → Int → Int → Int → Int → Int → Option (Unit ⊕ (List Int × (Int × (List (List Int) × (Int × (Int × (Int × (Int × (Int × (Int × Unit))))))))))
  | 0, _, _, _, _, _, _, _, _, _, _ => none
  | k + 1, x0, x1, x2, x3, x4, x5, x6, x7, x8, x9 => ref18_Blocks_l0S F (ref18_Blocks_l0 F k) x0 x1 x2 x3 x4 x5 x6 x7 x8 x9
def ref18_Blocks (F : Nat) (a0 : Int) (a1 : Int) (a2 : Int) (a3 : Int) (a4 : Int) (a5 : Int) (a6 : List Int) (a7 : Int) (a8 : (Int × (Int × (Int × Unit)))) (a9 : Int) : Option (Int × (Int × (Int × (Int × (Int × (Int × (List (List Int) × (Int × Unit)))))))) :=
  (ref17_Header F (a0, (a1, (a2, (a3, (a4, (a5, ([], ([], ())))))))) (a8.1, (a8.2.1, (a8.2.2.1, ())))).bind fun r1957 =>
  cond (r1957.1 == (1 : Int))
    (some ((0 : Int), ((0 : Int), ((0 : Int), ((0 : Int), ((0 : Int), ((0 : Int), ([], (a9, ())))))))))
    (cond (r1957.1 != (0 : Int))
      (some ((0 : Int), ((0 : Int), ((0 : Int), ((0 : Int), ((0 : Int), ((0 : Int), ([], (r1957.1, ())))))))))
      ((ref18_Blocks_l0 F F a6 a7 [] a0 a1 a2 a3 a4 a5 (0 : Int)).bind fun r2125 => match r2125 with
        | .inl r2125 => (some ((0 : Int), ((0 : Int), ((0 : Int), ((0 : Int), ((0 : Int), ((0 : Int), ([], ((2 : Int), ())))))))))
        | .inr r2125 => (let v2128 : Int := (((List.length r2125.1) : Nat) : Int)
          cond (decide (r2125.2.1 < v2128))
            (some ((0 : Int), ((0 : Int), ((0 : Int), ((0 : Int), ((0 : Int), ((0 : Int), ([], ((7 : Int), ())))))))))
            (some (r2125.2.2.2.1, (r2125.2.2.2.2.1, (r2125.2.2.2.2.2.1, (r2125.2.2.2.2.2.2.1, (r2125.2.2.2.2.2.2.2.1, (r2125.2.2.2.2.2.2.2.2.1, (r2125.2.2.1, ((0 : Int), ()))))))))))))
def ref18_Read (F : Nat) (a0 : List Int) (a1 : (Int × (Int × (Int × Unit)))) : Option (Int × (Int × (Int × (Int × (Int × (Int × (List (List Int) × (Int × Unit)))))))) :=
  let v2189 : Int := (((List.length a0) : Nat) : Int)
  cond (decide (v2189 < (4 : Int)))
    (some ((0 : Int), ((0 : Int), ((0 : Int), ((0 : Int), ((0 : Int), ((0 : Int), ([], ((2 : Int), ())))))))))
    (cond (decide (4 ≤ (List.length a0)))
      (cond (!((List.take 4 a0) == (bytesL (ByteArray.mk (List.toArray [68, 68, 83, 32])))))
        (some ((0 : Int), ((0 : Int), ((0 : Int), ((0 : Int), ((0 : Int), ((0 : Int), ([], ((3 : Int), ())))))))))
        (cond (decide (v2189 < (128 : Int)))
          (some ((0 : Int), ((0 : Int), ((0 : Int), ((0 : Int), ((0 : Int), ((0 : Int), ([], ((2 : Int), ())))))))))
          ((ref18_get F a0 (4 : Int)).bind fun r2195 =>
          cond (r2195.1 != (124 : Int))
            (some ((0 : Int), ((0 : Int), ((0 : Int), ((0 : Int), ((0 : Int), ((0 : Int), ([], ((4 : Int), ())))))))))
            ((ref18_get F a0 (76 : Int)).bind fun r2197 =>
            cond (r2197.1 != (32 : Int))
              (some ((0 : Int), ((0 : Int), ((0 : Int), ((0 : Int), ((0 : Int), ((0 : Int), ([], ((4 : Int), ())))))))))
              ((ref18_get F a0 (80 : Int)).bind fun r2199 =>
              cond ((Int.tmod (IntKind.wrap .i64 (Int.tdiv r2199.1 (4 : Int))) (2 : Int)) == (0 : Int))
                (some ((0 : Int), ((0 : Int), ((0 : Int), ((0 : Int), ((0 : Int), ((0 : Int), ([], ((5 : Int), ())))))))))
                ((ref18_get F a0 (12 : Int)).bind fun r2203 =>
                (ref18_get F a0 (16 : Int)).bind fun r2204 =>
                (ref18_get F a0 (112 : Int)).bind fun r2205 =>
                let b2206 : Bool := (decide (88 ≤ (List.length a0)))
                cond b2206
                  (let l2207 : List Int := (List.take 4 (List.drop 84 a0))
                  cond (l2207 == (bytesL (ByteArray.mk (List.toArray [68, 88, 49, 48]))))
                    (cond (decide (v2189 < (148 : Int)))
                      (some ((0 : Int), ((0 : Int), ((0 : Int), ((0 : Int), ((0 : Int), ((0 : Int), ([], ((2 : Int), ())))))))))
                      ((ref18_get F a0 (128 : Int)).bind fun r2210 =>
                      (ref13_Format F r2210.1 (1 : Int)).bind fun r2211 =>
                      cond (r2211.2.1 != (0 : Int))
                        (some ((0 : Int), ((0 : Int), ((0 : Int), ((0 : Int), ((0 : Int), ((0 : Int), ([], (r2211.2.1, ())))))))))
                        ((ref18_get F a0 (132 : Int)).bind fun r2213 =>
                        cond (r2213.1 != (3 : Int))
                          (some ((0 : Int), ((0 : Int), ((0 : Int), ((0 : Int), ((0 : Int), ((0 : Int), ([], ((4 : Int), ())))))))))
                          ((ref18_get F a0 (140 : Int)).bind fun r2215 =>
                          (ref18_get F a0 (136 : Int)).bind fun r2216 =>
                          cond ((Int.tmod (IntKind.wrap .i64 (Int.tdiv r2216.1 (4 : Int))) (2 : Int)) == (1 : Int))
                            (cond ((Int.tmod (IntKind.wrap .i64 (Int.tdiv r2205.1 (2097152 : Int))) (2 : Int)) == (1 : Int))
                              (some ((0 : Int), ((0 : Int), ((0 : Int), ((0 : Int), ((0 : Int), ((0 : Int), ([], ((4 : Int), ())))))))))
                              ((ref18_get F a0 (8 : Int)).bind fun r2223 =>
                              cond ((Int.tmod (IntKind.wrap .i64 (Int.tdiv r2223.1 (131072 : Int))) (2 : Int)) == (1 : Int))
                                ((ref18_get F a0 (28 : Int)).bind fun r2227 =>
                                cond (r2227.1 != (0 : Int))
                                  ((ref18_get F a0 (28 : Int)).bind fun r2229 =>
                                  (ref18_Blocks F r2211.1 r2204.1 r2203.1 r2215.1 (6 : Int) r2229.1 a0 (148 : Int) (a1.1, (a1.2.1, (a1.2.2.1, ()))) (4 : Int)).bind fun r2230 =>
                                  some (r2230.1, (r2230.2.1, (r2230.2.2.1, (r2230.2.2.2.1, (r2230.2.2.2.2.1, (r2230.2.2.2.2.2.1, (r2230.2.2.2.2.2.2.1, (r2230.2.2.2.2.2.2.2.1, ())))))))))
                                  ((ref18_Blocks F r2211.1 r2204.1 r2203.1 r2215.1 (6 : Int) (1 : Int) a0 (148 : Int) (a1.1, (a1.2.1, (a1.2.2.1, ()))) (4 : Int)).bind fun r2231 =>
                                  some (r2231.1, (r2231.2.1, (r2231.2.2.1, (r2231.2.2.2.1, (r2231.2.2.2.2.1, (r2231.2.2.2.2.2.1, (r2231.2.2.2.2.2.2.1, (r2231.2.2.2.2.2.2.2.1, ()))))))))))
                                ((ref18_Blocks F r2211.1 r2204.1 r2203.1 r2215.1 (6 : Int) (1 : Int) a0 (148 : Int) (a1.1, (a1.2.1, (a1.2.2.1, ()))) (4 : Int)).bind fun r2232 =>
                                some (r2232.1, (r2232.2.1, (r2232.2.2.1, (r2232.2.2.2.1, (r2232.2.2.2.2.1, (r2232.2.2.2.2.2.1, (r2232.2.2.2.2.2.2.1, (r2232.2.2.2.2.2.2.2.1, ())))))))))))
                            (cond ((Int.tmod (IntKind.wrap .i64 (Int.tdiv r2205.1 (2097152 : Int))) (2 : Int)) == (1 : Int))
                              (some ((0 : Int), ((0 : Int), ((0 : Int), ((0 : Int), ((0 : Int), ((0 : Int), ([], ((4 : Int), ())))))))))
                              ((ref18_get F a0 (8 : Int)).bind fun r2236 =>
                              cond ((Int.tmod (IntKind.wrap .i64 (Int.tdiv r2236.1 (131072 : Int))) (2 : Int)) == (1 : Int))
                                ((ref18_get F a0 (28 : Int)).bind fun r2240 =>
                                cond (r2240.1 != (0 : Int))
                                  ((ref18_get F a0 (28 : Int)).bind fun r2242 =>
                                  (ref18_Blocks F r2211.1 r2204.1 r2203.1 r2215.1 (1 : Int) r2242.1 a0 (148 : Int) (a1.1, (a1.2.1, (a1.2.2.1, ()))) (4 : Int)).bind fun r2243 =>
                                  some (r2243.1, (r2243.2.1, (r2243.2.2.1, (r2243.2.2.2.1, (r2243.2.2.2.2.1, (r2243.2.2.2.2.2.1, (r2243.2.2.2.2.2.2.1, (r2243.2.2.2.2.2.2.2.1, ())))))))))
                                  ((ref18_Blocks F r2211.1 r2204.1 r2203.1 r2215.1 (1 : Int) (1 : Int) a0 (148 : Int) (a1.1, (a1.2.1, (a1.2.2.1, ()))) (4 : Int)).bind fun r2244 =>
                                  some (r2244.1, (r2244.2.1, (r2244.2.2.1, (r2244.2.2.2.1, (r2244.2.2.2.2.1, (r2244.2.2.2.2.2.1, (r2244.2.2.2.2.2.2.1, (r2244.2.2.2.2.2.2.2.1, ()))))))))))
                                ((ref18_Blocks F r2211.1 r2204.1 r2203.1 r2215.1 (1 : Int) (1 : Int) a0 (148 : Int) (a1.1, (a1.2.1, (a1.2.2.1, ()))) (4 : Int)).bind fun r2245 =>
                                some (r2245.1, (r2245.2.1, (r2245.2.2.1, (r2245.2.2.2.1, (r2245.2.2.2.2.1, (r2245.2.2.2.2.2.1, (r2245.2.2.2.2.2.2.1, (r2245.2.2.2.2.2.2.2.1, ())))))))))))))))
                    (cond b2206
                      ((ref13_Letters F l2207).bind fun r2246 =>
                      cond (r2246.2.1 != (0 : Int))
                        (some ((0 : Int), ((0 : Int), ((0 : Int), ((0 : Int), ((0 : Int), ((0 : Int), ([], (r2246.2.1, ())))))))))
                        (cond ((Int.tmod (IntKind.wrap .i64 (Int.tdiv r2205.1 (512 : Int))) (2 : Int)) == (1 : Int))
                          (cond ((Int.tmod (IntKind.wrap .i64 (Int.tdiv r2205.1 (1024 : Int))) (64 : Int)) != (63 : Int))
                            (some ((0 : Int), ((0 : Int), ((0 : Int), ((0 : Int), ((0 : Int), ((0 : Int), ([], ((4 : Int), ())))))))))
                            (cond ((Int.tmod (IntKind.wrap .i64 (Int.tdiv r2205.1 (2097152 : Int))) (2 : Int)) == (1 : Int))
                              (some ((0 : Int), ((0 : Int), ((0 : Int), ((0 : Int), ((0 : Int), ((0 : Int), ([], ((4 : Int), ())))))))))
                              ((ref18_get F a0 (8 : Int)).bind fun r2257 =>
                              cond ((Int.tmod (IntKind.wrap .i64 (Int.tdiv r2257.1 (131072 : Int))) (2 : Int)) == (1 : Int))
                                ((ref18_get F a0 (28 : Int)).bind fun r2261 =>
                                cond (r2261.1 != (0 : Int))
                                  ((ref18_get F a0 (28 : Int)).bind fun r2263 =>
                                  (ref18_Blocks F r2246.1 r2204.1 r2203.1 (1 : Int) (6 : Int) r2263.1 a0 (128 : Int) (a1.1, (a1.2.1, (a1.2.2.1, ()))) (4 : Int)).bind fun r2264 =>
                                  some (r2264.1, (r2264.2.1, (r2264.2.2.1, (r2264.2.2.2.1, (r2264.2.2.2.2.1, (r2264.2.2.2.2.2.1, (r2264.2.2.2.2.2.2.1, (r2264.2.2.2.2.2.2.2.1, ())))))))))
                                  ((ref18_Blocks F r2246.1 r2204.1 r2203.1 (1 : Int) (6 : Int) (1 : Int) a0 (128 : Int) (a1.1, (a1.2.1, (a1.2.2.1, ()))) (4 : Int)).bind fun r2265 =>
                                  some (r2265.1, (r2265.2.1, (r2265.2.2.1, (r2265.2.2.2.1, (r2265.2.2.2.2.1, (r2265.2.2.2.2.2.1, (r2265.2.2.2.2.2.2.1, (r2265.2.2.2.2.2.2.2.1, ()))))))))))
                                ((ref18_Blocks F r2246.1 r2204.1 r2203.1 (1 : Int) (6 : Int) (1 : Int) a0 (128 : Int) (a1.1, (a1.2.1, (a1.2.2.1, ()))) (4 : Int)).bind fun r2266 =>
                                some (r2266.1, (r2266.2.1, (r2266.2.2.1, (r2266.2.2.2.1, (r2266.2.2.2.2.1, (r2266.2.2.2.2.2.1, (r2266.2.2.2.2.2.2.1, (r2266.2.2.2.2.2.2.2.1, ()))))))))))))
                          (cond ((Int.tmod (IntKind.wrap .i64 (Int.tdiv r2205.1 (2097152 : Int))) (2 : Int)) == (1 : Int))
                            (some ((0 : Int), ((0 : Int), ((0 : Int), ((0 : Int), ((0 : Int), ((0 : Int), ([], ((4 : Int), ())))))))))
                            ((ref18_get F a0 (8 : Int)).bind fun r2270 =>
                            cond ((Int.tmod (IntKind.wrap .i64 (Int.tdiv r2270.1 (131072 : Int))) (2 : Int)) == (1 : Int))
                              ((ref18_get F a0 (28 : Int)).bind fun r2274 =>
                              cond (r2274.1 != (0 : Int))
                                ((ref18_get F a0 (28 : Int)).bind fun r2276 =>
                                (ref18_Blocks F r2246.1 r2204.1 r2203.1 (1 : Int) (1 : Int) r2276.1 a0 (128 : Int) (a1.1, (a1.2.1, (a1.2.2.1, ()))) (4 : Int)).bind fun r2277 =>
                                some (r2277.1, (r2277.2.1, (r2277.2.2.1, (r2277.2.2.2.1, (r2277.2.2.2.2.1, (r2277.2.2.2.2.2.1, (r2277.2.2.2.2.2.2.1, (r2277.2.2.2.2.2.2.2.1, ())))))))))
                                ((ref18_Blocks F r2246.1 r2204.1 r2203.1 (1 : Int) (1 : Int) (1 : Int) a0 (128 : Int) (a1.1, (a1.2.1, (a1.2.2.1, ()))) (4 : Int)).bind fun r2278 =>
                                some (r2278.1, (r2278.2.1, (r2278.2.2.1, (r2278.2.2.2.1, (r2278.2.2.2.2.1, (r2278.2.2.2.2.2.1, (r2278.2.2.2.2.2.2.1, (r2278.2.2.2.2.2.2.2.1, ()))))))))))
                              ((ref18_Blocks F r2246.1 r2204.1 r2203.1 (1 : Int) (1 : Int) (1 : Int) a0 (128 : Int) (a1.1, (a1.2.1, (a1.2.2.1, ()))) (4 : Int)).bind fun r2279 =>
                              some (r2279.1, (r2279.2.1, (r2279.2.2.1, (r2279.2.2.2.1, (r2279.2.2.2.2.1, (r2279.2.2.2.2.2.1, (r2279.2.2.2.2.2.2.1, (r2279.2.2.2.2.2.2.2.1, ())))))))))))))
                      (none)))
                  (none)))))))
      (none))
def ref18_All (F : Nat) : Option ((Int × (Int × (Int × Unit))) × Unit) :=
  some (((2147483647 : Int), ((2147483647 : Int), ((2147483647 : Int), ()))), ())
def ref18_WriteT2770 : List Int := [4, 8, 12, 16, 20, 28, 76, 80, 108, 112, 128, 132, 136, 140]
def ref01_Put_l0S (F : Nat) (rec : List Int → Int → Int → Bool → Int → Int → Int → Option (List Int × (Int × (Int × (Bool × (Int × (Int × Unit))))))) (x0 : List Int) (x1 : Int) (x2 : Int) (x3 : Bool) (x4 : Int) (x5 : Int) (x6 : Int) : Option (List Int × (Int × (Int × (Bool × (Int × (Int × Unit)))))) :=
  cond (decide (x6 < x2))
    (rec x0 x1 x2 x3 x4 (IntKind.wrap .i64 (x5 * (256 : Int))) (IntKind.wrap .i64 (x6 + (1 : Int))))
    (some (x0, (x1, (x2, (x3, (x4, (x5, ())))))))
def ref01_Put_l0 (F : Nat) : Nat → List Int → Int → Int → Bool → Int → Int → Int → Option (List Int × (Int × (Int × (Bool × (Int × (Int × Unit))))))
  | 0, _, _, _, _, _, _, _ => none
  | k + 1, x0, x1, x2, x3, x4, x5, x6 => ref01_Put_l0S F (ref01_Put_l0 F k) x0 x1 x2 x3 x4 x5 x6
def ref01_Put_l2S (F : Nat) (rec : Int → Int → Bool → Int → List Int → Int → Option (List Int × Unit)) (x0 : Int) (x1 : Int) (x2 : Bool) (x3 : Int) (x4 : List Int) (x5 : Int) : Option (List Int × Unit) :=
  cond (decide (x5 < x1))
    (let v2923 : Int := (IntKind.wrap .i64 (x0 + x5))
    cond x2
      (let v2926 : Int := (IntKind.wrap .i64 ((IntKind.wrap .i64 ((IntKind.wrap .i64 (x0 + x1)) - (1 : Int))) - x5))
      cond ((decide ((0 : Int) ≤ v2926)) && (decide (v2926 < (((List.length x4) : Nat) : Int))))
        (rec x0 x1 x2 (IntKind.wrap .i64 (Int.tdiv x3 (256 : Int))) (List.set x4 (Int.toNat v2926) (IntKind.wrap .u8 (Int.tmod x3 (256 : Int)))) (IntKind.wrap .i64 (x5 + (1 : Int))))
        (none))
      (cond ((decide ((0 : Int) ≤ v2923)) && (decide (v2923 < (((List.length x4) : Nat) : Int))))
        (rec x0 x1 x2 (IntKind.wrap .i64 (Int.tdiv x3 (256 : Int))) (List.set x4 (Int.toNat v2923) (IntKind.wrap .u8 (Int.tmod x3 (256 : Int)))) (IntKind.wrap .i64 (x5 + (1 : Int))))
        (none)))
    (some (x4, ()))
def ref01_Put_l2 (F : Nat) : Nat → Int → Int → Bool → Int → List Int → Int → Option (List Int × Unit)
  | 0, _, _, _, _, _, _ => none
  | k + 1, x0, x1, x2, x3, x4, x5 => ref01_Put_l2S F (ref01_Put_l2 F k) x0 x1 x2 x3 x4 x5
def ref01_Put (F : Nat) (a0 : List Int) (a1 : Int) (a2 : Int) (a3 : Bool) (a4 : Int) : Option (List Int × (Int × Unit)) :=
  (ref01_Get F a0 a1 a2 a3).bind fun r2864 =>
  cond (r2864.2.1 != (0 : Int))
    (some ([], (r2864.2.1, ())))
    ((ref01_Put_l0 F F a0 a1 a2 a3 a4 (1 : Int) (0 : Int)).bind fun r2876 =>
    let n2877 : Nat := (List.length r2876.1)
    let b2878 : Bool := (decide (r2876.2.2.2.2.1 < (0 : Int)))
    cond b2878
      (some ([], ((10 : Int), ())))
      (let b2879 : Bool := (decide (r2876.2.2.2.2.2.1 ≤ r2876.2.2.2.2.1))
      cond b2879
        (some ([], ((10 : Int), ())))
        (cond ((decide ((0 + n2877) ≤ 1099511627776)) && true)
          ((ref01_Put_l2 F F r2876.2.1 r2876.2.2.1 r2876.2.2.2.1 r2876.2.2.2.2.1 ([] ++ r2876.1) (0 : Int)).bind fun r2941 =>
          some (r2941.1, ((0 : Int), ())))
          (none))))
def ref18_put (F : Nat) (a0 : List Int) (a1 : Int) (a2 : Int) : Option (List Int × Unit) :=
  (ref01_Put F a0 a1 (4 : Int) false a2).bind fun r2946 =>
  some (r2946.1, ())
def ref18_Write_l0S (F : Nat) (rec : Int → Int → Int → Int → Int → Int → List (List Int) → List (List Int × List Int) → List Int → List Int → List Int → Int → Option (Int × (Int × (Int × (Int × (Int × (Int × (List (List Int) × (List (List Int × List Int) × (List Int × Unit)))))))))) (x0 : Int) (x1 : Int) (x2 : Int) (x3 : Int) (x4 : Int) (x5 : Int) (x6 : List (List Int)) (x7 : List (List Int × List Int)) (x8 : List Int) (x9 : List Int) (x10 : List Int) (x11 : Int) : Option (Int × (Int × (Int × (Int × (Int × (Int × (List (List Int) × (List (List Int × List Int) × (List Int × Unit))))))))) :=
  let v3502 : Int := (((List.length x9) : Nat) : Int)
  cond (decide (x11 < v3502))
    (cond ((decide ((0 : Int) ≤ x11)) && (decide (x11 < (((List.length x9) : Nat) : Int))))
      (cond ((decide ((0 : Int) ≤ x11)) && (decide (x11 < (((List.length x10) : Nat) : Int))))
        ((ref18_put F x8 (List.getD x9 (Int.toNat x11) (0 : Int)) (List.getD x10 (Int.toNat x11) (0 : Int))).bind fun r3509 =>
        rec x0 x1 x2 x3 x4 x5 x6 x7 r3509.1 x9 x10 (IntKind.wrap .i64 (x11 + (1 : Int))))
        (none))
      (none))
    (some (x0, (x1, (x2, (x3, (x4, (x5, (x6, (x7, (x8, ()))))))))))
def ref18_Write_l0 (F : Nat) : Nat → Int → Int → Int → Int → Int → Int → List (List Int) → List (List Int × List Int) → List Int → List Int → List Int → Int → Option (Int × (Int × (Int × (Int × (Int × (Int × (List (List Int) × (List (List Int × List Int) × (List Int × Unit)))))))))
  | 0, _, _, _, _, _, _, _, _, _, _, _, _ => none
  | k + 1, x0, x1, x2, x3, x4, x5, x6, x7, x8, x9, x10, x11 => ref18_Write_l0S F (ref18_Write_l0 F k) x0 x1 x2 x3 x4 x5 x6 x7 x8 x9 x10 x11
def ref18_Write_l2S (F : Nat) (rec : Int → Int → Int → Int → Int → Int → List (List Int) → List (List Int × List Int) → List Int → Int → Option (Int × (Int × (Int × (Int × (Int × (Int × (List (List Int) × (List (List Int × List Int) × (List Int × Unit)))))))))) (x0 : Int) (x1 : Int) (x2 : Int) (x3 : Int) (x4 : Int) (x5 : Int) (x6 : List (List Int)) (x7 : List (List Int × List Int)) (x8 : List Int) (x9 : Int) : Option (Int × (Int × (Int × (Int × (Int × (Int × (List (List Int) × (List (List Int × List Int) × (List Int × Unit))))))))) :=
  cond (decide (x9 < (4 : Int)))
    (let v3528 : Int := (IntKind.wrap .i64 ((84 : Int) + x9))
    cond ((decide ((0 : Int) ≤ x9)) && (decide (x9 < (4 : Int))))
      (cond ((decide ((0 : Int) ≤ v3528)) && (decide (v3528 < (((List.length x8) : Nat) : Int))))
        (rec x0 x1 x2 x3 x4 x5 x6 x7 (List.set x8 (Int.toNat v3528) (List.getD [(68 : Int), (88 : Int), (49 : Int), (48 : Int)] (Int.toNat x9) (0 : Int))) (IntKind.wrap .i64 (x9 + (1 : Int))))
        (none))
      (none))
    (some (x0, (x1, (x2, (x3, (x4, (x5, (x6, (x7, (x8, ()))))))))))
def ref18_Write_l2 (F : Nat) : Nat → Int → Int → Int → Int → Int → Int → List (List Int) → List (List Int × List Int) → List Int → Int → Option (Int × (Int × (Int × (Int × (Int × (Int × (List (List Int) × (List (List Int × List Int) × (List Int × Unit)))))))))
  | 0, _, _, _, _, _, _, _, _, _, _ => none
  | k + 1, x0, x1, x2, x3, x4, x5, x6, x7, x8, x9 => ref18_Write_l2S F (ref18_Write_l2 F k) x0 x1 x2 x3 x4 x5 x6 x7 x8 x9
def ref18_Write_l4S (F : Nat) (rec : Int → Int → Int → Int → Int → Int → List (List Int) → List (List Int × List Int) → List Int → Int → Option (List Int × Unit)) (x0 : Int) (x1 : Int) (x2 : Int) (x3 : Int) (x4 : Int) (x5 : Int) (x6 : List (List Int)) (x7 : List (List Int × List Int)) (x8 : List Int) (x9 : Int) : Option (List Int × Unit) :=
  let v3555 : Int := (((List.length x6) : Nat) : Int)
  cond (decide (x9 < v3555))
    (cond ((decide ((0 : Int) ≤ x9)) && (decide (x9 < (((List.length x6) : Nat) : Int))))
      (let l3558 : List Int := (List.getD x6 (Int.toNat x9) [])
      cond ((decide (((List.length x8) + (List.length l3558)) ≤ 1099511627776)) && true)
        (rec x0 x1 x2 x3 x4 x5 x6 x7 (x8 ++ l3558) (IntKind.wrap .i64 (x9 + (1 : Int))))
        (none))
      (none))
    (some (x8, ()))
def ref18_Write_l4 (F : Nat) : Nat → Int → Int → Int → Int → Int → Int → List (List Int) → List (List Int × List Int) → List Int → Int → Option (List Int × Unit)
  | 0, _, _, _, _, _, _, _, _, _, _ => none
  | k + 1, x0, x1, x2, x3, x4, x5, x6, x7, x8, x9 => ref18_Write_l4S F (ref18_Write_l4 F k) x0 x1 x2 x3 x4 x5 x6 x7 x8 x9
def ref18_Write (F : Nat) (a0 : (Int × (Int × (Int × (Int × (Int × (Int × (List (List Int) × (List (List Int × List Int) × Unit))))))))) : Option (List Int × (Int × Unit)) :=
  (ref18_All F).bind fun r3464 =>
  (ref17_Check F (a0.1, (a0.2.1, (a0.2.2.1, (a0.2.2.2.1, (a0.2.2.2.2.1, (a0.2.2.2.2.2.1, (a0.2.2.2.2.2.2.1, (a0.2.2.2.2.2.2.2.1, ())))))))) (r3464.1.1, (r3464.1.2.1, (r3464.1.2.2.1, ())))).bind fun r3465 =>
  cond (r3465.1 != (0 : Int))
    (some ([], (r3465.1, ())))
    ((ref13_Code F a0.1 (1 : Int)).bind fun r3467 =>
    cond (r3467.2.1 != (0 : Int))
      (some ([], (r3467.2.1, ())))
      ((ref17_Sizes F a0.1 a0.2.1 a0.2.2.1 a0.2.2.2.2.2.1).bind fun r3469 =>
      let n3470 : Nat := (List.length r3469.1)
      let b3471 : Bool := (decide ((1 : Int) < a0.2.2.2.2.2.1))
      cond b3471
        (cond b3471
          (cond (a0.2.2.2.2.1 == (6 : Int))
            (cond (decide ((0 : Int) < ((n3470 : Nat) : Int)))
              ((ref18_Write_l0 F F a0.1 a0.2.1 a0.2.2.1 a0.2.2.2.1 a0.2.2.2.2.1 a0.2.2.2.2.2.1 a0.2.2.2.2.2.2.1 a0.2.2.2.2.2.2.2.1 dds_WriteT274 ref18_WriteT2770 [(124 : Int), (659463 : Int), a0.2.2.1, a0.2.1, (List.getD r3469.1 0 (0 : Int)), a0.2.2.2.2.2.1, (32 : Int), (4 : Int), (4198408 : Int), (65024 : Int), r3467.1, (3 : Int), (4 : Int), a0.2.2.2.1] (0 : Int)).bind fun r3512 =>
              (ref18_Write_l2 F F r3512.1 r3512.2.1 r3512.2.2.1 r3512.2.2.2.1 r3512.2.2.2.2.1 r3512.2.2.2.2.2.1 r3512.2.2.2.2.2.2.1 r3512.2.2.2.2.2.2.2.1 r3512.2.2.2.2.2.2.2.2.1 (0 : Int)).bind fun r3535 =>
              (ref18_Write_l4 F F r3535.1 r3535.2.1 r3535.2.2.1 r3535.2.2.2.1 r3535.2.2.2.2.1 r3535.2.2.2.2.2.1 r3535.2.2.2.2.2.2.1 r3535.2.2.2.2.2.2.2.1 r3535.2.2.2.2.2.2.2.2.1 (0 : Int)).bind fun r3563 =>
              some (r3563.1, ((0 : Int), ())))
              (none))
            (cond (decide ((0 : Int) < ((n3470 : Nat) : Int)))
              ((ref18_Write_l0 F F a0.1 a0.2.1 a0.2.2.1 a0.2.2.2.1 a0.2.2.2.2.1 a0.2.2.2.2.2.1 a0.2.2.2.2.2.2.1 a0.2.2.2.2.2.2.2.1 dds_WriteT274 ref18_WriteT2770 [(124 : Int), (659463 : Int), a0.2.2.1, a0.2.1, (List.getD r3469.1 0 (0 : Int)), a0.2.2.2.2.2.1, (32 : Int), (4 : Int), (4198408 : Int), (0 : Int), r3467.1, (3 : Int), (0 : Int), a0.2.2.2.1] (0 : Int)).bind fun r3580 =>
              (ref18_Write_l2 F F r3580.1 r3580.2.1 r3580.2.2.1 r3580.2.2.2.1 r3580.2.2.2.2.1 r3580.2.2.2.2.2.1 r3580.2.2.2.2.2.2.1 r3580.2.2.2.2.2.2.2.1 r3580.2.2.2.2.2.2.2.2.1 (0 : Int)).bind fun r3591 =>
              (ref18_Write_l4 F F r3591.1 r3591.2.1 r3591.2.2.1 r3591.2.2.2.1 r3591.2.2.2.2.1 r3591.2.2.2.2.2.1 r3591.2.2.2.2.2.2.1 r3591.2.2.2.2.2.2.2.1 r3591.2.2.2.2.2.2.2.2.1 (0 : Int)).bind fun r3602 =>
              some (r3602.1, ((0 : Int), ())))
              (none)))
          (cond (a0.2.2.2.2.1 == (6 : Int))
            (cond (decide ((0 : Int) < ((n3470 : Nat) : Int)))
              ((ref18_Write_l0 F F a0.1 a0.2.1 a0.2.2.1 a0.2.2.2.1 a0.2.2.2.2.1 a0.2.2.2.2.2.1 a0.2.2.2.2.2.2.1 a0.2.2.2.2.2.2.2.1 dds_WriteT274 ref18_WriteT2770 [(124 : Int), (659463 : Int), a0.2.2.1, a0.2.1, (List.getD r3469.1 0 (0 : Int)), a0.2.2.2.2.2.1, (32 : Int), (4 : Int), (4104 : Int), (65024 : Int), r3467.1, (3 : Int), (4 : Int), a0.2.2.2.1] (0 : Int)).bind fun r3620 =>
              (ref18_Write_l2 F F r3620.1 r3620.2.1 r3620.2.2.1 r3620.2.2.2.1 r3620.2.2.2.2.1 r3620.2.2.2.2.2.1 r3620.2.2.2.2.2.2.1 r3620.2.2.2.2.2.2.2.1 r3620.2.2.2.2.2.2.2.2.1 (0 : Int)).bind fun r3631 =>
              (ref18_Write_l4 F F r3631.1 r3631.2.1 r3631.2.2.1 r3631.2.2.2.1 r3631.2.2.2.2.1 r3631.2.2.2.2.2.1 r3631.2.2.2.2.2.2.1 r3631.2.2.2.2.2.2.2.1 r3631.2.2.2.2.2.2.2.2.1 (0 : Int)).bind fun r3642 =>
              some (r3642.1, ((0 : Int), ())))
              (none))
            (cond (decide ((0 : Int) < ((n3470 : Nat) : Int)))
              ((ref18_Write_l0 F F a0.1 a0.2.1 a0.2.2.1 a0.2.2.2.1 a0.2.2.2.2.1 a0.2.2.2.2.2.1 a0.2.2.2.2.2.2.1 a0.2.2.2.2.2.2.2.1 dds_WriteT274 ref18_WriteT2770 [(124 : Int), (659463 : Int), a0.2.2.1, a0.2.1, (List.getD r3469.1 0 (0 : Int)), a0.2.2.2.2.2.1, (32 : Int), (4 : Int), (4104 : Int), (0 : Int), r3467.1, (3 : Int), (0 : Int), a0.2.2.2.1] (0 : Int)).bind fun r3659 =>
              (ref18_Write_l2 F F r3659.1 r3659.2.1 r3659.2.2.1 r3659.2.2.2.1 r3659.2.2.2.2.1 r3659.2.2.2.2.2.1 r3659.2.2.2.2.2.2.1 r3659.2.2.2.2.2.2.2.1 r3659.2.2.2.2.2.2.2.2.1 (0 : Int)).bind fun r3670 =>
              (ref18_Write_l4 F F r3670.1 r3670.2.1 r3670.2.2.1 r3670.2.2.2.1 r3670.2.2.2.2.1 r3670.2.2.2.2.2.1 r3670.2.2.2.2.2.2.1 r3670.2.2.2.2.2.2.2.1 r3670.2.2.2.2.2.2.2.2.1 (0 : Int)).bind fun r3681 =>
              some (r3681.1, ((0 : Int), ())))
              (none))))
        (cond (decide ((1 : Int) < a0.2.2.2.2.1))
          (cond b3471
            (cond (a0.2.2.2.2.1 == (6 : Int))
              (cond (decide ((0 : Int) < ((n3470 : Nat) : Int)))
                ((ref18_Write_l0 F F a0.1 a0.2.1 a0.2.2.1 a0.2.2.2.1 a0.2.2.2.2.1 a0.2.2.2.2.2.1 a0.2.2.2.2.2.2.1 a0.2.2.2.2.2.2.2.1 dds_WriteT274 ref18_WriteT2770 [(124 : Int), (659463 : Int), a0.2.2.1, a0.2.1, (List.getD r3469.1 0 (0 : Int)), a0.2.2.2.2.2.1, (32 : Int), (4 : Int), (4198408 : Int), (65024 : Int), r3467.1, (3 : Int), (4 : Int), a0.2.2.2.1] (0 : Int)).bind fun r3700 =>
                (ref18_Write_l2 F F r3700.1 r3700.2.1 r3700.2.2.1 r3700.2.2.2.1 r3700.2.2.2.2.1 r3700.2.2.2.2.2.1 r3700.2.2.2.2.2.2.1 r3700.2.2.2.2.2.2.2.1 r3700.2.2.2.2.2.2.2.2.1 (0 : Int)).bind fun r3711 =>
                (ref18_Write_l4 F F r3711.1 r3711.2.1 r3711.2.2.1 r3711.2.2.2.1 r3711.2.2.2.2.1 r3711.2.2.2.2.2.1 r3711.2.2.2.2.2.2.1 r3711.2.2.2.2.2.2.2.1 r3711.2.2.2.2.2.2.2.2.1 (0 : Int)).bind fun r3722 =>
                some (r3722.1, ((0 : Int), ())))
                (none))
              (cond (decide ((0 : Int) < ((n3470 : Nat) : Int)))
                ((ref18_Write_l0 F F a0.1 a0.2.1 a0.2.2.1 a0.2.2.2.1 a0.2.2.2.2.1 a0.2.2.2.2.2.1 a0.2.2.2.2.2.2.1 a0.2.2.2.2.2.2.2.1 dds_WriteT274 ref18_WriteT2770 [(124 : Int), (659463 : Int), a0.2.2.1, a0.2.1, (List.getD r3469.1 0 (0 : Int)), a0.2.2.2.2.2.1, (32 : Int), (4 : Int), (4198408 : Int), (0 : Int), r3467.1, (3 : Int), (0 : Int), a0.2.2.2.1] (0 : Int)).bind fun r3739 =>
                (ref18_Write_l2 F F r3739.1 r3739.2.1 r3739.2.2.1 r3739.2.2.2.1 r3739.2.2.2.2.1 r3739.2.2.2.2.2.1 r3739.2.2.2.2.2.2.1 r3739.2.2.2.2.2.2.2.1 r3739.2.2.2.2.2.2.2.2.1 (0 : Int)).bind fun r3750 =>
                (ref18_Write_l4 F F r3750.1 r3750.2.1 r3750.2.2.1 r3750.2.2.2.1 r3750.2.2.2.2.1 r3750.2.2.2.2.2.1 r3750.2.2.2.2.2.2.1 r3750.2.2.2.2.2.2.2.1 r3750.2.2.2.2.2.2.2.2.1 (0 : Int)).bind fun r3761 =>
                some (r3761.1, ((0 : Int), ())))
                (none)))
            (cond (a0.2.2.2.2.1 == (6 : Int))
              (cond (decide ((0 : Int) < ((n3470 : Nat) : Int)))
                ((ref18_Write_l0 F F a0.1 a0.2.1 a0.2.2.1 a0.2.2.2.1 a0.2.2.2.2.1 a0.2.2.2.2.2.1 a0.2.2.2.2.2.2.1 a0.2.2.2.2.2.2.2.1 dds_WriteT274 ref18_WriteT2770 [(124 : Int), (659463 : Int), a0.2.2.1, a0.2.1, (List.getD r3469.1 0 (0 : Int)), a0.2.2.2.2.2.1, (32 : Int), (4 : Int), (4104 : Int), (65024 : Int), r3467.1, (3 : Int), (4 : Int), a0.2.2.2.1] (0 : Int)).bind fun r3779 =>
                (ref18_Write_l2 F F r3779.1 r3779.2.1 r3779.2.2.1 r3779.2.2.2.1 r3779.2.2.2.2.1 r3779.2.2.2.2.2.1 r3779.2.2.2.2.2.2.1 r3779.2.2.2.2.2.2.2.1 r3779.2.2.2.2.2.2.2.2.1 (0 : Int)).bind fun r3790 =>
                (ref18_Write_l4 F F r3790.1 r3790.2.1 r3790.2.2.1 r3790.2.2.2.1 r3790.2.2.2.2.1 r3790.2.2.2.2.2.1 r3790.2.2.2.2.2.2.1 r3790.2.2.2.2.2.2.2.1 r3790.2.2.2.2.2.2.2.2.1 (0 : Int)).bind fun r3801 =>
                some (r3801.1, ((0 : Int), ())))
                (none))
              (cond (decide ((0 : Int) < ((n3470 : Nat) : Int)))
                ((ref18_Write_l0 F F a0.1 a0.2.1 a0.2.2.1 a0.2.2.2.1 a0.2.2.2.2.1 a0.2.2.2.2.2.1 a0.2.2.2.2.2.2.1 a0.2.2.2.2.2.2.2.1 dds_WriteT274 ref18_WriteT2770 [(124 : Int), (659463 : Int), a0.2.2.1, a0.2.1, (List.getD r3469.1 0 (0 : Int)), a0.2.2.2.2.2.1, (32 : Int), (4 : Int), (4104 : Int), (0 : Int), r3467.1, (3 : Int), (0 : Int), a0.2.2.2.1] (0 : Int)).bind fun r3818 =>
                (ref18_Write_l2 F F r3818.1 r3818.2.1 r3818.2.2.1 r3818.2.2.2.1 r3818.2.2.2.2.1 r3818.2.2.2.2.2.1 r3818.2.2.2.2.2.2.1 r3818.2.2.2.2.2.2.2.1 r3818.2.2.2.2.2.2.2.2.1 (0 : Int)).bind fun r3829 =>
                (ref18_Write_l4 F F r3829.1 r3829.2.1 r3829.2.2.1 r3829.2.2.2.1 r3829.2.2.2.2.1 r3829.2.2.2.2.2.1 r3829.2.2.2.2.2.2.1 r3829.2.2.2.2.2.2.2.1 r3829.2.2.2.2.2.2.2.2.1 (0 : Int)).bind fun r3840 =>
                some (r3840.1, ((0 : Int), ())))
                (none))))
          (cond b3471
            (cond (a0.2.2.2.2.1 == (6 : Int))
              (cond (decide ((0 : Int) < ((n3470 : Nat) : Int)))
                ((ref18_Write_l0 F F a0.1 a0.2.1 a0.2.2.1 a0.2.2.2.1 a0.2.2.2.2.1 a0.2.2.2.2.2.1 a0.2.2.2.2.2.2.1 a0.2.2.2.2.2.2.2.1 dds_WriteT274 ref18_WriteT2770 [(124 : Int), (659463 : Int), a0.2.2.1, a0.2.1, (List.getD r3469.1 0 (0 : Int)), a0.2.2.2.2.2.1, (32 : Int), (4 : Int), (4198400 : Int), (65024 : Int), r3467.1, (3 : Int), (4 : Int), a0.2.2.2.1] (0 : Int)).bind fun r3858 =>
                (ref18_Write_l2 F F r3858.1 r3858.2.1 r3858.2.2.1 r3858.2.2.2.1 r3858.2.2.2.2.1 r3858.2.2.2.2.2.1 r3858.2.2.2.2.2.2.1 r3858.2.2.2.2.2.2.2.1 r3858.2.2.2.2.2.2.2.2.1 (0 : Int)).bind fun r3869 =>
                (ref18_Write_l4 F F r3869.1 r3869.2.1 r3869.2.2.1 r3869.2.2.2.1 r3869.2.2.2.2.1 r3869.2.2.2.2.2.1 r3869.2.2.2.2.2.2.1 r3869.2.2.2.2.2.2.2.1 r3869.2.2.2.2.2.2.2.2.1 (0 : Int)).bind fun r3880 =>
                some (r3880.1, ((0 : Int), ())))
                (none))
              (cond (decide ((0 : Int) < ((n3470 : Nat) : Int)))
                ((ref18_Write_l0 F F a0.1 a0.2.1 a0.2.2.1 a0.2.2.2.1 a0.2.2.2.2.1 a0.2.2.2.2.2.1 a0.2.2.2.2.2.2.1 a0.2.2.2.2.2.2.2.1 dds_WriteT274 ref18_WriteT2770 [(124 : Int), (659463 : Int), a0.2.2.1, a0.2.1, (List.getD r3469.1 0 (0 : Int)), a0.2.2.2.2.2.1, (32 : Int), (4 : Int), (4198400 : Int), (0 : Int), r3467.1, (3 : Int), (0 : Int), a0.2.2.2.1] (0 : Int)).bind fun r3897 =>
                (ref18_Write_l2 F F r3897.1 r3897.2.1 r3897.2.2.1 r3897.2.2.2.1 r3897.2.2.2.2.1 r3897.2.2.2.2.2.1 r3897.2.2.2.2.2.2.1 r3897.2.2.2.2.2.2.2.1 r3897.2.2.2.2.2.2.2.2.1 (0 : Int)).bind fun r3908 =>
                (ref18_Write_l4 F F r3908.1 r3908.2.1 r3908.2.2.1 r3908.2.2.2.1 r3908.2.2.2.2.1 r3908.2.2.2.2.2.1 r3908.2.2.2.2.2.2.1 r3908.2.2.2.2.2.2.2.1 r3908.2.2.2.2.2.2.2.2.1 (0 : Int)).bind fun r3919 =>
                some (r3919.1, ((0 : Int), ())))
                (none)))
            (cond (a0.2.2.2.2.1 == (6 : Int))
              (cond (decide ((0 : Int) < ((n3470 : Nat) : Int)))
                ((ref18_Write_l0 F F a0.1 a0.2.1 a0.2.2.1 a0.2.2.2.1 a0.2.2.2.2.1 a0.2.2.2.2.2.1 a0.2.2.2.2.2.2.1 a0.2.2.2.2.2.2.2.1 dds_WriteT274 ref18_WriteT2770 [(124 : Int), (659463 : Int), a0.2.2.1, a0.2.1, (List.getD r3469.1 0 (0 : Int)), a0.2.2.2.2.2.1, (32 : Int), (4 : Int), (4096 : Int), (65024 : Int), r3467.1, (3 : Int), (4 : Int), a0.2.2.2.1] (0 : Int)).bind fun r3937 =>
                (ref18_Write_l2 F F r3937.1 r3937.2.1 r3937.2.2.1 r3937.2.2.2.1 r3937.2.2.2.2.1 r3937.2.2.2.2.2.1 r3937.2.2.2.2.2.2.1 r3937.2.2.2.2.2.2.2.1 r3937.2.2.2.2.2.2.2.2.1 (0 : Int)).bind fun r3948 =>
                (ref18_Write_l4 F F r3948.1 r3948.2.1 r3948.2.2.1 r3948.2.2.2.1 r3948.2.2.2.2.1 r3948.2.2.2.2.2.1 r3948.2.2.2.2.2.2.1 r3948.2.2.2.2.2.2.2.1 r3948.2.2.2.2.2.2.2.2.1 (0 : Int)).bind fun r3959 =>
                some (r3959.1, ((0 : Int), ())))
                (none))
              (cond (decide ((0 : Int) < ((n3470 : Nat) : Int)))
                ((ref18_Write_l0 F F a0.1 a0.2.1 a0.2.2.1 a0.2.2.2.1 a0.2.2.2.2.1 a0.2.2.2.2.2.1 a0.2.2.2.2.2.2.1 a0.2.2.2.2.2.2.2.1 dds_WriteT274 ref18_WriteT2770 [(124 : Int), (659463 : Int), a0.2.2.1, a0.2.1, (List.getD r3469.1 0 (0 : Int)), a0.2.2.2.2.2.1, (32 : Int), (4 : Int), (4096 : Int), (0 : Int), r3467.1, (3 : Int), (0 : Int), a0.2.2.2.1] (0 : Int)).bind fun r3976 =>
                (ref18_Write_l2 F F r3976.1 r3976.2.1 r3976.2.2.1 r3976.2.2.2.1 r3976.2.2.2.2.1 r3976.2.2.2.2.2.1 r3976.2.2.2.2.2.2.1 r3976.2.2.2.2.2.2.2.1 r3976.2.2.2.2.2.2.2.2.1 (0 : Int)).bind fun r3987 =>
                (ref18_Write_l4 F F r3987.1 r3987.2.1 r3987.2.2.1 r3987.2.2.2.1 r3987.2.2.2.2.1 r3987.2.2.2.2.2.1 r3987.2.2.2.2.2.2.1 r3987.2.2.2.2.2.2.2.1 r3987.2.2.2.2.2.2.2.2.1 (0 : Int)).bind fun r3998 =>
                some (r3998.1, ((0 : Int), ())))
                (none)))))))
def law18_DdsAgain (F : Nat) (a0 : List Int) : Option (Bool × Unit) :=
  (law18_awake F).bind fun r4025 =>
  let v4026 : Int := (((List.length a0) : Nat) : Int)
  cond (decide ((20000 : Int) < v4026))
    (some (r4025.1, ()))
    ((ref17_Wide F).bind fun r4028 =>
    (dds_Read F a0 (r4028.1.1, (r4028.1.2.1, (r4028.1.2.2.1, ())))).bind fun r4029 =>
    cond (r4029.2.2.2.2.2.2.2.1 != (0 : Int))
      (some (r4025.1, ()))
      ((dds_Write F (r4029.1, (r4029.2.1, (r4029.2.2.1, (r4029.2.2.2.1, (r4029.2.2.2.2.1, (r4029.2.2.2.2.2.1, (r4029.2.2.2.2.2.2.1, ([], ()))))))))).bind fun r4031 =>
      (ref17_Wide F).bind fun r4033 =>
      (dds_Read F r4031.1 (r4033.1.1, (r4033.1.2.1, (r4033.1.2.2.1, ())))).bind fun r4034 =>
      (dds_Write F (r4034.1, (r4034.2.1, (r4034.2.2.1, (r4034.2.2.2.1, (r4034.2.2.2.2.1, (r4034.2.2.2.2.2.1, (r4034.2.2.2.2.2.2.1, ([], ()))))))))).bind fun r4035 =>
      (ref17_Same F (r4029.1, (r4029.2.1, (r4029.2.2.1, (r4029.2.2.2.1, (r4029.2.2.2.2.1, (r4029.2.2.2.2.2.1, (r4029.2.2.2.2.2.2.1, ([], ())))))))) (r4034.1, (r4034.2.1, (r4034.2.2.1, (r4034.2.2.2.1, (r4034.2.2.2.2.1, (r4034.2.2.2.2.2.1, (r4034.2.2.2.2.2.2.1, ([], ()))))))))).bind fun r4037 =>
      (ref01_Same F r4031.1 r4035.1).bind fun r4038 =>
      cond r4025.1
        (cond (r4031.2.1 == (0 : Int))
          (cond (r4034.2.2.2.2.2.2.2.1 == (0 : Int))
            (cond (r4035.2.1 == (0 : Int))
              (cond r4037.1
                (cond r4038.1
                  ((ref17_Wide F).bind fun r4042 =>
                  (layout_Check F (r4029.1, (r4029.2.1, (r4029.2.2.1, (r4029.2.2.2.1, (r4029.2.2.2.2.1, (r4029.2.2.2.2.2.1, (r4029.2.2.2.2.2.2.1, ([], ())))))))) (r4042.1.1, (r4042.1.2.1, (r4042.1.2.2.1, ())))).bind fun r4043 =>
                  some ((r4043.1 == (0 : Int)), ()))
                  (some (false, ())))
                (some (false, ())))
              (some (false, ())))
            (some (false, ())))
          (some (false, ())))
        (some (false, ()))))
end Go.AE.Gn
set_option linter.unusedSimpArgs false
set_option maxRecDepth 100000
set_option linter.unusedVariables false
namespace Go.Proofs.Ytcjfigcbloploaa
open Go Go.AE Go.AE.Gn
theorem callable : Callable Try.prog := callable_of (by kernel_rfl)
def format_Of_tab (F : Nat) : List ToldF := []
theorem format_Of_all (F : Nat) : AllOk Try.prog (format_Of_tab F) := trivial
def format_Of_told (F : Nat) : ToldF := ⟨26, 1, [.slot 0 (.int .i64)], [.ty (.agg [.int .i64, .int .i64, .bool]), .ty (.int .i64)], u1 (format_Of F)⟩
theorem format_Of_ok (F : Nat) : (format_Of_told F).ok Try.prog :=
  okF callable (format_Of_all F) (fn := Try.f26) [] (by kernel_rfl) aN fun d => by kernel_rfl
def mip_half_tab (F : Nat) : List ToldF := []
theorem mip_half_all (F : Nat) : AllOk Try.prog (mip_half_tab F) := trivial
def mip_half_told (F : Nat) : ToldF := ⟨97, 1, [.slot 0 (.int .i64)], [.ty (.int .i64)], u1 (mip_half F)⟩
theorem mip_half_ok (F : Nat) : (mip_half_told F).ok Try.prog :=
  okF callable (mip_half_all F) (fn := Try.f97) [] (by kernel_rfl) aN fun d => by kernel_rfl
def mip_sizes_c1_tab (F : Nat) : List ToldF := [mip_half_told F]
theorem mip_sizes_c1_all (F : Nat) : AllOk Try.prog (mip_sizes_c1_tab F) := ⟨mip_half_ok F, trivial⟩
theorem mip_sizes_c1_it (F : Nat) : ItSpec Try.prog 96 encsII okII 2 [.segs [.hole (.int .i64)] (.slot 0) true, .ptr 0 1 1, .segs [.hole (.int .i64)] (.slot 1) true, .ptr 1 2 1] (u2 (mip_sizes_c1 F)) :=
  itSpec_loop callable (calT_ok callable (mip_sizes_c1_all F)) (qcalT_ok (mip_sizes_c1_all F)) (fn := Try.f96) (c := (bodyOf Try.f96)) (by kernel_rfl) (by kernel_rfl) (loop_split (k := 0) (id := 0) (by kernel_rfl)) decII_ok (nt := 28) (its := [.segs [.hole (.int .i64)] (.slot 1) true, .ptr 1 1 1, .segs [.hole (.int .i64)] (.slot 2) true, .ptr 2 2 1]) (fun d => rfl) (fun d => rfl) (fun k l => u2 (sizesT (mip_half F) k l)) F (fun _ _ => rfl) (fun k l d => by kernel_rfl) (fun l d => Eq.trans (by kernel_rfl : _ = u2 (sizesT (mip_half F) F l) d) (sizes_tag _ l F _ _))
def mip_Levels_tab (F : Nat) : List ToldF := []
theorem mip_Levels_all (F : Nat) : AllOk Try.prog (mip_Levels_tab F) := trivial
def mip_Levels_told (F : Nat) : ToldF := ⟨45, 2, [.slot 0 (.int .i64), .slot 1 (.int .i64)], [.ty (.int .i64)], u2 (mip_Levels F)⟩
theorem mip_Levels_ok (F : Nat) : (mip_Levels_told F).ok Try.prog :=
  fnSpec_range callable (calT_ok callable (mip_Levels_all F)) (qcalT_ok (mip_Levels_all F)) (fn := Try.f45) (gfn := Try.f96) (c := (bodyOf Try.f45)) (by kernel_rfl) (by kernel_rfl) (rng_split (k := 3) (out := 0) (g := 8) (by kernel_rfl)) (by kernel_rfl) (by kernel_rfl) (fun x => by kernel_rfl) encII_rel (mip_sizes_c1_it F) (by kernel_rfl) (by kernel_rfl) (nt := 14) (its := [.segs [.hole (.int .i64)] (.slot 5) true, .ptr 5 1 1]) (outX := []) (eX := .normal) (step := fun x => u1 (mip_Levels_r F x)) (fun x d => by kernel_rfl) (fun d => by kernel_rfl) (fun d => by kernel_rfl)
def mip_Side_tab (F : Nat) : List ToldF := []
theorem mip_Side_all (F : Nat) : AllOk Try.prog (mip_Side_tab F) := trivial
def mip_Side_told (F : Nat) : ToldF := ⟨29, 2, [.slot 0 (.int .i64), .slot 1 (.int .i64)], [.ty (.int .i64)], u2 (mip_Side F)⟩
theorem mip_Side_ok (F : Nat) : (mip_Side_told F).ok Try.prog :=
  fnSpec_range callable (calT_ok callable (mip_Side_all F)) (qcalT_ok (mip_Side_all F)) (fn := Try.f29) (gfn := Try.f96) (c := (bodyOf Try.f29)) (by kernel_rfl) (by kernel_rfl) (rng_split (k := 5) (out := 0) (g := 10) (by kernel_rfl)) (by kernel_rfl) (by kernel_rfl) (fun x => by kernel_rfl) encII_rel (mip_sizes_c1_it F) (by kernel_rfl) (by kernel_rfl) (nt := 19) (its := [.segs [.hole (.int .i64)] (.slot 3) true, .ptr 3 1 1, .segs [.hole (.int .i64)] (.slot 5) true, .ptr 5 2 1]) (outX := [.segs [.hole (.int .i64)] (.slot 5) true, .ptr 5 1 1]) (eX := (.exit 0)) (step := fun x => u2 (mip_Side_r F x)) (fun x d => by kernel_rfl) (fun d => by kernel_rfl) (fun d => by kernel_rfl)
def layout_levels_c1_tab (F : Nat) : List ToldF := [mip_Side_told F]
theorem layout_levels_c1_all (F : Nat) : AllOk Try.prog (layout_levels_c1_tab F) := ⟨mip_Side_ok F, trivial⟩
theorem layout_levels_c1_it (F : Nat) : ItSpec Try.prog 92 encsII okII 3 [.segs [.hole (.int .i64)] (.slot 0) true, .ptr 0 1 1, .segs [.hole (.int .i64)] (.slot 1) true, .ptr 1 2 1, .segs [.hole (.int .i64)] (.slot 2) true, .ptr 2 3 1] (u3 (layout_levels_c1 F)) :=
  itSpec_loop callable (calT_ok callable (layout_levels_c1_all F)) (qcalT_ok (layout_levels_c1_all F)) (fn := Try.f92) (c := (bodyOf Try.f92)) (by kernel_rfl) (by kernel_rfl) (loop_split (k := 1) (id := 0) (by kernel_rfl)) decII_ok (nt := 20) (its := [.slot 6 (.int .i64), .slot 7 (.int .i64), .segs [.hole (.int .i64)] (.slot 2) true, .ptr 2 1 1, .segs [.hole (.int .i64)] (.slot 3) true, .ptr 3 2 1]) (fun d => rfl) (fun d => rfl) (fun k l => u4 (levelsT (mip_Side F) k l)) F (fun _ _ => rfl) (fun k l d => by kernel_rfl) (fun l d => Eq.trans (by kernel_rfl : _ = u3 (fun n w h => levelsT (mip_Side F) F l n 0 w h) d) (levels_tag _ l F _ _ _ _))
def field_Times_tab (F : Nat) : List ToldF := []
theorem field_Times_all (F : Nat) : AllOk Try.prog (field_Times_tab F) := trivial
def field_Times_told (F : Nat) : ToldF := ⟨47, 2, [.slot 0 (.int .i64), .slot 1 (.int .i64)], [.ty (.int .i64), .ty (.int .i64)], u2 (field_Times F)⟩
theorem field_Times_ok (F : Nat) : (field_Times_told F).ok Try.prog :=
  okF callable (field_Times_all F) (fn := Try.f47) [] (by kernel_rfl) aN fun d => by kernel_rfl
def field_Sum_tab (F : Nat) : List ToldF := []
theorem field_Sum_all (F : Nat) : AllOk Try.prog (field_Sum_tab F) := trivial
def field_Sum_told (F : Nat) : ToldF := ⟨48, 2, [.slot 0 (.int .i64), .slot 1 (.int .i64)], [.ty (.int .i64), .ty (.int .i64)], u2 (field_Sum F)⟩
theorem field_Sum_ok (F : Nat) : (field_Sum_told F).ok Try.prog :=
  okF callable (field_Sum_all F) (fn := Try.f48) [] (by kernel_rfl) aN fun d => by kernel_rfl
def layout_Texels_tab (F : Nat) : List ToldF := [mip_Levels_told F, field_Times_told F, field_Sum_told F]
theorem layout_Texels_all (F : Nat) : AllOk Try.prog (layout_Texels_tab F) := ⟨mip_Levels_ok F, field_Times_ok F, field_Sum_ok F, trivial⟩
def layout_Texels_told (F : Nat) : ToldF := ⟨17, 1, [.slot 0 (.agg [.int .i64, .int .i64, .int .i64, .int .i64, .int .i64, .int .i64, .dsl (.row .u8 1), .dsl (.pair)])], [.ty (.int .i64), .ty (.int .i64)], u1 (layout_Texels F)⟩
theorem layout_Texels_ok (F : Nat) : (layout_Texels_told F).ok Try.prog :=
  fnSpec_range callable (calT_ok callable (layout_Texels_all F)) (qcalT_ok (layout_Texels_all F)) (fn := Try.f17) (gfn := Try.f92) (c := (bodyOf Try.f17)) (by kernel_rfl) (by kernel_rfl) (rng_split (k := 6) (out := 0) (g := 36) (by kernel_rfl)) (by kernel_rfl) (by kernel_rfl) (fun x => by kernel_rfl) encII_rel (layout_levels_c1_it F) (by kernel_rfl) (by kernel_rfl) (nt := 86) (its := [.segs [.hole (.int .i64), .hole (.int .i64), .hole (.int .i64), .hole (.int .i64), .hole (.int .i64), .hole (.int .i64), .hole (.dsl (.row .u8 1)), .hole (.dsl (.pair))] (.slot 1) true, .ptr 1 1 8, .segs [.const (.int .i64 (some 0) 0)] (.slot 2) true, .ptr 2 2 1, .segs [.const (.int .i64 (some 0) 0)] (.slot 3) true, .ptr 3 3 1, .segs [.hole (.int .i64)] (.slot 4) true, .ptr 4 4 1, .segs [.hole (.int .i64)] (.slot 5) true, .ptr 5 5 1, .slot 6 (.int .i64)]) (outX := [.segs [.const (.int .i64 (some 0) 0)] (.slot 2) true, .ptr 2 1 1, .segs [.hole (.int .i64)] (.slot 3) true, .ptr 3 2 1]) (eX := .ret) (step := fun x => u11 (layout_Texels_r F x)) (fun x d => by kernel_rfl) (fun d => by kernel_rfl) (fun d => by kernel_rfl)
def layout_Header_tab (F : Nat) : List ToldF := [format_Of_told F, mip_Levels_told F, layout_Texels_told F]
theorem layout_Header_all (F : Nat) : AllOk Try.prog (layout_Header_tab F) := ⟨format_Of_ok F, mip_Levels_ok F, layout_Texels_ok F, trivial⟩
def layout_Header_told (F : Nat) : ToldF := ⟨20, 2, [.slot 0 (.agg [.int .i64, .int .i64, .int .i64, .int .i64, .int .i64, .int .i64, .dsl (.row .u8 1), .dsl (.pair)]), .slot 1 (.agg [.int .i64, .int .i64, .int .i64])], [.ty (.int .i64)], u2 (layout_Header F)⟩
theorem layout_Header_ok (F : Nat) : (layout_Header_told F).ok Try.prog :=
  okF callable (layout_Header_all F) (fn := Try.f20) [] (by kernel_rfl) aN fun d => by kernel_rfl
def image_Tiles_tab (F : Nat) : List ToldF := []
theorem image_Tiles_all (F : Nat) : AllOk Try.prog (image_Tiles_tab F) := trivial
def image_Tiles_told (F : Nat) : ToldF := ⟨28, 2, [.slot 0 (.int .i64), .slot 1 (.int .i64)], [.ty (.int .i64), .ty (.int .i64)], u2 (image_Tiles F)⟩
theorem image_Tiles_ok (F : Nat) : (image_Tiles_told F).ok Try.prog :=
  okF callable (image_Tiles_all F) (fn := Try.f28) [] (by kernel_rfl) aN fun d => by kernel_rfl
def format_Bytes_tab (F : Nat) : List ToldF := [format_Of_told F, field_Times_told F, image_Tiles_told F]
theorem format_Bytes_all (F : Nat) : AllOk Try.prog (format_Bytes_tab F) := ⟨format_Of_ok F, field_Times_ok F, image_Tiles_ok F, trivial⟩
def format_Bytes_told (F : Nat) : ToldF := ⟨91, 3, [.slot 0 (.int .i64), .slot 1 (.int .i64), .slot 2 (.int .i64)], [.ty (.int .i64), .ty (.int .i64)], u3 (format_Bytes F)⟩
theorem format_Bytes_ok (F : Nat) : (format_Bytes_told F).ok Try.prog :=
  okF callable (format_Bytes_all F) (fn := Try.f91) [] (by kernel_rfl) aN fun d => by kernel_rfl
def layout_Sizes_tab (F : Nat) : List ToldF := [format_Of_told F, mip_Levels_told F, format_Bytes_told F]
theorem layout_Sizes_all (F : Nat) : AllOk Try.prog (layout_Sizes_tab F) := ⟨format_Of_ok F, mip_Levels_ok F, format_Bytes_ok F, trivial⟩
def layout_Sizes_told (F : Nat) : ToldF := ⟨44, 4, [.slot 0 (.int .i64), .slot 1 (.int .i64), .slot 2 (.int .i64), .slot 3 (.int .i64)], [.row .i64 1, .ty (.int .i64)], u4 (layout_Sizes F)⟩
theorem layout_Sizes_ok (F : Nat) : (layout_Sizes_told F).ok Try.prog :=
  fnSpec_range callable (calT_ok callable (layout_Sizes_all F)) (qcalT_ok (layout_Sizes_all F)) (fn := Try.f44) (gfn := Try.f92) (c := (bodyOf Try.f44)) (by kernel_rfl) (by kernel_rfl) (rng_split (k := 8) (out := 0) (g := 45) (by kernel_rfl)) (by kernel_rfl) (by kernel_rfl) (fun x => by kernel_rfl) encII_rel (layout_levels_c1_it F) (by kernel_rfl) (by kernel_rfl) (nt := 63) (its := [.segs [.hole (.int .i64)] (.slot 4) true, .ptr 4 1 1, .segs [.const .nils] (.slot 8) true, .ptr 8 2 1, .segs [.const (.int .i64 (some 0) 0)] (.slot 9) true, .ptr 9 3 1, .row .i64 1 (.cell (.slot 12) 0) true, .segs [.sl 4 1 .own] (.slot 12) true, .ptr 12 5 1]) (outX := [.segs [.const .nils] (.slot 8) true, .ptr 8 1 1, .segs [.hole (.int .i64)] (.slot 9) true, .ptr 9 2 1]) (eX := .ret) (step := fun x => u2 (layout_Sizes_r F x)) (fun x d => by kernel_rfl) (fun d => by kernel_rfl) (fun d => by kernel_rfl)
def layout_data_tab (F : Nat) : List ToldF := [layout_Sizes_told F]
theorem layout_data_all (F : Nat) : AllOk Try.prog (layout_data_tab F) := ⟨layout_Sizes_ok F, trivial⟩
def layout_data_l0t (F : Nat) : TX := ⟨63, [.segs [.hole (.int .i64), .hole (.int .i64), .hole (.int .i64), .hole (.int .i64), .hole (.int .i64), .hole (.int .i64), .hole (.dsl (.row .u8 1)), .hole (.dsl (.pair))] (.slot 1) true, .ptr 1 1 8, .row .i64 1 (.slot 3) true, .slot 45 (.dsl (.row .u8 1)), .slot 46 (.int .i64), .slot 47 (.int .i64)], [.const 2 (.bool (some false) false)], [], .ret, 0, fun k => u12 (layout_data_l0 F k), fun k => u12 (layout_data_l0S F (layout_data_l0 F k))⟩
theorem layout_data_l0k (F : Nat) : (layout_data_l0t F).ok Try.prog Try.f56 F :=
  okX callable (layout_data_all F) [] aN (fun _ => rfl) (fun _ _ => rfl) (eR rfl) fun k d => by kernel_rfl
def layout_data_told (F : Nat) : ToldF := ⟨56, 1, [.slot 0 (.agg [.int .i64, .int .i64, .int .i64, .int .i64, .int .i64, .int .i64, .dsl (.row .u8 1), .dsl (.pair)])], [.ty (.bool)], u1 (layout_data F)⟩
theorem layout_data_ok (F : Nat) : (layout_data_told F).ok Try.prog :=
  okF callable (layout_data_all F) (fn := Try.f56) [(0, (layout_data_l0t F).ann F)] (by kernel_rfl) (aX (by kernel_rfl) (layout_data_l0k F) aN) fun d => by kernel_rfl
def internal_stringslite_IndexByte_tab (F : Nat) : List ToldF := []
theorem internal_stringslite_IndexByte_all (F : Nat) : AllOk Try.prog (internal_stringslite_IndexByte_tab F) := trivial
def internal_stringslite_IndexByte_told (F : Nat) : ToldF := ⟨93, 2, [.slot 0 (.str), .slot 1 (.int .u8)], [.ty (.int .i64)], u2 (internal_stringslite_IndexByte F)⟩
theorem internal_stringslite_IndexByte_ok (F : Nat) : (internal_stringslite_IndexByte_told F).ok Try.prog :=
  okF callable (internal_stringslite_IndexByte_all F) (fn := Try.f93) [] (by kernel_rfl) aN fun d => by kernel_rfl
def strings_IndexByte_tab (F : Nat) : List ToldF := [internal_stringslite_IndexByte_told F]
theorem strings_IndexByte_all (F : Nat) : AllOk Try.prog (strings_IndexByte_tab F) := ⟨internal_stringslite_IndexByte_ok F, trivial⟩
def strings_IndexByte_told (F : Nat) : ToldF := ⟨55, 2, [.slot 0 (.str), .slot 1 (.int .u8)], [.ty (.int .i64)], u2 (strings_IndexByte F)⟩
theorem strings_IndexByte_ok (F : Nat) : (strings_IndexByte_told F).ok Try.prog :=
  okF callable (strings_IndexByte_all F) (fn := Try.f55) [] (by kernel_rfl) aN fun d => by kernel_rfl
def layout_Check_c1_tab (F : Nat) : List ToldF := [strings_IndexByte_told F]
theorem layout_Check_c1_all (F : Nat) : AllOk Try.prog (layout_Check_c1_tab F) := ⟨strings_IndexByte_ok F, trivial⟩
def layout_Check_c1_told (F : Nat) : ToldF := ⟨54, 1, [.slot 0 (.agg [.str, .str])], [.ty (.bool)], u1 (layout_Check_c1 F)⟩
theorem layout_Check_c1_ok (F : Nat) : (layout_Check_c1_told F).ok Try.prog :=
  okF callable (layout_Check_c1_all F) (fn := Try.f54) [] (by kernel_rfl) aN fun d => by kernel_rfl
def slices_IndexFunc_api_Pair_api_Pair_Check_c1_tab (F : Nat) : List ToldF := [layout_Check_c1_told F]
theorem slices_IndexFunc_api_Pair_api_Pair_Check_c1_all (F : Nat) : AllOk Try.prog (slices_IndexFunc_api_Pair_api_Pair_Check_c1_tab F) := ⟨layout_Check_c1_ok F, trivial⟩
def slices_IndexFunc_api_Pair_api_Pair_Check_c1_l0t (F : Nat) : TX := ⟨19, [.slot 0 (.dsl (.pair)), .fn 1 54 [], .slot 7 (.int .i64), .slot 8 (.int .i64)], [.slot 4 (.int .i64)], [], .ret, 0, fun k => u3 (slices_IndexFunc_api_Pair_api_Pair_Check_c1_l0 F k), fun k => u3 (slices_IndexFunc_api_Pair_api_Pair_Check_c1_l0S F (slices_IndexFunc_api_Pair_api_Pair_Check_c1_l0 F k))⟩
theorem slices_IndexFunc_api_Pair_api_Pair_Check_c1_l0k (F : Nat) : (slices_IndexFunc_api_Pair_api_Pair_Check_c1_l0t F).ok Try.prog Try.f94 F :=
  okX callable (slices_IndexFunc_api_Pair_api_Pair_Check_c1_all F) [] aN (fun _ => rfl) (fun _ _ => rfl) (eR rfl) fun k d => by kernel_rfl
def slices_IndexFunc_api_Pair_api_Pair_Check_c1_told (F : Nat) : ToldF := ⟨94, 2, [.slot 0 (.dsl (.pair)), .fn 1 54 []], [.ty (.int .i64)], u1 (slices_IndexFunc_api_Pair_api_Pair_Check_c1 F)⟩
theorem slices_IndexFunc_api_Pair_api_Pair_Check_c1_ok (F : Nat) : (slices_IndexFunc_api_Pair_api_Pair_Check_c1_told F).ok Try.prog :=
  okF callable (slices_IndexFunc_api_Pair_api_Pair_Check_c1_all F) (fn := Try.f94) [(0, (slices_IndexFunc_api_Pair_api_Pair_Check_c1_l0t F).ann F)] (by kernel_rfl) (aX (by kernel_rfl) (slices_IndexFunc_api_Pair_api_Pair_Check_c1_l0k F) aN) fun d => by kernel_rfl
def slices_ContainsFunc_api_Pair_api_Pair_Check_c1_tab (F : Nat) : List ToldF := [slices_IndexFunc_api_Pair_api_Pair_Check_c1_told F]
theorem slices_ContainsFunc_api_Pair_api_Pair_Check_c1_all (F : Nat) : AllOk Try.prog (slices_ContainsFunc_api_Pair_api_Pair_Check_c1_tab F) := ⟨slices_IndexFunc_api_Pair_api_Pair_Check_c1_ok F, trivial⟩
def slices_ContainsFunc_api_Pair_api_Pair_Check_c1_told (F : Nat) : ToldF := ⟨57, 2, [.slot 0 (.dsl (.pair)), .fn 1 54 []], [.ty (.bool)], u1 (slices_ContainsFunc_api_Pair_api_Pair_Check_c1 F)⟩
theorem slices_ContainsFunc_api_Pair_api_Pair_Check_c1_ok (F : Nat) : (slices_ContainsFunc_api_Pair_api_Pair_Check_c1_told F).ok Try.prog :=
  okF callable (slices_ContainsFunc_api_Pair_api_Pair_Check_c1_all F) (fn := Try.f57) [] (by kernel_rfl) aN fun d => by kernel_rfl
def layout_Check_tab (F : Nat) : List ToldF := [layout_Header_told F, layout_data_told F, slices_ContainsFunc_api_Pair_api_Pair_Check_c1_told F]
theorem layout_Check_all (F : Nat) : AllOk Try.prog (layout_Check_tab F) := ⟨layout_Header_ok F, layout_data_ok F, slices_ContainsFunc_api_Pair_api_Pair_Check_c1_ok F, trivial⟩
def layout_Check_told (F : Nat) : ToldF := ⟨22, 2, [.slot 0 (.agg [.int .i64, .int .i64, .int .i64, .int .i64, .int .i64, .int .i64, .dsl (.row .u8 1), .dsl (.pair)]), .slot 1 (.agg [.int .i64, .int .i64, .int .i64])], [.ty (.int .i64)], u2 (layout_Check F)⟩
theorem layout_Check_ok (F : Nat) : (layout_Check_told F).ok Try.prog :=
  okF callable (layout_Check_all F) (fn := Try.f22) [] (by kernel_rfl) aN fun d => by kernel_rfl
theorem codes_laid : laidOutB Try.prog = true := by kernel_rfl
theorem codes_pk : PairKeys Try.prog 122 := pairKeys (P := Try.prog) (k := 122) (f0 := fldAt Try.prog 122 0) (f1 := fldAt Try.prog 122 1) (m := Try.prog.types.size - 1) (by kernel_rfl) (by kernel_rfl) (by kernel_rfl) (by kernel_rfl) (by kernel_rfl) (by kernel_rfl) (by kernel_rfl) (by kernel_rfl) (by kernel_rfl) (by kernel_rfl) (by kernel_rfl) (by kernel_rfl) 
theorem codes_kd : Maps.Keyed Try.prog 122 := .of_law (deep_law_gate (P := Try.prog) codes_laid (of_decide_eq_true (by kernel_rfl)) (of_decide_eq_true (by kernel_rfl)) (by kernel_rfl) (by kernel_rfl) )
def codes_bl : List (Nat × Nat × Value) := codesT.zipIdx.map fun p => (2 * p.2 + 1, p.2 + 2, .agg #[.int .i64 p.1.1, .int .i64 p.1.2.1])
theorem codes_allB : AllB Try.prog (regArr (seqA (seqB (bodyOf Try.f107)))) codes_bl :=
  ⟨⟨opAt (seqA (seqB (bodyOf Try.f107))) 1, by kernel_rfl, by kernel_rfl, by kernel_rfl, fun _ _ => by kernel_rfl⟩, ⟨opAt (seqA (seqB (bodyOf Try.f107))) 3, by kernel_rfl, by kernel_rfl, by kernel_rfl, fun _ _ => by kernel_rfl⟩, ⟨opAt (seqA (seqB (bodyOf Try.f107))) 5, by kernel_rfl, by kernel_rfl, by kernel_rfl, fun _ _ => by kernel_rfl⟩, ⟨opAt (seqA (seqB (bodyOf Try.f107))) 7, by kernel_rfl, by kernel_rfl, by kernel_rfl, fun _ _ => by kernel_rfl⟩, ⟨opAt (seqA (seqB (bodyOf Try.f107))) 9, by kernel_rfl, by kernel_rfl, by kernel_rfl, fun _ _ => by kernel_rfl⟩, ⟨opAt (seqA (seqB (bodyOf Try.f107))) 11, by kernel_rfl, by kernel_rfl, by kernel_rfl, fun _ _ => by kernel_rfl⟩, ⟨opAt (seqA (seqB (bodyOf Try.f107))) 13, by kernel_rfl, by kernel_rfl, by kernel_rfl, fun _ _ => by kernel_rfl⟩, ⟨opAt (seqA (seqB (bodyOf Try.f107))) 15, by kernel_rfl, by kernel_rfl, by kernel_rfl, fun _ _ => by kernel_rfl⟩, ⟨opAt (seqA (seqB (bodyOf Try.f107))) 17, by kernel_rfl, by kernel_rfl, by kernel_rfl, fun _ _ => by kernel_rfl⟩, ⟨opAt (seqA (seqB (bodyOf Try.f107))) 19, by kernel_rfl, by kernel_rfl, by kernel_rfl, fun _ _ => by kernel_rfl⟩, ⟨opAt (seqA (seqB (bodyOf Try.f107))) 21, by kernel_rfl, by kernel_rfl, by kernel_rfl, fun _ _ => by kernel_rfl⟩, ⟨opAt (seqA (seqB (bodyOf Try.f107))) 23, by kernel_rfl, by kernel_rfl, by kernel_rfl, fun _ _ => by kernel_rfl⟩, ⟨opAt (seqA (seqB (bodyOf Try.f107))) 25, by kernel_rfl, by kernel_rfl, by kernel_rfl, fun _ _ => by kernel_rfl⟩, ⟨opAt (seqA (seqB (bodyOf Try.f107))) 27, by kernel_rfl, by kernel_rfl, by kernel_rfl, fun _ _ => by kernel_rfl⟩, ⟨opAt (seqA (seqB (bodyOf Try.f107))) 29, by kernel_rfl, by kernel_rfl, by kernel_rfl, fun _ _ => by kernel_rfl⟩, ⟨opAt (seqA (seqB (bodyOf Try.f107))) 31, by kernel_rfl, by kernel_rfl, by kernel_rfl, fun _ _ => by kernel_rfl⟩, ⟨opAt (seqA (seqB (bodyOf Try.f107))) 33, by kernel_rfl, by kernel_rfl, by kernel_rfl, fun _ _ => by kernel_rfl⟩, ⟨opAt (seqA (seqB (bodyOf Try.f107))) 35, by kernel_rfl, by kernel_rfl, by kernel_rfl, fun _ _ => by kernel_rfl⟩, trivial⟩
theorem codes_codesAt : CodesAt Try.prog 107 :=
  codes_at (P := Try.prog) (f := 107) (fn := Try.f107) (i0 := blkId (seqA (bodyOf Try.f107))) (ops0 := regArr (seqA (bodyOf Try.f107))) (i1 := blkId (seqA (seqB (bodyOf Try.f107)))) (ops := regArr (seqA (seqB (bodyOf Try.f107)))) (n := 21) (T := 119) (K := 122) (E := 3) (oz := opAt (seqA (bodyOf Try.f107)) 0) (om := opAt (seqA (seqB (bodyOf Try.f107))) 0) (o37 := opAt (seqA (seqB (bodyOf Try.f107))) 37) (o38 := opAt (seqA (seqB (bodyOf Try.f107))) 38) (dm := 1) (d37 := 20) (bl := codes_bl)
    (by kernel_rfl) (by kernel_rfl) (by kernel_rfl) (by kernel_rfl) (by kernel_rfl) (by kernel_rfl) (by kernel_rfl) (by kernel_rfl) (by kernel_rfl) (by kernel_rfl) (by kernel_rfl) (by kernel_rfl) codes_allB (by kernel_rfl) (by kernel_rfl) (by kernel_rfl) (by kernel_rfl) (by kernel_rfl) (by kernel_rfl) codes_kd (by kernel_rfl) codes_pk (by kernel_rfl) (fun b => by kernel_rfl) (by kernel_rfl) (by kernel_rfl) (by kernel_rfl) (by kernel_rfl) (by kernel_rfl) (by kernel_rfl) (by kernel_rfl) (by kernel_rfl) (by kernel_rfl) (by kernel_rfl) (by kernel_rfl) ⟨by kernel_rfl, of_decide_eq_true (by kernel_rfl), of_decide_eq_true (by kernel_rfl), of_decide_eq_true (by kernel_rfl)⟩ (by kernel_rfl)
def format_Code_told (F : Nat) : ToldF := ⟨72, 2, [.slot 0 (.int .i64), .slot 1 (.int .i64)], [.ty (.int .i64), .ty (.int .i64)], u2 (format_Code F)⟩
theorem format_Code_ok (F : Nat) : (format_Code_told F).ok Try.prog :=
  code_spec callable (f := 72) (fc := 107) (fn := Try.f72) (fnc := Try.f107) (c := (bodyOf Try.f72)) (c4 := seqB (rest 3 (bodyOf Try.f72))) (id := blkId (seqA (rest 3 (bodyOf Try.f72)))) (n := 35) (ops := regArr (seqA (rest 3 (bodyOf Try.f72)))) (T := 119) (K := 122) (E := 3) (o0 := opAt (seqA (rest 3 (bodyOf Try.f72))) 0) (ol := opAt (seqA (rest 3 (bodyOf Try.f72))) 4) (l1 := opsIn (seqA (rest 3 (bodyOf Try.f72))) 1 3) (l2 := opsIn (seqA (rest 3 (bodyOf Try.f72))) 5 9) (d0 := 25) (dk := 28) (dl := 29) (kx := fun x y => .agg [.int .i64 none x, .int .i64 none y])
    (by kernel_rfl) (by kernel_rfl) (by kernel_rfl) (of_decide_eq_true (by kernel_rfl)) (by kernel_rfl) codes_kd (by kernel_rfl) (fun w => by kernel_rfl) codes_pk (by kernel_rfl) (by kernel_rfl) codes_codesAt (by kernel_rfl) (by kernel_rfl) (by kernel_rfl) (by kernel_rfl) (by kernel_rfl) (by kernel_rfl) (by kernel_rfl) (fun x y => by kernel_rfl) (fun x y b => by kernel_rfl) (fun M x y v h => pair_val h) (fun v b => by kernel_rfl)
def dds_at_tab (F : Nat) : List ToldF := []
theorem dds_at_all (F : Nat) : AllOk Try.prog (dds_at_tab F) := trivial
def dds_at_told (F : Nat) : ToldF := ⟨75, 1, [.slot 0 (.int .i64)], [.ty (.int .i64)], u1 (dds_at F)⟩
theorem dds_at_ok (F : Nat) : (dds_at_told F).ok Try.prog :=
  okF callable (dds_at_all F) (fn := Try.f75) [] (by kernel_rfl) aN fun d => by kernel_rfl
def field_room_tab (F : Nat) : List ToldF := []
theorem field_room_all (F : Nat) : AllOk Try.prog (field_room_tab F) := trivial
def field_room_told (F : Nat) : ToldF := ⟨98, 3, [.row .u8 1 (.slot 0) false, .slot 1 (.int .i64), .slot 2 (.int .i64)], [.ty (.bool)], u3 (field_room F)⟩
theorem field_room_ok (F : Nat) : (field_room_told F).ok Try.prog :=
  okF callable (field_room_all F) (fn := Try.f98) [] (by kernel_rfl) aN fun d => by kernel_rfl
def field_check_tab (F : Nat) : List ToldF := [field_room_told F]
theorem field_check_all (F : Nat) : AllOk Try.prog (field_check_tab F) := ⟨field_room_ok F, trivial⟩
def field_check_told (F : Nat) : ToldF := ⟨108, 3, [.row .u8 1 (.slot 0) false, .slot 1 (.int .i64), .slot 2 (.int .i64)], [.ty (.int .i64)], u3 (field_check F)⟩
theorem field_check_ok (F : Nat) : (field_check_told F).ok Try.prog :=
  okF callable (field_check_all F) (fn := Try.f108) [] (by kernel_rfl) aN fun d => by kernel_rfl
def field_far_tab (F : Nat) : List ToldF := []
theorem field_far_all (F : Nat) : AllOk Try.prog (field_far_tab F) := trivial
def field_far_told (F : Nat) : ToldF := ⟨109, 3, [.slot 0 (.int .i64), .slot 1 (.int .i64), .slot 2 (.bool)], [.ty (.int .i64)], u3 (field_far F)⟩
theorem field_far_ok (F : Nat) : (field_far_told F).ok Try.prog :=
  okF callable (field_far_all F) (fn := Try.f109) [] (by kernel_rfl) aN fun d => by kernel_rfl
def field_Put_tab (F : Nat) : List ToldF := [field_check_told F, field_far_told F]
theorem field_Put_all (F : Nat) : AllOk Try.prog (field_Put_tab F) := ⟨field_check_ok F, field_far_ok F, trivial⟩
def field_Put_l1t (F : Nat) : TL := ⟨58, [.slot 1 (.int .i64), .slot 2 (.int .i64), .slot 3 (.bool), .slot 4 (.int .i64), .row .u8 1 (.slot 13) true, .slot 39 (.int .i64), .slot 40 (.int .i64)], [.row .u8 1 (.slot 13) true], 1, fun k => u7 (field_Put_l1 F k), fun k => u7 (field_Put_l1S F (field_Put_l1 F k))⟩
theorem field_Put_l1k (F : Nat) : (field_Put_l1t F).ok Try.prog Try.f74 F :=
  okL callable (field_Put_all F) [] aN (fun _ => rfl) (fun _ _ => rfl) fun k d => by kernel_rfl
def field_Put_told (F : Nat) : ToldF := ⟨74, 5, [.row .u8 1 (.slot 0) false, .slot 1 (.int .i64), .slot 2 (.int .i64), .slot 3 (.bool), .slot 4 (.int .i64)], [.row .u8 1, .ty (.int .i64)], u5 (field_Put F)⟩
theorem field_Put_ok (F : Nat) : (field_Put_told F).ok Try.prog :=
  okF callable (field_Put_all F) (fn := Try.f74) [(1, (field_Put_l1t F).ann F)] (by kernel_rfl) (aL (by kernel_rfl) (field_Put_l1k F) aN) fun d => by kernel_rfl
def dds_Write_c1_tab (F : Nat) : List ToldF := [dds_at_told F, field_Put_told F]
theorem dds_Write_c1_all (F : Nat) : AllOk Try.prog (dds_Write_c1_tab F) := ⟨dds_at_ok F, field_Put_ok F, trivial⟩
def dds_Write_c1_told (F : Nat) : ToldF := ⟨73, 3, [.slot 0 (.int .i64), .slot 1 (.int .i64), .row .u8 1 (.cell (.slot 2) 0) true (some 0), .segs [.sl 1 1 .own] (.slot 2) true (some 1), .ptr 2 2 1], [.psegs 1 [.row .u8 1 true]], u3 (dds_Write_c1 F)⟩
theorem dds_Write_c1_ok (F : Nat) : (dds_Write_c1_told F).ok Try.prog :=
  okF callable (dds_Write_c1_all F) (fn := Try.f73) [] (by kernel_rfl) aN fun d => by kernel_rfl
def bytes_Join_ren : Go.Shelf.Ren := ⟨fun | 14 => 76 | 15 => 110 | n => n, fun | 26 => 22 | 22 => 43 | 3 => 3 | 4 => 4 | 0 => 0 | 9 => 9 | 20 => 20 | 5 => 5 | n => n, fun | n => n⟩
theorem bytes_Join_lays : Go.Proofs.SlLaysJ.n14 Try.prog bytes_Join_ren := {
  mixed := by kernel_rfl
  f14 := Try.func76.trans (congrArg some (by kernel_rfl))
  f15 := Try.func110.trans (congrArg some (by kernel_rfl))
  t0 := Try.underlying0
  a0 := Try.isAgg0
  z0 := Try.sizeOf0
  v0 := Try.zeroValue0
  t3 := Try.underlying3
  a3 := Try.isAgg3
  z3 := Try.sizeOf3
  v3 := Try.zeroValue3
  t4 := Try.underlying4
  a4 := Try.isAgg4
  z4 := Try.sizeOf4
  v4 := Try.zeroValue4
  t9 := Try.underlying9
  a9 := Try.isAgg9
  z9 := Try.sizeOf9
  v9 := Try.zeroValue9
  t20 := Try.underlying20
  a20 := Try.isAgg20
  z20 := Try.sizeOf20
  v20 := Try.zeroValue20
  t22 := Try.underlying43
  a22 := Try.isAgg43
  z22 := Try.sizeOf43
  v22 := Try.zeroValue43
  t26 := Try.underlying22
  a26 := Try.isAgg22
  z26 := Try.sizeOf22
  v26 := Try.zeroValue22
  t5 := Try.underlying5
  z5 := Try.sizeOf5
  i5 := by kernel_rfl }
def bytes_Join_told (F : Nat) : ToldF := ⟨76, 2, [.slot 0 (.dsl (.row .u8 1)), .const 1 .nils], [.ty (.fsl .u8 1)], u1 (bytes_Join F)⟩
theorem bytes_Join_ok (F : Nat) : (bytes_Join_told F).ok Try.prog := join_told bytes_Join_lays
def dds_Write_tab (F : Nat) : List ToldF := [layout_Check_told F, format_Code_told F, dds_at_told F, dds_Write_c1_told F, bytes_Join_told F]
theorem dds_Write_all (F : Nat) : AllOk Try.prog (dds_Write_tab F) := ⟨layout_Check_ok F, format_Code_ok F, dds_at_ok F, dds_Write_c1_ok F, bytes_Join_ok F, trivial⟩
def dds_Write_told (F : Nat) : ToldF := ⟨35, 1, [.slot 0 (.agg [.int .i64, .int .i64, .int .i64, .int .i64, .int .i64, .int .i64, .dsl (.row .u8 1), .dsl (.pair)])], [.row .u8 1, .ty (.int .i64)], u1 (dds_Write F)⟩
theorem dds_Write_ok (F : Nat) : (dds_Write_told F).ok Try.prog :=
  okF callable (dds_Write_all F) (fn := Try.f35) [] (by kernel_rfl) aN fun d => by kernel_rfl
def ref17_Wide_tab (F : Nat) : List ToldF := []
theorem ref17_Wide_all (F : Nat) : AllOk Try.prog (ref17_Wide_tab F) := trivial
def ref17_Wide_told (F : Nat) : ToldF := ⟨25, 0, [], [.ty (.agg [.int .i64, .int .i64, .int .i64])], u0 (ref17_Wide F)⟩
theorem ref17_Wide_ok (F : Nat) : (ref17_Wide_told F).ok Try.prog :=
  okF callable (ref17_Wide_all F) (fn := Try.f25) [] (by kernel_rfl) aN fun d => by kernel_rfl
def field_Get_tab (F : Nat) : List ToldF := [field_check_told F, field_far_told F]
theorem field_Get_all (F : Nat) : AllOk Try.prog (field_Get_tab F) := ⟨field_check_ok F, field_far_ok F, trivial⟩
def field_Get_l0t (F : Nat) : TL := ⟨40, [.row .u8 1 (.slot 0) false, .slot 1 (.int .i64), .slot 2 (.int .i64), .slot 3 (.bool), .slot 11 (.int .i64), .slot 20 (.int .i64), .slot 21 (.int .i64)], [.slot 11 (.int .i64)], 0, fun k => u7 (field_Get_l0 F k), fun k => u7 (field_Get_l0S F (field_Get_l0 F k))⟩
theorem field_Get_l0k (F : Nat) : (field_Get_l0t F).ok Try.prog Try.f83 F :=
  okL callable (field_Get_all F) [] aN (fun _ => rfl) (fun _ _ => rfl) fun k d => by kernel_rfl
def field_Get_told (F : Nat) : ToldF := ⟨83, 4, [.row .u8 1 (.slot 0) false, .slot 1 (.int .i64), .slot 2 (.int .i64), .slot 3 (.bool)], [.ty (.int .i64), .ty (.int .i64)], u4 (field_Get F)⟩
theorem field_Get_ok (F : Nat) : (field_Get_told F).ok Try.prog :=
  okF callable (field_Get_all F) (fn := Try.f83) [(0, (field_Get_l0t F).ann F)] (by kernel_rfl) (aL (by kernel_rfl) (field_Get_l0k F) aN) fun d => by kernel_rfl
def dds_header_c1_tab (F : Nat) : List ToldF := [dds_at_told F, field_Get_told F]
theorem dds_header_c1_all (F : Nat) : AllOk Try.prog (dds_header_c1_tab F) := ⟨dds_at_ok F, field_Get_ok F, trivial⟩
def dds_header_c1_told (F : Nat) : ToldF := ⟨100, 2, [.slot 0 (.int .i64), .row .u8 1 (.cell (.slot 1) 0) false, .segs [.sl 1 1 .whole] (.slot 1) false, .ptr 1 2 1], [.ty (.int .i64)], u2 (dds_header_c1 F)⟩
theorem dds_header_c1_ok (F : Nat) : (dds_header_c1_told F).ok Try.prog :=
  okF callable (dds_header_c1_all F) (fn := Try.f100) [] (by kernel_rfl) aN fun d => by kernel_rfl
def format_Format_told (F : Nat) : ToldF := ⟨122, 2, [.slot 0 (.int .i64), .slot 1 (.int .i64)], [.ty (.int .i64), .ty (.int .i64)], u2 (format_Format F)⟩
theorem format_Format_ok (F : Nat) : (format_Format_told F).ok Try.prog :=
  format_spec callable (f := 122) (fc := 107) (fn := Try.f122) (fnc := Try.f107) (c := (bodyOf Try.f122)) (c6 := seqB (inB' (seqB (seqB (inB' (inB' (seqB (seqA (rest 2 (bodyOf Try.f122)))))))))) (c7 := seqB (rest 2 (bodyOf Try.f122))) (i1 := blkId (seqA (seqA (rest 2 (bodyOf Try.f122))))) (i2 := blkId (seqB (seqA (rest 2 (bodyOf Try.f122))))) (i3 := blkId (seqA (inB' (inB' (seqB (seqA (rest 2 (bodyOf Try.f122)))))))) (i4 := blkId (seqB (seqB (inB' (inB' (seqB (seqA (rest 2 (bodyOf Try.f122))))))))) (i5 := blkId (seqA (inB' (seqB (seqB (inB' (inB' (seqB (seqA (rest 2 (bodyOf Try.f122))))))))))) (n := 40) (ops1 := regArr (seqA (seqA (rest 2 (bodyOf Try.f122))))) (ops3 := regArr (seqA (inB' (inB' (seqB (seqA (rest 2 (bodyOf Try.f122)))))))) (ops5 := regArr (seqA (inB' (seqB (seqB (inB' (inB' (seqB (seqA (rest 2 (bodyOf Try.f122))))))))))) (T := 119) (K := 122) (E := 3) (o0 := opAt (seqA (seqA (rest 2 (bodyOf Try.f122)))) 0) (o1 := opAt (seqA (seqA (rest 2 (bodyOf Try.f122)))) 1) (o2 := opAt (seqA (inB' (inB' (seqB (seqA (rest 2 (bodyOf Try.f122))))))) 0) (o3 := opAt (seqA (inB' (inB' (seqB (seqA (rest 2 (bodyOf Try.f122))))))) 1) (o5 := opAt (seqA (inB' (seqB (seqB (inB' (inB' (seqB (seqA (rest 2 (bodyOf Try.f122)))))))))) 0) (l5 := opsIn (seqA (inB' (seqB (seqB (inB' (inB' (seqB (seqA (rest 2 (bodyOf Try.f122)))))))))) 1 9) (d0 := 22) (dr := 23) (dn := 24) (dc := 25) (de := 26)
    (by kernel_rfl) (by kernel_rfl) (by kernel_rfl) (of_decide_eq_true (by kernel_rfl)) (by kernel_rfl) codes_kd (by kernel_rfl) (by kernel_rfl) (by kernel_rfl) codes_codesAt (by kernel_rfl) (by kernel_rfl) (by kernel_rfl) (by kernel_rfl) (by kernel_rfl) (by kernel_rfl) (by kernel_rfl) (by kernel_rfl) (by kernel_rfl) (by kernel_rfl) (by kernel_rfl) (by kernel_rfl) (by kernel_rfl) (by kernel_rfl) (by kernel_rfl) (by kernel_rfl) (by kernel_rfl) (by kernel_rfl) (fun x y => by kernel_rfl) (fun x y k i v r => by kernel_rfl) (by kernel_rfl)
def dds_dx10_header_c1_tab (F : Nat) : List ToldF := [dds_header_c1_told F, format_Format_told F]
theorem dds_dx10_header_c1_all (F : Nat) : AllOk Try.prog (dds_dx10_header_c1_tab F) := ⟨dds_header_c1_ok F, format_Format_ok F, trivial⟩
def dds_dx10_header_c1_told (F : Nat) : ToldF := ⟨101, 2, [.segs [.hole (.int .i64), .hole (.int .i64), .hole (.int .i64), .hole (.int .i64), .hole (.int .i64), .hole (.int .i64), .const .nils, .const .nils] (.slot 0) true (some 0), .ptr 0 1 8, .row .u8 1 (.cell (.cap (.slot 1) 0) 0) false, .segs [.sl 2 1 .whole] (.cap (.slot 1) 0) false, .fn 1 100 [.ptr 3 1]], [.ty (.int .i64), .psegs 0 [.hole (.int .i64), .hole (.int .i64), .hole (.int .i64), .hole (.int .i64), .hole (.int .i64), .hole (.int .i64), .const .nils, .const .nils]], u7 (dds_dx10_header_c1 F)⟩
theorem dds_dx10_header_c1_ok (F : Nat) : (dds_dx10_header_c1_told F).ok Try.prog :=
  okF callable (dds_dx10_header_c1_all F) (fn := Try.f101) [] (by kernel_rfl) aN fun d => by kernel_rfl
def format_Letters_told (F : Nat) : ToldF := ⟨123, 1, [.slot 0 (.str)], [.ty (.int .i64), .ty (.int .i64)], u1 (format_Letters F)⟩
theorem format_Letters_ok (F : Nat) : (format_Letters_told F).ok Try.prog :=
  letters_spec callable (f := 123) (fn := Try.f123) (c3 := seqB (seqB (bodyOf Try.f123))) (i0 := blkId (seqA (bodyOf Try.f123))) (i1 := blkId (seqA (seqB (bodyOf Try.f123)))) (n := 16) (ops0 := regArr (seqA (bodyOf Try.f123))) (ops1 := regArr (seqA (seqB (bodyOf Try.f123)))) (T := 154) (K := 9) (E := 3) (om := opAt (seqA (seqB (bodyOf Try.f123))) 0) (ol := opAt (seqA (seqB (bodyOf Try.f123))) 10) (li := opsIn (seqA (seqB (bodyOf Try.f123))) 1 7) (l1 := opsIn (seqA (seqB (bodyOf Try.f123))) 8 2) (l2 := opsIn (seqA (seqB (bodyOf Try.f123))) 11 9) (dm := 7) (dk := 8) (ds := 9) (dl := 10)
    (by kernel_rfl) (by kernel_rfl) (by kernel_rfl) (of_decide_eq_true (by kernel_rfl)) (Maps.string_keyed (by kernel_rfl)) (by kernel_rfl) (by kernel_rfl) (fun w => by kernel_rfl) (by kernel_rfl) (by kernel_rfl) (by kernel_rfl) (by kernel_rfl) (by kernel_rfl) (by kernel_rfl) (by kernel_rfl) (fun s => by kernel_rfl) (by kernel_rfl) (fun a b h => insOf_eq h (by kernel_rfl)) (fun s b => by kernel_rfl) (fun v b => by kernel_rfl)
def dds_older_tab (F : Nat) : List ToldF := [format_Letters_told F]
theorem dds_older_all (F : Nat) : AllOk Try.prog (dds_older_tab F) := ⟨format_Letters_ok F, trivial⟩
def dds_older_told (F : Nat) : ToldF := ⟨102, 3, [.segs [.hole (.int .i64), .hole (.int .i64), .hole (.int .i64), .hole (.int .i64), .hole (.int .i64), .hole (.int .i64), .const .nils, .const .nils] (.slot 0) true (some 0), .ptr 0 1 8, .slot 1 (.str), .slot 2 (.int .i64)], [.ty (.int .i64), .psegs 0 [.hole (.int .i64), .hole (.int .i64), .hole (.int .i64), .hole (.int .i64), .hole (.int .i64), .hole (.int .i64), .const .nils, .const .nils]], u8 (dds_older F)⟩
theorem dds_older_ok (F : Nat) : (dds_older_told F).ok Try.prog :=
  okF callable (dds_older_all F) (fn := Try.f102) [] (by kernel_rfl) aN fun d => by kernel_rfl
def dds_header_tab (F : Nat) : List ToldF := [dds_at_told F, dds_header_c1_told F, dds_dx10_header_c1_told F, dds_older_told F]
theorem dds_header_all (F : Nat) : AllOk Try.prog (dds_header_tab F) := ⟨dds_at_ok F, dds_header_c1_ok F, dds_dx10_header_c1_ok F, dds_older_ok F, trivial⟩
def dds_header_told (F : Nat) : ToldF := ⟨66, 1, [.row .u8 1 (.slot 0) false], [.agg [.hole (.int .i64), .hole (.int .i64), .hole (.int .i64), .hole (.int .i64), .hole (.int .i64), .hole (.int .i64), .const .nils, .const .nils], .ty (.int .i64), .ty (.int .i64)], u1 (dds_header F)⟩
theorem dds_header_ok (F : Nat) : (dds_header_told F).ok Try.prog :=
  okF callable (dds_header_all F) (fn := Try.f66) [] (by kernel_rfl) aN fun d => by kernel_rfl
section
open Go.RowKit Go.Extern.Stop Go.Stop Go.Extern
theorem errors_Is1 (v : Value) (w : World) : (Extern.ReflectliteType.typeOf #[.iface 31 v]).run Try.prog w = .ok (.iface 141 (.agg #[.pointer (some ⟨1, 31, none⟩)])) w := by kernel_rfl
theorem errors_Is2 (w : World) : ((Extern.ReflectliteType.method fun t => do Go.Extern.Rtype.noPackHeld "Comparable" t; pure (.bool (← typeInfo t).comparable)) #[.agg #[.pointer (some ⟨1, 31, none⟩)]]).run Try.prog w = .ok (.bool true) w := by kernel_rfl
theorem errors_Is3 (v : Value) (w : World) : (Go.method 291 141 v "Comparable").run Try.prog w = .ok (152, v) w := by kernel_rfl
theorem errors_Is4 : (Try.prog.info? 31).map (·.comparable) = some true := by kernel_rfl
theorem errors_Is5 (v : Value) (xT : TypeId) (w : World) : (Instr.typeAssert (.iface 31 v) xT 143 true).run Try.prog w = .ok (.tuple #[.nilIface, .bool false]) w := run_typeAssert_lacksB Try.underlying143 (by kernel_rfl) (by kernel_rfl) v xT w
theorem errors_Is6 (v : Value) (xT : TypeId) (w : World) : (Instr.typeAssert (.iface 31 v) xT 146 true).run Try.prog w = .ok (.tuple #[.nilIface, .bool false]) w := run_typeAssert_lacksB Try.underlying146 (by kernel_rfl) (by kernel_rfl) v xT w
theorem errors_Is7 (v : Value) (xT : TypeId) (w : World) : (Instr.typeAssert (.iface 31 v) xT 148 true).run Try.prog w = .ok (.tuple #[.nilIface, .bool false]) w := run_typeAssert_lacksB Try.underlying148 (by kernel_rfl) (by kernel_rfl) v xT w
theorem errors_Is_calls (a b : Int) (w : World) : Calls Try.prog 67 #[.iface 31 (.int .i64 a), .iface 31 (.int .i64 b)] w fun e w' => e = .returned (.bool (a == b)) ∧ w' = w := by
  have h8 := @run_callFunc_extern Try.prog 103 _ Extern.ReflectliteType.typeOf Try.func103 (by kernel_rfl) (by kernel_rfl) (by kernel_rfl) (by kernel_rfl)
  obtain ⟨m, h32, cT⟩ : ∃ m : Array Value → Sem Value, (∀ args w, (callFunc 152 args).run Try.prog w = ((m args).run Try.prog w).andThen fun v w' => .ok (.value v) w') ∧ ∀ w, (m #[.agg #[.pointer (some ⟨1, 31, none⟩)]]).run Try.prog w = .ok (.bool true) w :=
    ⟨_, @run_callFunc_extern Try.prog 152 _ (Extern.ReflectliteType.method fun t => do Go.Extern.Rtype.noPackHeld "Comparable" t; pure (.bool (← typeInfo t).comparable)) Try.func152 (by kernel_rfl) (by kernel_rfl) (by kernel_rfl) (by kernel_rfl), errors_Is2⟩
  have tT := errors_Is1
  have mR := errors_Is3
  have nE := errors_Is5
  have uE := errors_Is6
  have vE := errors_Is7
  have heq := eq_held (P := Try.prog) w a b Try.underlying111 Try.underlying31 errors_Is4
  cases hab : a == b
  all_goals
    rw [hab] at heq
    go_enter Try.func67, Try.ntmps67
    go_wp2
    refine wp_loop_rounds 1 ?_
    rw [rounds_succ]
    go_wp2
    go_ret
    exact ⟨rfl, rfl⟩
end
def errors_Is_told (F : Nat) : ToldF := ⟨67, 2, [.ifc 0 31 .i64, .ifc 1 31 .i64], [.ty .bool], u2 (errors_Is F)⟩
theorem errors_Is_ok (F : Nat) : (errors_Is_told F).ok Try.prog := is_told errors_Is_calls
def slices_Clone_byte_byte_told (F : Nat) : ToldF := ⟨99, 1, [.row .u8 1 (.slot 0) false], [.row .u8 1], fun d => slices_Clone_byte_byte F d.1⟩
theorem slices_Clone_byte_byte_ok (F : Nat) : (slices_Clone_byte_byte_told F).ok Try.prog :=
  clone_spec callable (fn := Try.f99) (f := 99) (k := .u8) (sz := 1) (R0 := cloneR0 (bodyOf Try.f99)) (X := cloneX (bodyOf Try.f99)) (REST := cloneRest (bodyOf Try.f99)) (o3 := cloneO3 (bodyOf Try.f99)) (o4 := cloneO4 (bodyOf Try.f99)) (t := 43) (t' := 43) (e := 5) (i1 := 1) (by kernel_rfl) (by kernel_rfl) (by kernel_rfl) (by kernel_rfl) (by kernel_rfl) (by kernel_rfl) (by kernel_rfl)
    (cloneS1 1 .u8) (cloneS2 1 .u8)
    (fun l => by kernel_rfl) (fun l => by kernel_rfl) (fun l => ⟨rfl, rfl⟩) (fun l => by simp [cloneS2]) (fun l => by kernel_rfl) (fun l => by kernel_rfl)
def field_Part_tab (F : Nat) : List ToldF := [field_room_told F, slices_Clone_byte_byte_told F]
theorem field_Part_all (F : Nat) : AllOk Try.prog (field_Part_tab F) := ⟨field_room_ok F, slices_Clone_byte_byte_ok F, trivial⟩
def field_Part_told (F : Nat) : ToldF := ⟨65, 3, [.row .u8 1 (.slot 0) false, .slot 1 (.int .i64), .slot 2 (.int .i64)], [.row .u8 1, .ty (.int .i64)], u3 (field_Part F)⟩
theorem field_Part_ok (F : Nat) : (field_Part_told F).ok Try.prog :=
  okF callable (field_Part_all F) (fn := Try.f65) [] (by kernel_rfl) aN fun d => by kernel_rfl
def dds_Read_tab (F : Nat) : List ToldF := [layout_Header_told F, layout_Sizes_told F, dds_header_told F, errors_Is_told F, field_Part_told F]
theorem dds_Read_all (F : Nat) : AllOk Try.prog (dds_Read_tab F) := ⟨layout_Header_ok F, layout_Sizes_ok F, dds_header_ok F, errors_Is_ok F, field_Part_ok F, trivial⟩
def dds_Read_l3t (F : Nat) : TX := ⟨94, [.row .u8 1 (.slot 0) false, .segs [.const (.int .i64 (some 0) 0), .const (.int .i64 (some 0) 0), .const (.int .i64 (some 0) 0), .const (.int .i64 (some 0) 0), .const (.int .i64 (some 0) 0), .const (.int .i64 (some 0) 0), .const .nils, .const .nils] (.slot 4) true, .ptr 4 2 8, .drow (.row .u8 1) (.cell (.slot 6) 6) true, .segs [.hole (.int .i64), .hole (.int .i64), .hole (.int .i64), .hole (.int .i64), .hole (.int .i64), .hole (.int .i64), .sl 3 1 .own, .const .nils] (.slot 6) true, .ptr 6 4 8, .slot 7 (.int .i64), .row .i64 1 (.slot 10) true, .slot 58 (.int .i64), .slot 59 (.int .i64), .sl 61 5 1 .own, .slot 62 (.int .i64), .slot 63 (.int .i64)], [.segs [.const (.int .i64 (some 0) 0), .const (.int .i64 (some 0) 0), .const (.int .i64 (some 0) 0), .const (.int .i64 (some 0) 0), .const (.int .i64 (some 0) 0), .const (.int .i64 (some 0) 0), .const .nils, .const .nils] (.slot 4) true, .ptr 4 1 8, .const 5 (.int .i64 (some 2) 2)], [.row .u8 1 (.slot 0) false, .segs [.const (.int .i64 (some 0) 0), .const (.int .i64 (some 0) 0), .const (.int .i64 (some 0) 0), .const (.int .i64 (some 0) 0), .const (.int .i64 (some 0) 0), .const (.int .i64 (some 0) 0), .const .nils, .const .nils] (.slot 4) true, .ptr 4 2 8, .drow (.row .u8 1) (.cell (.slot 6) 6) true, .segs [.hole (.int .i64), .hole (.int .i64), .hole (.int .i64), .hole (.int .i64), .hole (.int .i64), .hole (.int .i64), .sl 3 1 .own, .const .nils] (.slot 6) true, .ptr 6 4 8, .slot 7 (.int .i64), .row .i64 1 (.slot 10) true, .slot 58 (.int .i64), .slot 59 (.int .i64)], .ret, 3, fun k => u14 (dds_Read_l3 F k), fun k => u14 (dds_Read_l3S F (dds_Read_l3 F k))⟩
theorem dds_Read_l3k (F : Nat) : (dds_Read_l3t F).ok Try.prog Try.f33 F :=
  okX callable (dds_Read_all F) [] aN (fun _ => rfl) (fun _ _ => rfl) (eR rfl) fun k d => by kernel_rfl
def dds_Read_l1t (F : Nat) : TX := ⟨94, [.row .u8 1 (.slot 0) false, .segs [.const (.int .i64 (some 0) 0), .const (.int .i64 (some 0) 0), .const (.int .i64 (some 0) 0), .const (.int .i64 (some 0) 0), .const (.int .i64 (some 0) 0), .const (.int .i64 (some 0) 0), .const .nils, .const .nils] (.slot 4) true, .ptr 4 2 8, .drow (.row .u8 1) (.cell (.slot 6) 6) true, .segs [.hole (.int .i64), .hole (.int .i64), .hole (.int .i64), .hole (.int .i64), .hole (.int .i64), .hole (.int .i64), .sl 3 1 .own, .const .nils] (.slot 6) true, .ptr 6 4 8, .slot 7 (.int .i64), .row .i64 1 (.slot 10) true, .slot 58 (.int .i64), .slot 59 (.int .i64)], [.segs [.const (.int .i64 (some 0) 0), .const (.int .i64 (some 0) 0), .const (.int .i64 (some 0) 0), .const (.int .i64 (some 0) 0), .const (.int .i64 (some 0) 0), .const (.int .i64 (some 0) 0), .const .nils, .const .nils] (.slot 4) true, .ptr 4 1 8, .const 5 (.int .i64 (some 2) 2)], [.row .u8 1 (.slot 0) false, .segs [.const (.int .i64 (some 0) 0), .const (.int .i64 (some 0) 0), .const (.int .i64 (some 0) 0), .const (.int .i64 (some 0) 0), .const (.int .i64 (some 0) 0), .const (.int .i64 (some 0) 0), .const .nils, .const .nils] (.slot 4) true, .ptr 4 2 8, .drow (.row .u8 1) (.cell (.slot 6) 6) true, .segs [.hole (.int .i64), .hole (.int .i64), .hole (.int .i64), .hole (.int .i64), .hole (.int .i64), .hole (.int .i64), .sl 3 1 .own, .const .nils] (.slot 6) true, .ptr 6 4 8, .slot 7 (.int .i64)], .ret, 1, fun k => u12 (dds_Read_l1 F k), fun k => u12 (dds_Read_l1S F (dds_Read_l1 F k))⟩
theorem dds_Read_l1k (F : Nat) : (dds_Read_l1t F).ok Try.prog Try.f33 F :=
  okX callable (dds_Read_all F) [(3, (dds_Read_l3t F).ann F)] (aX (by kernel_rfl) (dds_Read_l3k F) aN) (fun _ => rfl) (fun _ _ => rfl) (eR rfl) fun k d => by kernel_rfl
def dds_Read_told (F : Nat) : ToldF := ⟨33, 2, [.row .u8 1 (.slot 0) false, .slot 1 (.agg [.int .i64, .int .i64, .int .i64])], [.agg [.hole (.int .i64), .hole (.int .i64), .hole (.int .i64), .hole (.int .i64), .hole (.int .i64), .hole (.int .i64), .hole (.dsl (.row .u8 1)), .const .nils], .ty (.int .i64)], u2 (dds_Read F)⟩
theorem dds_Read_ok (F : Nat) : (dds_Read_told F).ok Try.prog :=
  okF callable (dds_Read_all F) (fn := Try.f33) [(3, (dds_Read_l3t F).ann F), (1, (dds_Read_l1t F).ann F)] (by kernel_rfl) (aX (by kernel_rfl) (dds_Read_l3k F) (aX (by kernel_rfl) (dds_Read_l1k F) aN)) fun d => by kernel_rfl
def ref01_Same_tab (F : Nat) : List ToldF := []
theorem ref01_Same_all (F : Nat) : AllOk Try.prog (ref01_Same_tab F) := trivial
def ref01_Same_l0t (F : Nat) : TX := ⟨26, [.row .u8 1 (.slot 0) false, .row .u8 1 (.slot 1) false, .slot 5 (.int .i64)], [.const 4 (.bool (some false) false)], [], .ret, 0, fun k => u3 (ref01_Same_l0 F k), fun k => u3 (ref01_Same_l0S F (ref01_Same_l0 F k))⟩
theorem ref01_Same_l0k (F : Nat) : (ref01_Same_l0t F).ok Try.prog Try.f31 F :=
  okX callable (ref01_Same_all F) [] aN (fun _ => rfl) (fun _ _ => rfl) (eR rfl) fun k d => by kernel_rfl
def ref01_Same_told (F : Nat) : ToldF := ⟨31, 2, [.row .u8 1 (.slot 0) false, .row .u8 1 (.slot 1) false], [.ty (.bool)], u2 (ref01_Same F)⟩
theorem ref01_Same_ok (F : Nat) : (ref01_Same_told F).ok Try.prog :=
  okF callable (ref01_Same_all F) (fn := Try.f31) [(0, (ref01_Same_l0t F).ann F)] (by kernel_rfl) (aX (by kernel_rfl) (ref01_Same_l0k F) aN) fun d => by kernel_rfl
def ref17_Same_tab (F : Nat) : List ToldF := [ref01_Same_told F]
theorem ref17_Same_all (F : Nat) : AllOk Try.prog (ref17_Same_tab F) := ⟨ref01_Same_ok F, trivial⟩
def ref17_Same_l0t (F : Nat) : TX := ⟨102, [.segs [.hole (.int .i64), .hole (.int .i64), .hole (.int .i64), .hole (.int .i64), .hole (.int .i64), .hole (.int .i64), .hole (.dsl (.row .u8 1)), .hole (.dsl (.pair))] (.slot 2) true, .ptr 2 1 8, .segs [.hole (.int .i64), .hole (.int .i64), .hole (.int .i64), .hole (.int .i64), .hole (.int .i64), .hole (.int .i64), .hole (.dsl (.row .u8 1)), .hole (.dsl (.pair))] (.slot 3) true, .ptr 3 2 8, .slot 5 (.int .i64)], [.const 4 (.bool (some false) false)], [.segs [.hole (.int .i64), .hole (.int .i64), .hole (.int .i64), .hole (.int .i64), .hole (.int .i64), .hole (.int .i64), .hole (.dsl (.row .u8 1)), .hole (.dsl (.pair))] (.slot 2) true, .ptr 2 1 8, .segs [.hole (.int .i64), .hole (.int .i64), .hole (.int .i64), .hole (.int .i64), .hole (.int .i64), .hole (.int .i64), .hole (.dsl (.row .u8 1)), .hole (.dsl (.pair))] (.slot 3) true, .ptr 3 2 8], .ret, 0, fun k => u17 (ref17_Same_l0 F k), fun k => u17 (ref17_Same_l0S F (ref17_Same_l0 F k))⟩
theorem ref17_Same_l0k (F : Nat) : (ref17_Same_l0t F).ok Try.prog Try.f19 F :=
  okX callable (ref17_Same_all F) [] aN (fun _ => rfl) (fun _ _ => rfl) (eR rfl) fun k d => by kernel_rfl
def ref17_Same_l2t (F : Nat) : TX := ⟨102, [.segs [.hole (.int .i64), .hole (.int .i64), .hole (.int .i64), .hole (.int .i64), .hole (.int .i64), .hole (.int .i64), .hole (.dsl (.row .u8 1)), .hole (.dsl (.pair))] (.slot 2) true, .ptr 2 1 8, .segs [.hole (.int .i64), .hole (.int .i64), .hole (.int .i64), .hole (.int .i64), .hole (.int .i64), .hole (.int .i64), .hole (.dsl (.row .u8 1)), .hole (.dsl (.pair))] (.slot 3) true, .ptr 3 2 8, .slot 6 (.int .i64)], [.const 4 (.bool (some false) false)], [], .ret, 2, fun k => u17 (ref17_Same_l2 F k), fun k => u17 (ref17_Same_l2S F (ref17_Same_l2 F k))⟩
theorem ref17_Same_l2k (F : Nat) : (ref17_Same_l2t F).ok Try.prog Try.f19 F :=
  okX callable (ref17_Same_all F) [] aN (fun _ => rfl) (fun _ _ => rfl) (eR rfl) fun k d => by kernel_rfl
def ref17_Same_told (F : Nat) : ToldF := ⟨19, 2, [.slot 0 (.agg [.int .i64, .int .i64, .int .i64, .int .i64, .int .i64, .int .i64, .dsl (.row .u8 1), .dsl (.pair)]), .slot 1 (.agg [.int .i64, .int .i64, .int .i64, .int .i64, .int .i64, .int .i64, .dsl (.row .u8 1), .dsl (.pair)])], [.ty (.bool)], u2 (ref17_Same F)⟩
theorem ref17_Same_ok (F : Nat) : (ref17_Same_told F).ok Try.prog :=
  okF callable (ref17_Same_all F) (fn := Try.f19) [(0, (ref17_Same_l0t F).ann F), (2, (ref17_Same_l2t F).ann F)] (by kernel_rfl) (aX (by kernel_rfl) (ref17_Same_l0k F) (aX (by kernel_rfl) (ref17_Same_l2k F) aN)) fun d => by kernel_rfl
def law18_awake_tab (F : Nat) : List ToldF := [dds_Write_told F, ref17_Wide_told F, dds_Read_told F, ref17_Same_told F]
theorem law18_awake_all (F : Nat) : AllOk Try.prog (law18_awake_tab F) := ⟨dds_Write_ok F, ref17_Wide_ok F, dds_Read_ok F, ref17_Same_ok F, trivial⟩
def law18_awake_told (F : Nat) : ToldF := ⟨32, 0, [], [.ty (.bool)], u0 (law18_awake F)⟩
theorem law18_awake_ok (F : Nat) : (law18_awake_told F).ok Try.prog :=
  okF callable (law18_awake_all F) (fn := Try.f32) [] (by kernel_rfl) aN fun d => by kernel_rfl
def law18_DdsAgain_tab (F : Nat) : List ToldF := [layout_Check_told F, dds_Write_told F, ref17_Wide_told F, dds_Read_told F, ref01_Same_told F, ref17_Same_told F, law18_awake_told F]
theorem law18_DdsAgain_all (F : Nat) : AllOk Try.prog (law18_DdsAgain_tab F) := ⟨layout_Check_ok F, dds_Write_ok F, ref17_Wide_ok F, dds_Read_ok F, ref01_Same_ok F, ref17_Same_ok F, law18_awake_ok F, trivial⟩
def law18_DdsAgain_told (F : Nat) : ToldF := ⟨9, 1, [.row .u8 1 (.slot 0) false], [.ty (.bool)], u1 (law18_DdsAgain F)⟩
theorem law18_DdsAgain_ok (F : Nat) : (law18_DdsAgain_told F).ok Try.prog :=
  okF callable (law18_DdsAgain_all F) (fn := Try.f9) [] (by kernel_rfl) aN fun d => by kernel_rfl
end Go.Proofs.Ytcjfigcbloploaa
set_option linter.unusedSimpArgs false
set_option linter.unusedVariables false
namespace Go.AE.Gn
open Go Go.AE
theorem w64 {x : Int} (h1 : -9223372036854775808 ≤ x) (h2 : x ≤ 9223372036854775807) : IntKind.wrap .i64 x = x := wrap_id (has_iff.2 ⟨h1, h2⟩)
theorem beqF {a b : Int} (h : a ≠ b) : (a == b) = false := by simpa using h
theorem bneT {a b : Int} (h : a ≠ b) : (a != b) = true := by simpa using h
def Bytes (b : List Int) : Prop := ∀ x ∈ b, 0 ≤ x ∧ x ≤ 255
theorem Bytes.getD {b : List Int} (h : Bytes b) (i : Nat) : 0 ≤ b.getD i 0 ∧ b.getD i 0 ≤ 255 := by
  rw [List.getD_eq_getElem?_getD]
  by_cases hi : i < b.length
  · rw [List.getElem?_eq_getElem hi]
    exact h _ (List.getElem_mem hi)
  · rw [List.getElem?_eq_none (by omega)]
    simp
theorem Bytes.set {b : List Int} (h : Bytes b) {i : Nat} {v : Int} (hv : 0 ≤ v ∧ v ≤ 255) : Bytes (b.set i v) := by
  intro x hx
  rcases List.mem_or_eq_of_mem_set hx with hx | rfl
  · exact h x hx
  · exact hv
def sumLo (f : Nat → Int) : Nat → Int
  | 0 => 0
  | n + 1 => sumLo f n + f n * 2 ^ n
def sumHi (f : Nat → Int) : Nat → Int
  | 0 => 0
  | n + 1 => 2 * sumHi f n + f n
theorem tdiv_nonneg {x y : Int} (h : 0 ≤ x) : x.tdiv y = x / y := Int.tdiv_eq_ediv_of_nonneg h
theorem tmod_nonneg {x y : Int} (h : 0 ≤ x) : x.tmod y = x % y := Int.tmod_eq_emod_of_nonneg h
end Go.AE.Gn
set_option linter.unusedVariables false
set_option linter.unusedSimpArgs false
namespace Go.AE.Gn
open Go Go.AE
def sd (w i : Nat) : Nat := max (w / 2 ^ i) 1
theorem sd_zero {w : Nat} (h : 1 ≤ w) : sd w 0 = w := by
  simp only [sd, Nat.pow_zero, Nat.div_one]
  omega
theorem sd_half (w i : Nat) : sd (max (w / 2) 1) i = sd w (i + 1) := by
  simp only [sd]
  rw [Nat.pow_succ, Nat.mul_comm, ← Nat.div_div_eq_div_mul]
  rcases Nat.lt_or_ge (w / 2) 1 with h | h
  · have h0 : w / 2 = 0 := by omega
    rw [h0, Nat.zero_div]
    have : (max 0 1) / 2 ^ i ≤ 1 := Nat.div_le_self _ _
    omega
  · rw [Nat.max_eq_left h]
theorem sd_le (w i : Nat) (h : 1 ≤ w) : sd w i ≤ w := by
  have := Nat.div_le_self w (2 ^ i)
  simp only [sd]
  omega
theorem sd_pos (w i : Nat) : 1 ≤ sd w i := by simp only [sd]; omega
theorem half_is (F : Nat) {w : Nat} (h : w ≤ 9223372036854775808) : mip_half F (w : Int) = some (((max (w / 2) 1 : Nat) : Int), ()) := by
  unfold mip_half
  have e : Int.tdiv (w : Int) 2 = ((w / 2 : Nat) : Int) := rfl
  rw [e, wrap_id (by rw [has_iff]; simp only [loB, hiB]; omega)]
  congr 2
  omega
theorem sizes_is (F : Nat) : ∀ (n k w h : Nat), 1 ≤ w → 1 ≤ h → w < 2 ^ (n + 1) → h < 2 ^ (n + 1) → (2 ^ n ≤ w ∨ 2 ^ n ≤ h) → n < k → n ≤ 62 →
    sizesL (mip_half F) k (w : Int) (h : Int) = some ((List.range (n + 1)).map fun i => (((sd w i : Nat) : Int), ((sd h i : Nat) : Int)))
  | n, 0, w, h, _, _, _, _, _, hk, _ => by omega
  | 0, k + 1, w, h, w1, h1, w2, h2, _, _, _ => by
    obtain rfl : w = 1 := by omega
    obtain rfl : h = 1 := by omega
    rfl
  | n + 1, k + 1, w, h, w1, h1, w2, h2, hm, hk, hn => by
    have big : (2 : Nat) ^ (n + 2) ≤ 2 ^ 63 := Nat.pow_le_pow_right (by omega) (by omega)
    have p2 : (2 : Nat) ^ (n + 1) = 2 ^ n * 2 := Nat.pow_succ 2 n
    have p3 : (2 : Nat) ^ (n + 2) = 2 ^ (n + 1) * 2 := Nat.pow_succ 2 (n + 1)
    have p0 : 1 ≤ (2 : Nat) ^ n := Nat.one_le_two_pow
    have ih := sizes_is F n k (max (w / 2) 1) (max (h / 2) 1) (by omega) (by omega) (by omega) (by omega) (by omega) (by omega) (by omega)
    have hw := half_is F (w := w) (by omega)
    have hh := half_is F (w := h) (by omega)
    have key : ((mip_half F (w : Int)).bind fun a => (mip_half F (h : Int)).bind fun b => sizesL (mip_half F) k a.1 b.1) = some ((List.range (n + 1)).map fun i => (((sd w (i + 1) : Nat) : Int), ((sd h (i + 1) : Nat) : Int))) := by
      rw [hw, Option.bind_some, hh, Option.bind_some, ih]
      simp only [sd_half]
    unfold sizesL
    have a1 : ((1 : Int) ≤ (w : Int)) := by omega
    have a2 : ((1 : Int) ≤ (h : Int)) := by omega
    rw [decide_eq_true a1, decide_eq_true a2, cond_true, cond_true]
    have fin : cons1 ((w : Int), (h : Int)) (some ((List.range (n + 1)).map fun i => (((sd w (i + 1) : Nat) : Int), ((sd h (i + 1) : Nat) : Int)))) = some ((List.range (n + 1 + 1)).map fun i => (((sd w i : Nat) : Int), ((sd h i : Nat) : Int))) := by
      rw [List.range_succ_eq_map (n := n + 1), List.map_cons, List.map_map, sd_zero w1, sd_zero h1]
      rfl
    rw [key]
    rcases Nat.lt_or_ge 1 w with c | c
    · rw [decide_eq_true (show (1 : Int) < (w : Int) by omega), cond_true, fin]
    · rw [decide_eq_false (show ¬ (1 : Int) < (w : Int) by omega), cond_false, decide_eq_true (show (1 : Int) < (h : Int) by omega), cond_true, fin]
theorem count_run (F : Nat) : ∀ (l : List (Int × Int)) (c : Nat), c + l.length ≤ 4611686018427387904 → runL (fun x => u1 (mip_Levels_r F x)) l ((c : Int), ()) = some (.inl (((c + l.length : Nat) : Int), ()))
  | [], c, _ => rfl
  | x :: r, c, h => by
    simp only [List.length_cons] at h
    have e : u1 (mip_Levels_r F x) ((c : Int), ()) = some (.inl (((c + 1 : Nat) : Int), ())) := by
      show mip_Levels_r F x (c : Int) = _
      unfold mip_Levels_r
      rw [wrap_id (by rw [has_iff]; simp only [loB, hiB]; omega)]
      rfl
    unfold runL
    rw [e]
    show runL _ r _ = _
    rw [count_run F r (c + 1) (by omega), List.length_cons]
    congr 3
    omega
theorem levels_is {F n w h : Nat} (w1 : 1 ≤ w) (h1 : 1 ≤ h) (w2 : w < 2 ^ (n + 1)) (h2 : h < 2 ^ (n + 1)) (hm : 2 ^ n ≤ w ∨ 2 ^ n ≤ h) (hF : n < F) (hn : n ≤ 62) :
    mip_Levels F (w : Int) (h : Int) = some (((n + 1 : Nat) : Int), ()) := by
  unfold mip_Levels mip_sizes_c1
  rw [sizes_is F n F w h w1 h1 w2 h2 hm hF hn, Option.bind_some]
  have := count_run F ((List.range (n + 1)).map fun i => (((sd w i : Nat) : Int), ((sd h i : Nat) : Int))) 0 (by simp; omega)
  rw [show ((0 : Nat) : Int) = 0 from rfl] at this
  rw [this, Option.bind_some]
  simp
theorem side_run (F : Nat) (w i : Nat) : ∀ (m j : Nat) (last : Int), j ≤ i → i ≤ 4611686018427387904 →
    runL (fun x => u2 (mip_Side_r F x)) ((List.range' j m).map fun t => (((sd w t : Nat) : Int), ((sd 1 t : Nat) : Int))) (((i - j : Nat) : Int), (last, ())) =
      if i < j + m then some (.inr (((sd w i : Nat) : Int), ())) else some (.inl (((i - j - m : Nat) : Int), ((if m = 0 then last else ((sd w (j + m - 1) : Nat) : Int)), ())))
  | 0, j, last, hj, hi => by
    rw [if_neg (by omega)]
    rfl
  | m + 1, j, last, hj, hi => by
    rw [List.range'_succ, List.map_cons]
    unfold runL
    by_cases h0 : i = j
    · subst h0
      have e : u2 (mip_Side_r F (((sd w i : Nat) : Int), ((sd 1 i : Nat) : Int))) (((i - i : Nat) : Int), (last, ())) = some (.inr (((sd w i : Nat) : Int), ())) := by
        show mip_Side_r F _ ((i - i : Nat) : Int) last = _
        unfold mip_Side_r
        rw [Nat.sub_self]
        rfl
      rw [e, if_pos (by omega)]
    · have e : u2 (mip_Side_r F (((sd w j : Nat) : Int), ((sd 1 j : Nat) : Int))) (((i - j : Nat) : Int), (last, ())) = some (.inl (((i - (j + 1) : Nat) : Int), (((sd w j : Nat) : Int), ()))) := by
        show mip_Side_r F _ ((i - j : Nat) : Int) last = _
        unfold mip_Side_r
        have h1 : (((i - j : Nat) : Int) == 0) = false := by rw [beq_eq_false_iff_ne]; omega
        rw [h1, cond_false, wrap_id (by rw [has_iff]; simp only [loB, hiB]; omega)]
        congr 3
        omega
      rw [e]
      show runL _ _ _ = _
      rw [side_run F w i m (j + 1) _ (by omega) hi]
      by_cases h2 : i < j + (m + 1)
      · rw [if_pos (by omega), if_pos h2]
      · rw [if_neg (by omega), if_neg h2]
        rw [if_neg (show ¬ m + 1 = 0 by omega), show i - (j + 1) - m = i - j - (m + 1) by omega, show j + (m + 1) - 1 = j + 1 + m - 1 by omega]
        by_cases h3 : m = 0
        · subst h3; simp
        · rw [if_neg h3]
theorem log_lt {w : Nat} (h : 1 ≤ w) : 2 ^ Nat.log2 w ≤ w ∧ w < 2 ^ (Nat.log2 w + 1) := ⟨Nat.log2_self_le (by omega), Nat.lt_log2_self⟩
theorem log_le {w n : Nat} (h : 1 ≤ w) (hw : w < 2 ^ (n + 1)) : Nat.log2 w ≤ n := by
  rcases Nat.lt_or_ge n (Nat.log2 w) with c | c
  · have := (log_lt h).1
    have := Nat.pow_le_pow_right (n := 2) (by omega) c
    omega
  · exact c
theorem side_is {F w i : Nat} (w1 : 1 ≤ w) (wb : w < 9223372036854775808) (hi : i ≤ 4611686018427387904) (hF : 63 ≤ F) : mip_Side F (w : Int) (i : Int) = some (((sd w i : Nat) : Int), ()) := by
  unfold mip_Side mip_sizes_c1
  rw [decide_eq_false (show ¬ ((i : Int) < 0) by omega), cond_false]
  obtain ⟨l1, l2⟩ := log_lt w1
  have ln : Nat.log2 w ≤ 62 := log_le w1 (by omega)
  have hs := sizes_is F (Nat.log2 w) F w 1 w1 (by omega) l2 (by have := Nat.one_le_two_pow (n := Nat.log2 w); rw [Nat.pow_succ]; omega) (.inl l1) (by omega) ln
  rw [show ((1 : Nat) : Int) = 1 from rfl] at hs
  rw [hs, Option.bind_some]
  have hr := side_run F w i (Nat.log2 w + 1) 0 0 (by omega) hi
  rw [← List.range_eq_range', Nat.sub_zero] at hr
  rw [hr]
  by_cases h : i < 0 + (Nat.log2 w + 1)
  · rw [if_pos h]
    rfl
  · rw [if_neg h, if_neg (by omega)]
    show some (((sd w (0 + (Nat.log2 w + 1) - 1) : Nat) : Int), ()) = _
    have e1 : sd w (0 + (Nat.log2 w + 1) - 1) = 1 := by
      rw [show 0 + (Nat.log2 w + 1) - 1 = Nat.log2 w by omega]
      simp only [sd]
      have : w / 2 ^ Nat.log2 w < 2 := (Nat.div_lt_iff_lt_mul (Nat.two_pow_pos _)).2 (by rw [Nat.mul_comm, ← Nat.pow_succ]; exact l2)
      omega
    have e2 : sd w i = 1 := by
      simp only [sd]
      have : w / 2 ^ i = 0 := Nat.div_eq_of_lt (Nat.lt_of_lt_of_le l2 (Nat.pow_le_pow_right (by omega) (by omega)))
      omega
    rw [e1, e2]
theorem rside_run (F : Nat) : ∀ (k w i j : Nat), 1 ≤ w → w ≤ 9223372036854775808 → j ≤ i → i ≤ 4611686018427387904 → w < 2 ^ k → ref05_Side_l0 F (k + 1) (w : Int) (i : Int) (j : Int) = some (((sd w (i - j) : Nat) : Int), ())
  | 0, w, i, j, w1, wb, hj, hi, hw => by omega
  | k + 1, w, i, j, w1, wb, hj, hi, hw => by
    unfold ref05_Side_l0 ref05_Side_l0S
    by_cases h : j < i
    · rw [decide_eq_true (show (j : Int) < (i : Int) by omega), cond_true]
      by_cases h2 : 1 < w
      · rw [decide_eq_true (show (1 : Int) < (w : Int) by omega), cond_true]
        have e1 : IntKind.wrap .i64 (Int.tdiv (w : Int) 2) = ((w / 2 : Nat) : Int) := by
          rw [show Int.tdiv (w : Int) 2 = ((w / 2 : Nat) : Int) from rfl, wrap_id (by rw [has_iff]; simp only [loB, hiB]; omega)]
        have e2 : IntKind.wrap .i64 ((j : Int) + 1) = ((j + 1 : Nat) : Int) := by
          rw [wrap_id (by rw [has_iff]; simp only [loB, hiB]; omega)]
          omega
        rw [e1, e2, rside_run F k (w / 2) i (j + 1) (by omega) (by omega) (by omega) hi (by rw [Nat.pow_succ] at hw; omega)]
        have := sd_half w (i - (j + 1))
        rw [Nat.max_eq_left (by omega), show i - (j + 1) + 1 = i - j by omega] at this
        rw [this]
      · rw [decide_eq_false (show ¬ (1 : Int) < (w : Int) by omega), cond_false]
        obtain rfl : w = 1 := by omega
        have : sd 1 (i - j) = 1 := by
          have := sd_le 1 (i - j) (by omega)
          have := sd_pos 1 (i - j)
          omega
        rw [this]
    · rw [decide_eq_false (show ¬ (j : Int) < (i : Int) by omega), cond_false, show i - j = 0 by omega, sd_zero w1]
theorem rside_is {F w i : Nat} (w1 : 1 ≤ w) (wb : w < 9223372036854775808) (hi : i ≤ 4611686018427387904) (hF : 64 ≤ F) : ref05_Side F (w : Int) (i : Int) = some (((sd w i : Nat) : Int), ()) := by
  unfold ref05_Side
  rw [decide_eq_false (show ¬ ((w : Int) < 1) by omega), cond_false, decide_eq_false (show ¬ ((i : Int) < 0) by omega), cond_false]
  obtain ⟨k, rfl⟩ : ∃ k, F = k + 1 := ⟨F - 1, by omega⟩
  have hk : (2 : Nat) ^ 63 ≤ 2 ^ k := Nat.pow_le_pow_right (by omega) (by omega)
  have := rside_run (k + 1) k w i 0 w1 (by omega) (by omega) hi (by omega)
  rw [show ((0 : Nat) : Int) = 0 from rfl, Nat.sub_zero] at this
  rw [this]
  rfl
theorem half_wrap {w : Nat} (h : w ≤ 9223372036854775808) : max (IntKind.wrap .i64 (Int.tdiv (w : Int) 2)) 1 = ((max (w / 2) 1 : Nat) : Int) := by
  rw [show Int.tdiv (w : Int) 2 = ((w / 2 : Nat) : Int) from rfl, wrap_id (by rw [has_iff]; simp only [loB, hiB]; omega)]
  omega
theorem rlevels_run (F : Nat) : ∀ (n k w h c : Nat), 1 ≤ w → 1 ≤ h → w < 2 ^ (n + 1) → h < 2 ^ (n + 1) → (2 ^ n ≤ w ∨ 2 ^ n ≤ h) → n < k → n ≤ 62 → c + n ≤ 1000 →
    ref05_Levels_l0 F k (w : Int) (h : Int) (c : Int) = some (((c + n : Nat) : Int), ())
  | n, 0, w, h, c, _, _, _, _, _, hk, _, _ => by omega
  | 0, k + 1, w, h, c, w1, h1, w2, h2, _, _, _, _ => by
    obtain rfl : w = 1 := by omega
    obtain rfl : h = 1 := by omega
    rfl
  | n + 1, k + 1, w, h, c, w1, h1, w2, h2, hm, hk, hn, hc => by
    have big : (2 : Nat) ^ (n + 2) ≤ 2 ^ 63 := Nat.pow_le_pow_right (by omega) (by omega)
    have p2 : (2 : Nat) ^ (n + 1) = 2 ^ n * 2 := Nat.pow_succ 2 n
    have p3 : (2 : Nat) ^ (n + 2) = 2 ^ (n + 1) * 2 := Nat.pow_succ 2 (n + 1)
    have p0 : 1 ≤ (2 : Nat) ^ n := Nat.one_le_two_pow
    have ih := rlevels_run F n k (max (w / 2) 1) (max (h / 2) 1) (c + 1) (by omega) (by omega) (by omega) (by omega) (by omega) (by omega) (by omega) (by omega)
    have e : IntKind.wrap .i64 ((c : Int) + 1) = ((c + 1 : Nat) : Int) := by
      rw [wrap_id (by rw [has_iff]; simp only [loB, hiB]; omega)]
      omega
    unfold ref05_Levels_l0 ref05_Levels_l0S
    rw [half_wrap (show w ≤ _ by omega), half_wrap (show h ≤ _ by omega), e, ih]
    have fin : (some (((c + 1 + n : Nat) : Int), ()) : Option (Int × Unit)) = some (((c + (n + 1) : Nat) : Int), ()) := by
      rw [show c + 1 + n = c + (n + 1) by omega]
    rw [fin]
    rcases Nat.lt_or_ge 1 w with q | q
    · rw [decide_eq_true (show (1 : Int) < (w : Int) by omega), cond_true]
    · rw [decide_eq_false (show ¬ (1 : Int) < (w : Int) by omega), cond_false, decide_eq_true (show (1 : Int) < (h : Int) by omega), cond_true]
theorem rlevels_is {F n w h : Nat} (w1 : 1 ≤ w) (h1 : 1 ≤ h) (w2 : w < 2 ^ (n + 1)) (h2 : h < 2 ^ (n + 1)) (hm : 2 ^ n ≤ w ∨ 2 ^ n ≤ h) (hF : n < F) (hn : n ≤ 62) :
    ref05_Levels F (w : Int) (h : Int) = some (((n + 1 : Nat) : Int), ()) := by
  unfold ref05_Levels
  rw [decide_eq_false (show ¬ ((w : Int) < 1) by omega), cond_false, decide_eq_false (show ¬ ((h : Int) < 1) by omega), cond_false]
  have := rlevels_run F n F w h 1 w1 h1 w2 h2 hm hF hn (by omega)
  rw [show ((1 : Nat) : Int) = 1 from rfl] at this
  rw [this, Option.bind_some]
  show some (((1 + n : Nat) : Int), ()) = _
  rw [Nat.add_comm]
def lv17 (w h : Nat) : Nat := Nat.log2 (max w h)
theorem lv17_spec {w h : Nat} (w1 : 1 ≤ w) (h1 : 1 ≤ h) : w < 2 ^ (lv17 w h + 1) ∧ h < 2 ^ (lv17 w h + 1) ∧ (2 ^ lv17 w h ≤ w ∨ 2 ^ lv17 w h ≤ h) := by
  obtain ⟨a, b⟩ := log_lt (w := max w h) (by omega)
  unfold lv17
  omega
theorem lv17_le {w h : Nat} (w1 : 1 ≤ w) (h1 : 1 ≤ h) (wb : w < 9223372036854775808) (hb : h < 9223372036854775808) : lv17 w h ≤ 62 := log_le (w := max w h) (by omega) (by omega)
theorem Levels17 {F w h : Nat} (w1 : 1 ≤ w) (h1 : 1 ≤ h) (wb : w < 9223372036854775808) (hb : h < 9223372036854775808) (hF : 63 ≤ F) :
    mip_Levels F (w : Int) (h : Int) = some (((lv17 w h + 1 : Nat) : Int), ()) ∧ ref05_Levels F (w : Int) (h : Int) = some (((lv17 w h + 1 : Nat) : Int), ()) := by
  obtain ⟨a, b, c⟩ := lv17_spec w1 h1
  have d := lv17_le w1 h1 wb hb
  exact ⟨levels_is w1 h1 a b c (by omega) d, rlevels_is w1 h1 a b c (by omega) d⟩
end Go.AE.Gn
set_option linter.unusedSimpArgs false
set_option linter.unusedVariables false
namespace Go.AE.Gn
open Go Go.AE
def bitL (x : Int) (j : Nat) : Int := x / 2 ^ j % 2
def lowBit (b : List Int) (i : Nat) : Int := bitL (b.getD (i / 8) 0) (i % 8)
def highBit (b : List Int) (i : Nat) : Int := bitL (b.getD (i / 8) 0) (7 - i % 8)
def chk (len : Nat) (at_ n : Int) : Int := if at_ < 0 ∨ n < 0 ∨ 64 < n then 1 else if at_ + n ≤ 8 * (len : Int) then 0 else 2
def setB (x : Int) (k : Nat) (v : Int) : Int := x - bitL x k * 2 ^ k + v * 2 ^ k
def sets (pos : Nat → Nat × Nat) (n : Int) (b : List Int) : Nat → List Int
  | 0 => b
  | i + 1 => (sets pos n b i).set (pos i).1 (setB ((sets pos n b i).getD (pos i).1 0) (pos i).2 (n / 2 ^ i % 2))
def posHi (A N i : Nat) : Nat × Nat := ((A + (N - 1 - i)) / 8, 7 - (A + (N - 1 - i)) % 8)
end Go.AE.Gn
set_option linter.unusedSimpArgs false
set_option linter.unusedVariables false
namespace Go.AE.Gn
open Go Go.AE
theorem nextI {i : Nat} (h : i < 1000000000000) : IntKind.wrap .i64 ((i : Int) + 1) = ((i + 1 : Nat) : Int) := by rw [w64 (by omega) (by omega)]; omega
def hv (b : List Int) (a n : Nat) : Int := sumHi (fun j => highBit b (a + j)) n
def lv (b : List Int) (a n : Nat) : Int := sumLo (fun j => lowBit b (a + j)) n
def hset (b : List Int) (a n : Nat) (v : Int) : List Int := sets (posHi a n) v b n
end Go.AE.Gn
set_option linter.unusedSimpArgs false
set_option linter.unusedVariables false
namespace Go.AE.Gn
open Go Go.AE
def wideS (b v : Nat) : Int := (List.range 8).foldl (fun o i => 2 * o + (((v / 2 ^ (b - 1 - i % b) % 2 : Nat)) : Int)) 0
def wideV (b : Nat) (x : Int) : Int := wideS b (x % 2 ^ b).toNat
def mixV (a b k o add : Int) : Int := (a * (o - k) + b * k + add) / o
end Go.AE.Gn
set_option linter.unusedSimpArgs false
set_option linter.unusedVariables false
namespace Go.AE.Gn
open Go Go.AE
def tab (N : Nat) (g : Nat → Int) : List Int := (List.range N).map g
theorem beqT {a b : Int} (h : a = b) : (a == b) = true := by simpa using h
end Go.AE.Gn
set_option linter.unusedVariables false
set_option linter.unusedSimpArgs false
namespace Go.AE.Gn
open Go Go.AE
structure BM where
  P : Nat
  W : Nat
  T : Nat
  H : Nat
  C : Nat
  A : Nat
  e : Nat
  o : Nat
  f : Nat
  s : Nat
  base : Nat
structure BM.Ok (m : BM) : Prop where
  P1 : 1 ≤ m.P
  P3 : m.P ≤ 3
  W6 : m.W ≤ 6
  T2 : m.T ≤ 2
  H1 : m.H ≤ 1
  C1 : 1 ≤ m.C
  C7 : m.C ≤ 7
  A8 : m.A ≤ 8
  e1 : m.e ≤ 1
  o1 : m.o ≤ 1
  eo : m.e + m.o ≤ 1
  Ce : m.C + m.e + m.o ≤ 8
  Ae : m.A + m.e + m.o ≤ 8
  f2 : 2 ≤ m.f
  f4 : m.f ≤ 4
  s3 : m.s ≤ 3
  s0 : m.s = 0 ∨ 2 ≤ m.s
  Hs : m.s = 0 → m.H = 0
  b8 : m.base ≤ 8
  all : m.base + m.W + m.T + m.H + 6 * m.P * m.C + 2 * m.P * m.A + 2 * m.P * m.e + m.P * m.o + (16 * m.f - m.P) + (if m.s = 0 then 0 else 16 * m.s - 1) ≤ 128
def e0 (b : List Int) (m : BM) (p0 : Nat) (j : Nat) : Int := if j % 4 = 3 then lv b (p0 + 6 * m.P * m.C + j / 4 * m.A) m.A else lv b (p0 + j % 4 * (2 * m.P * m.C) + j / 4 * m.C) m.C
def bitV (b : List Int) (m : BM) (p1 i : Nat) : Int := if m.e = 1 then lv b (p1 + i) 1 else if m.o = 1 then lv b (p1 + i / 2) 1 else 0
end Go.AE.Gn
set_option linter.unusedVariables false
set_option linter.unusedSimpArgs false
namespace Go.AE.Gn
open Go Go.AE
def wL (n : Nat) : List Int := if n = 2 then [0, 21, 43, 64] else if n = 3 then bctable_WeightsT6 else bctable_WeightsT7
def mx (a z p : Int) (n : Nat) : Int := mixV a z ((wL n).getD p.toNat 0) 64 32
end Go.AE.Gn
set_option linter.unusedVariables false
set_option linter.unusedSimpArgs false
namespace Go.AE.Gn
open Go Go.AE
def g1 (b : List Int) (m : BM) (p0 p1 j : Nat) : Int := 2 ^ (m.e + m.o) * e0 b m p0 j + bitV b m p1 (j / 4)
end Go.AE.Gn
set_option linter.unusedSimpArgs false
set_option linter.unusedVariables false
namespace Go.AE.Gn
open Go Go.AE
def eA (d : Bool) (b : List Int) (c : Nat) : Int := if d then hv b (8 * c) 5 else hv b (8 * c) 4
def n10 (d : Bool) (A B : List Int) (c : Nat) : Int := if d then A.getD c 0 + B.getD c 0 else B.getD c 0
def bad10 (A B : List Int) (c : Nat) : Prop := n10 true A B c < 0 ∨ 31 < n10 true A B c
instance (A B : List Int) (c : Nat) : Decidable (bad10 A B c) := by unfold bad10; exact inferInstance
end Go.AE.Gn
set_option linter.unusedVariables false
set_option linter.unusedSimpArgs false
namespace Go.AE.Gn
open Go Go.AE
def pk (b : List Int) (L : List Nat) : Nat → Int
  | 0 => 0
  | i + 1 => 2 * pk b L i + hv b (L.getD i 0) 1
def plainV (x y z : Int) : List Int := [wideV 4 x, wideV 4 y, wideV 4 z, 255]
def Small (x : Int) : Prop := 0 ≤ x ∧ x < 100000
theorem Small.w {x : Int} (h : Small x) : -9000000000000000000 ≤ x ∧ x ≤ 9000000000000000000 := by unfold Small at h; omega
def distV (n : Int) : Int := etctwo_DistanceT1261.getD (n % 8).toNat 0
end Go.AE.Gn
set_option linter.unusedVariables false
set_option linter.unusedSimpArgs false
namespace Go.AE.Gn
open Go Go.AE
def hL (b : List Int) : List Int := plainV (hv b 1 4) (pk b [5, 6, 7, 11] 4) (pk b [12, 14, 15, 16] 4)
def hM (b : List Int) : List Int := plainV (hv b 17 4) (hv b 21 4) (hv b 25 4)
def hX (b : List Int) : Int := 256 * hv b 1 4 + 16 * pk b [5, 6, 7, 11] 4 + pk b [12, 14, 15, 16] 4
def hY (b : List Int) : Int := 256 * hv b 17 4 + 16 * hv b 21 4 + hv b 25 4
def hD (b : List Int) : Int := distV (if hY b ≤ hX b then 2 * pk b [29, 31] 2 + 1 else 2 * pk b [29, 31] 2)
end Go.AE.Gn
set_option linter.unusedVariables false
set_option linter.unusedSimpArgs false
namespace Go.AE.Gn
open Go Go.AE
def bb (b : List Int) (p : Bool) : List Int := if p then hset b 30 1 1 else b
def xT (b : List Int) (p : Bool) : List Int := [hv (bb b p) 24 3, hv (bb b p) 27 3]
theorem zero_row : [(0 : Int), 0, 0, 0] = tab 4 fun _ => 0 := rfl
end Go.AE.Gn
set_option linter.unusedSimpArgs false
set_option linter.unusedVariables false
namespace Go.AE.Gn
open Go Go.AE
def eacN (i : Nat) : Nat := match i with | 0 => 8 | 1 => 4 | 2 => 4 | _ + 3 => 3
def eacV (base times table : Int) (w : List Int) (i : Nat) : Int := match i with | 0 => base | 1 => times | 2 => table | i + 3 => w.getD i 0
def EacFit (base times table : Int) (w : List Int) : Prop := (0 ≤ base ∧ base ≤ 255) ∧ (0 ≤ times ∧ times ≤ 15) ∧ (0 ≤ table ∧ table ≤ 15) ∧ w.length = 16 ∧ ∀ i, i < 16 → 0 ≤ w.getD i 0 ∧ w.getD i 0 ≤ 7
theorem EacFit.V {base times table : Int} {w : List Int} (h : EacFit base times table w) : ∀ i, i < 19 → 0 ≤ eacV base times table w i ∧ eacV base times table w i < 2 ^ eacN i := by
  obtain ⟨h1, h2, h3, h4, h5⟩ := h
  intro i hi
  match i with
  | 0 => simp only [eacV, eacN]; omega
  | 1 => simp only [eacV, eacN]; omega
  | 2 => simp only [eacV, eacN]; omega
  | i + 3 =>
    have := h5 i (by omega)
    simp only [eacV, eacN]
    omega
end Go.AE.Gn
set_option linter.unusedSimpArgs false
set_option linter.unusedVariables false
namespace Go.AE.Gn
open Go Go.AE
def bytes13 (k : Nat) : Nat := match k with | 1 | 4 | 7 | 8 | 9 | 11 => 8 | _ => 16
def mask13 (k : Nat) : Int := match k with | 1 | 7 | 8 => 7 | 2 | 3 | 6 | 9 | 10 => 15 | 4 | 11 => 1 | _ => 3
def wide13 (k : Nat) : Bool := match k with | 11 | 12 => true | _ => false
def Fmt (k : Nat) : Prop := 1 ≤ k ∧ k ≤ 12
theorem fmt_cases {p : Nat → Prop} (h1 : p 1) (h2 : p 2) (h3 : p 3) (h4 : p 4) (h5 : p 5) (h6 : p 6) (h7 : p 7) (h8 : p 8) (h9 : p 9) (h10 : p 10) (h11 : p 11) (h12 : p 12) {k : Nat} (h : Fmt k) : p k := by
  obtain ⟨a, b⟩ := h
  have : k = 1 ∨ k = 2 ∨ k = 3 ∨ k = 4 ∨ k = 5 ∨ k = 6 ∨ k = 7 ∨ k = 8 ∨ k = 9 ∨ k = 10 ∨ k = 11 ∨ k = 12 := by omega
  rcases this with rfl | rfl | rfl | rfl | rfl | rfl | rfl | rfl | rfl | rfl | rfl | rfl <;> assumption
theorem Of_is (F : Nat) {k : Nat} (h : Fmt k) : format_Of F (k : Int) = some (((bytes13 k : Int), (mask13 k, (wide13 k, ()))), (0, ())) := by
  refine fmt_cases (p := fun k => format_Of F (k : Int) = some (((bytes13 k : Int), (mask13 k, (wide13 k, ()))), (0, ()))) ?_ ?_ ?_ ?_ ?_ ?_ ?_ ?_ ?_ ?_ ?_ ?_ h <;> rfl
theorem Of_bad (F : Nat) {f : Int} (h : ¬ (1 ≤ f ∧ f ≤ 12)) : format_Of F f = some ((0, (0, (false, ()))), (5, ())) := by
  have hn : ∀ c : Int, 1 ≤ c → c ≤ 12 → (f == c) = false := fun c h1 h2 => beqF (by omega)
  unfold format_Of
  rw [hn 1 (by decide) (by decide), hn 7 (by decide) (by decide), hn 8 (by decide) (by decide), hn 2 (by decide) (by decide), hn 3 (by decide) (by decide), hn 6 (by decide) (by decide), hn 10 (by decide) (by decide), hn 9 (by decide) (by decide), hn 4 (by decide) (by decide), hn 11 (by decide) (by decide), hn 5 (by decide) (by decide), hn 12 (by decide) (by decide)]
  rfl
theorem fmt_of {f : Int} (h : 1 ≤ f ∧ f ≤ 12) : ∃ k, Fmt k ∧ f = (k : Int) := ⟨f.toNat, ⟨by omega, by omega⟩, by omega⟩
theorem bytes13_ge (k : Nat) : 8 ≤ bytes13 k ∧ bytes13 k ≤ 16 := by
  unfold bytes13
  split <;> decide
section
variable {b : List Int}
end
end Go.AE.Gn
set_option linter.unusedSimpArgs false
set_option linter.unusedVariables false
namespace Go.AE.Gn
open Go Go.AE
theorem rOf_is (F : Nat) (f : Int) : ref13_Of F f = format_Of F f ∧ ∃ r, format_Of F f = some r := by
  by_cases h : 1 ≤ f ∧ f ≤ 12
  · obtain ⟨k, hk, rfl⟩ := fmt_of h
    rw [Of_is F hk]
    refine ⟨?_, _, rfl⟩
    refine fmt_cases (p := fun k => ref13_Of F (k : Int) = some (((bytes13 k : Int), (mask13 k, (wide13 k, ()))), (0, ()))) ?_ ?_ ?_ ?_ ?_ ?_ ?_ ?_ ?_ ?_ ?_ ?_ hk <;> rfl
  · rw [Of_bad F h]
    refine ⟨?_, _, rfl⟩
    unfold ref13_Of
    by_cases h1 : f < 1
    · simp only [h1, decide_true, cond_true]
    · have h2 : 12 < f := by omega
      simp only [h1, decide_false, cond_false, h2, decide_true, cond_true]
theorem Times_eq (F : Nat) (a b : Int) : ref01_Times F a b = field_Times F a b ∧ ∃ r, field_Times F a b = some r := by
  unfold ref01_Times field_Times
  by_cases h1 : a < 0
  · simp only [h1, decide_true, cond_true]
    exact ⟨trivial, _, rfl⟩
  simp only [h1, decide_false, cond_false]
  by_cases h2 : b < 0
  · simp only [h2, decide_true, cond_true]
    exact ⟨trivial, _, rfl⟩
  simp only [h2, decide_false, cond_false]
  by_cases h3 : b = 0
  · subst h3
    by_cases h4 : a = 0
    · subst h4
      exact ⟨rfl, _, rfl⟩
    · simp only [beqF h4, cond_false, beq_self_eq_true, cond_true, show ¬ (0 : Int) < 0 by decide, decide_false, Int.mul_zero]
      exact ⟨rfl, _, rfl⟩
  · have h5 : 0 < b := by omega
    simp only [beqF h3, cond_false, h5, decide_true, cond_true, Bool.not_false]
    by_cases h4 : a = 0
    · subst h4
      have h6 : (2147483647 : Int).tdiv b = 2147483647 / b := tdiv_nonneg (by decide)
      have h7 : 0 ≤ (2147483647 : Int) / b := Int.ediv_nonneg (by decide) (by omega)
      have h8 : (2147483647 : Int) / b ≤ 2147483647 := Int.ediv_le_self _ (by decide)
      rw [h6, w64 (by omega) (by omega)]
      have h9 : ¬ (2147483647 : Int) / b < 0 := by omega
      simp only [beq_self_eq_true, cond_true, h9, decide_false, cond_false, Int.zero_mul]
      exact ⟨rfl, _, rfl⟩
    · simp only [beqF h4, cond_false]
      refine ⟨trivial, ?_⟩
      cases decide (IntKind.i64.wrap ((2147483647 : Int).tdiv b) < a) <;> exact ⟨_, rfl⟩
theorem rBytes_is (F : Nat) (f w h : Int) : ref13_Bytes F f w h = format_Bytes F f w h ∧ ∃ r, format_Bytes F f w h = some r := by
  unfold ref13_Bytes format_Bytes
  obtain ⟨e1, x, e2⟩ := rOf_is F f
  rw [e1, e2]
  simp only [Option.bind_some]
  cases x.2.1 != 0
  · simp only [cond_false]
    by_cases h1 : w < 1
    · simp only [h1, decide_true, cond_true]; exact ⟨trivial, _, rfl⟩
    by_cases h2 : h < 1
    · simp only [h1, h2, decide_true, decide_false, cond_true, cond_false]; exact ⟨trivial, _, rfl⟩
    simp only [h1, h2, decide_false, cond_false]
    have e3 : ref04_Tiles F w h = image_Tiles F w h := rfl
    rw [e3]
    have e4 : ∃ r, image_Tiles F w h = some r := by
      unfold image_Tiles
      simp only [h1, h2, decide_false, cond_false]
      exact ⟨_, rfl⟩
    obtain ⟨t, e4⟩ := e4
    rw [e4]
    simp only [Option.bind_some]
    obtain ⟨e5, n, e6⟩ := Times_eq F t.1 t.2.1
    rw [e5, e6]
    simp only [Option.bind_some]
    cases n.2.1 != 0
    · simp only [cond_false]
      obtain ⟨e7, m, e8⟩ := Times_eq F n.1 x.1.1
      rw [e7, e8]
      exact ⟨rfl, _, rfl⟩
    · exact ⟨rfl, _, rfl⟩
  · exact ⟨rfl, _, rfl⟩
theorem codeF1_bad {f : Int} (h : ¬ (1 ≤ f ∧ f ≤ 12)) (y : Int) : codeF1 f y = some (.inl [0, 5]) := by
  have hn : ∀ c : Int, 1 ≤ c → c ≤ 12 → (f == c) = false := fun c h1 h2 => beqF (by omega)
  unfold codeF1
  rw [hn 1 (by decide) (by decide), hn 7 (by decide) (by decide), hn 8 (by decide) (by decide), hn 2 (by decide) (by decide), hn 3 (by decide) (by decide), hn 6 (by decide) (by decide), hn 10 (by decide) (by decide), hn 9 (by decide) (by decide), hn 4 (by decide) (by decide), hn 11 (by decide) (by decide), hn 5 (by decide) (by decide), hn 12 (by decide) (by decide)]
  rfl
theorem codeF1_fmt {k : Nat} (h : Fmt k) (y : Int) : codeF1 (k : Int) y = cond (y != 1) (cond (y != 2) (some (.inl [0, 1])) (some (.inr [(k : Int), y]))) (some (.inr [(k : Int), y])) := by
  refine fmt_cases (p := fun k => codeF1 (k : Int) y = cond (y != 1) (cond (y != 2) (some (.inl [0, 1])) (some (.inr [(k : Int), y]))) (some (.inr [(k : Int), y]))) ?_ ?_ ?_ ?_ ?_ ?_ ?_ ?_ ?_ ?_ ?_ ?_ h <;> rfl
theorem fmt_or {k : Nat} (h : Fmt k) : k = 1 ∨ k = 2 ∨ k = 3 ∨ k = 4 ∨ k = 5 ∨ k = 6 ∨ k = 7 ∨ k = 8 ∨ k = 9 ∨ k = 10 ∨ k = 11 ∨ k = 12 := by unfold Fmt at h; omega
theorem rCode_is (F : Nat) (f y : Int) : ref13_Code F f y = codeF f y ∧ ∃ r, codeF f y = some r := by
  by_cases h : 1 ≤ f ∧ f ≤ 12
  · obtain ⟨k, hk, rfl⟩ := fmt_of h
    unfold ref13_Code
    rw [(rOf_is F _).1, Of_is F hk]
    unfold codeF
    rw [codeF1_fmt hk]
    simp only [Option.bind_some, bne_self_eq_false, cond_false]
    by_cases h1 : y = 1
    · subst h1
      rcases fmt_or hk with rfl | rfl | rfl | rfl | rfl | rfl | rfl | rfl | rfl | rfl | rfl | rfl <;> exact ⟨rfl, _, rfl⟩
    · by_cases h2 : y = 2
      · subst h2
        rcases fmt_or hk with rfl | rfl | rfl | rfl | rfl | rfl | rfl | rfl | rfl | rfl | rfl | rfl <;> exact ⟨rfl, _, rfl⟩
      · simp only [bneT h1, bneT h2, cond_true]
        exact ⟨rfl, _, rfl⟩
  · unfold ref13_Code codeF
    rw [(rOf_is F f).1, Of_bad F h, codeF1_bad h]
    exact ⟨rfl, _, rfl⟩
theorem Format_l0_none {x : Int} {L : List Int} (hl : L.length ≤ 1000) (h : ∀ j, j < L.length → L.getD j 0 = x → x = 0) : ∀ (d i k : Nat), i + d = L.length → d < k → ref13_Format_l0 600 k x L (i : Int) = some (.inr ()) := by
  intro d
  induction d with
  | zero =>
    intro i k h1 h2
    obtain ⟨k, rfl⟩ : ∃ k', k = k' + 1 := ⟨k - 1, by omega⟩
    show ref13_Format_l0S 600 (ref13_Format_l0 600 k) x L i = _
    unfold ref13_Format_l0S
    have : ¬ (i : Int) < (L.length : Int) := by omega
    simp only [this, decide_false, cond_false]
  | succ d ih =>
    intro i k h1 h2
    obtain ⟨k, rfl⟩ : ∃ k', k = k' + 1 := ⟨k - 1, by omega⟩
    show ref13_Format_l0S 600 (ref13_Format_l0 600 k) x L i = _
    unfold ref13_Format_l0S
    have h3 : (i : Int) < (L.length : Int) := by omega
    simp only [h3, decide_true, cond_true, Int.natCast_nonneg, Bool.and_self, Int.toNat_natCast, nextI (show i < 1000000000000 by omega)]
    have nx := ih (i + 1) k (by omega) (by omega)
    by_cases h4 : L.getD i 0 = x
    · have h5 := h i (by omega) h4
      subst h5
      simp only [beqT h4, cond_true, bne_self_eq_false, cond_false]
      exact nx
    · simp only [beqF h4, cond_false]
      exact nx
theorem fmt_closed : codesT.all (fun q => (match ref13_Format_l0 600 600 q.2.2 (if q.2.1 = 1 then ref13_codesT3702 else ref13_codesT3703) 1 with | some (.inl r) => r.1 == q.1 | _ => false) && formatL q.2.2 q.2.1 == some q.1) = true := by decide +kernel
theorem tab_closed1 : (List.range ref13_codesT3702.length).all (fun j => ref13_codesT3702.getD j 0 == 0 || codesT.any fun q => q.2.1 == 1 && q.2.2 == ref13_codesT3702.getD j 0) = true := by decide +kernel
theorem tab_closed2 : (List.range ref13_codesT3703.length).all (fun j => ref13_codesT3703.getD j 0 == 0 || codesT.any fun q => q.2.1 == 2 && q.2.2 == ref13_codesT3703.getD j 0) = true := by decide +kernel
theorem scan_is (x y : Int) (hy : y = 1 ∨ y = 2) : ∃ r, ref13_Format_l0 600 600 x (if y = 1 then ref13_codesT3702 else ref13_codesT3703) 1 = some r ∧ (match r with | .inl r => some (r.1, (0, ())) | .inr _ => some (0, (5, ()))) = orE 5 (formatL x y) := by
  by_cases h : ∃ q ∈ codesT, q.2.1 = y ∧ q.2.2 = x
  · obtain ⟨q, hq, rfl, rfl⟩ := h
    have := List.all_eq_true.1 fmt_closed q hq
    simp only [Bool.and_eq_true, beq_iff_eq] at this
    obtain ⟨h1, h2⟩ := this
    split at h1
    · rename_i r hr
      refine ⟨.inl r, hr, ?_⟩
      have h3 : r.1 = q.1 := by simpa using h1
      rw [h2, ← h3]
      rfl
    · cases h1
  · have hn : formatL x y = none := formatL_none fun q hq hh => h ⟨q, hq, hh⟩
    refine ⟨.inr (), ?_, by rw [hn]; rfl⟩
    have key : ∀ L : List Int, L.length = 13 → (List.range L.length).all (fun j => L.getD j 0 == 0 || codesT.any fun q => q.2.1 == y && q.2.2 == L.getD j 0) = true → ref13_Format_l0 600 600 x L 1 = some (.inr ()) := by
      intro L hL hall
      refine Format_l0_none (by omega) (fun j hj hx => ?_) 12 1 600 (by omega) (by omega)
      have := List.all_eq_true.1 hall j (List.mem_range.2 hj)
      rw [Bool.or_eq_true] at this
      rcases this with h1 | h1
      · rw [← hx]; simpa using h1
      · obtain ⟨q, hq, hqq⟩ := List.any_eq_true.1 h1
        simp only [Bool.and_eq_true, beq_iff_eq] at hqq
        exact absurd ⟨q, hq, hqq.1, by rw [hqq.2, hx]⟩ h
    rcases hy with rfl | rfl
    · exact key _ rfl tab_closed1
    · exact key _ rfl tab_closed2
theorem rFormat_is (x y : Int) : ref13_Format 600 x y = formatF x y ∧ ∃ r, formatF x y = some r := by
  have some_orE : ∀ e o, ∃ r, orE e o = some r := fun e o => by cases o <;> exact ⟨_, rfl⟩
  unfold ref13_Format formatF formatF1
  by_cases h1 : y = 1
  · subst h1
    obtain ⟨r, e1, e2⟩ := scan_is x 1 (.inl rfl)
    simp only [if_true] at e1
    obtain ⟨q, hq⟩ := some_orE 5 (formatL x 1)
    refine ⟨?_, q, hq⟩
    show (ref13_Format_l0 600 600 x ref13_codesT3702 1).bind _ = orE 5 (formatL x 1)
    rw [e1, ← e2]
    cases r <;> rfl
  · by_cases h2 : y = 2
    · subst h2
      by_cases h3 : x = 33777
      · subst h3
        exact ⟨rfl, _, rfl⟩
      · obtain ⟨r, e1, e2⟩ := scan_is x 2 (.inr rfl)
        simp only [show ¬ (2 : Int) = 1 by decide, if_false] at e1
        obtain ⟨q, hq⟩ := some_orE 5 (formatL x 2)
        simp only [beqF h3, Int.reduceBNe, Int.reduceBEq, cond_true, cond_false]
        refine ⟨?_, q, hq⟩
        show (ref13_Format_l0 600 600 x ref13_codesT3703 1).bind _ = orE 5 (formatL x 2)
        rw [e1, ← e2]
        cases r <;> rfl
    · simp only [bneT h1, bneT h2, cond_true]
      exact ⟨rfl, _, rfl⟩
theorem rLetters_is (F : Nat) (s : List Int) : ref13_Letters F s = lettersF s ∧ ∃ r, lettersF s = some r := by
  refine ⟨?_, by unfold lettersF; cases lettersL s <;> exact ⟨_, rfl⟩⟩
  unfold ref13_Letters lettersF lettersL lettersT
  simp only [List.find?]
  cases ([(68 : Int), 88, 84, 49] == s) with
  | true => rfl
  | false =>
  cases ([(68 : Int), 88, 84, 51] == s) with
  | true => rfl
  | false =>
  cases ([(68 : Int), 88, 84, 53] == s) with
  | true => rfl
  | false =>
  cases ([(65 : Int), 84, 73, 49] == s) with
  | true => rfl
  | false =>
  cases ([(65 : Int), 84, 73, 50] == s) with
  | true => rfl
  | false =>
  cases ([(66 : Int), 67, 52, 85] == s) with
  | true => rfl
  | false =>
  cases ([(66 : Int), 67, 53, 85] == s) with
  | true => rfl
  | false => rfl
end Go.AE.Gn
set_option linter.unusedVariables false
set_option linter.unusedSimpArgs false
namespace Go.AE.Gn
open Go Go.AE
theorem obd {α β : Type} (a : α) (f : α → Option β) : (some a).bind f = f a := by
  cases h : f a <;> rw [Option.bind_some, h]
def B17 (F : Nat) (f x y : Int) : Int × Int := match format_Bytes F f x y with
  | some r => (r.1, r.2.1)
  | none => (0, 0)
theorem B17_is (F : Nat) (f x y : Int) : format_Bytes F f x y = some ((B17 F f x y).1, ((B17 F f x y).2, ())) := by
  obtain ⟨_, r, h⟩ := rBytes_is F f x y
  unfold B17
  rw [h]
theorem rB17_is (F : Nat) (f x y : Int) : ref13_Bytes F f x y = some ((B17 F f x y).1, ((B17 F f x y).2, ())) := by
  rw [(rBytes_is F f x y).1, B17_is]
def go17 (F : Nat) (f : Int) (w h : Nat) : List Nat → List Int → List Int ⊕ Int
  | [], acc => .inl acc
  | j :: r, acc => if (B17 F f (sd w j : Nat) (sd h j : Nat)).2 = 0 then go17 F f w h r (acc ++ [(B17 F f (sd w j : Nat) (sd h j : Nat)).1]) else .inr (B17 F f (sd w j : Nat) (sd h j : Nat)).2
theorem psizes_run (F : Nat) (f : Int) (w h : Nat) : ∀ (l : List Nat) (acc : List Int), acc.length + l.length ≤ 1000 →
    runL (fun x => u2 (layout_Sizes_r F x)) (l.map fun t => (((sd w t : Nat) : Int), ((sd h t : Nat) : Int))) (f, (acc, ())) =
      (match go17 F f w h l acc with | .inl a => some (.inl (f, (a, ()))) | .inr e => some (.inr (e, ())))
  | [], acc, _ => rfl
  | j :: r, acc, hl => by
    simp only [List.length_cons] at hl
    rw [List.map_cons]
    unfold runL go17
    have e : u2 (layout_Sizes_r F (((sd w j : Nat) : Int), ((sd h j : Nat) : Int))) (f, (acc, ())) = layout_Sizes_r F (((sd w j : Nat) : Int), ((sd h j : Nat) : Int)) f acc := rfl
    rw [e]
    unfold layout_Sizes_r
    rw [B17_is, Option.bind_some]
    generalize B17 F f ((sd w j : Nat) : Int) ((sd h j : Nat) : Int) = b
    by_cases hb : b.2 = 0
    · rw [if_pos hb]
      have c1 : (b.2 != (0 : Int)) = false := by simp [hb]
      have c2 : (decide (acc.length + 1 ≤ 1099511627776) && true) = true := by simp; omega
      simp only [c1, cond_false, c2, cond_true]
      exact psizes_run F f w h r _ (by simp; omega)
    · rw [if_neg hb]
      have c1 : (b.2 != (0 : Int)) = true := by simp [hb]
      simp only [c1, cond_true]
theorem rsizes_run (F : Nat) (f : Int) {w h : Nat} (w1 : 1 ≤ w) (h1 : 1 ≤ h) (wb : w < 9223372036854775808) (hb : h < 9223372036854775808) (hF : 64 ≤ F) (m : Nat) (hm : m ≤ 500) : ∀ (k i : Nat) (acc : List Int), i ≤ m → m - i < k → acc.length ≤ i →
    ref17_Sizes_l0 F k f (w : Int) (h : Int) (m : Int) acc (i : Int) =
      (match go17 F f w h (List.range' i (m - i)) acc with | .inl a => some (.inr (a, ())) | .inr e => some (.inl (e, ())))
  | 0, i, acc, _, hk, _ => by omega
  | k + 1, i, acc, hi0, hk, ha => by
    unfold ref17_Sizes_l0 ref17_Sizes_l0S
    by_cases hi : i < m
    · rw [decide_eq_true (show (i : Int) < (m : Int) by omega), cond_true, rside_is w1 wb (by omega) hF, Option.bind_some, rside_is h1 hb (by omega) hF, Option.bind_some, rB17_is, Option.bind_some]
      rw [show m - i = (m - (i + 1)) + 1 by omega, List.range'_succ]
      unfold go17
      dsimp only
      generalize B17 F f ((sd w i : Nat) : Int) ((sd h i : Nat) : Int) = b
      by_cases hbb : b.2 = 0
      · rw [if_pos hbb]
        have c1 : (b.2 != (0 : Int)) = false := by simp [hbb]
        have c2 : (decide (acc.length + 1 ≤ 1099511627776) && true) = true := by simp; omega
        have e2 : IntKind.wrap .i64 ((i : Int) + 1) = ((i + 1 : Nat) : Int) := by
          rw [wrap_id (by rw [has_iff]; simp only [loB, hiB]; omega)]
          omega
        simp only [c1, cond_false, c2, cond_true, e2]
        exact rsizes_run F f w1 h1 wb hb hF m hm k (i + 1) _ (by omega) (by omega) (by simp; omega)
      · rw [if_neg hbb]
        have c1 : (b.2 != (0 : Int)) = true := by simp [hbb]
        simp only [c1, cond_true]
    · rw [decide_eq_false (show ¬ (i : Int) < (m : Int) by omega), cond_false, show m - i = 0 by omega]
      rfl
theorem levels_run (F : Nat) {w h : Nat} (w1 : 1 ≤ w) (h1 : 1 ≤ h) (wb : w < 9223372036854775808) (hb : h < 9223372036854775808) (hF : 63 ≤ F) (m : Nat) (hm : m ≤ 500) : ∀ (k i : Nat), i ≤ m → m - i < k →
    levelsL (mip_Side F) k (m : Int) (i : Int) (w : Int) (h : Int) = some ((List.range' i (m - i)).map fun t => (((sd w t : Nat) : Int), ((sd h t : Nat) : Int)))
  | 0, i, hi, hk => by omega
  | k + 1, i, hi, hk => by
    unfold levelsL
    by_cases c : i < m
    · have e2 : IntKind.wrap .i64 ((i : Int) + 1) = ((i + 1 : Nat) : Int) := by
        rw [wrap_id (by rw [has_iff]; simp only [loB, hiB]; omega)]
        omega
      rw [decide_eq_true (show (i : Int) < (m : Int) by omega), cond_true, side_is w1 wb (by omega) hF, Option.bind_some, side_is h1 hb (by omega) hF, Option.bind_some, e2, levels_run F w1 h1 wb hb hF m hm k (i + 1) (by omega) (by omega)]
      rw [show m - i = (m - (i + 1)) + 1 by omega, List.range'_succ]
      rfl
    · rw [decide_eq_false (show ¬ (i : Int) < (m : Int) by omega), cond_false, show m - i = 0 by omega]
      rfl
theorem levels_c1 {F w h m : Nat} (w1 : 1 ≤ w) (h1 : 1 ≤ h) (wb : w < 9223372036854775808) (hb : h < 9223372036854775808) (hm : m ≤ 500) (hF : 501 ≤ F) :
    layout_levels_c1 F (m : Int) (w : Int) (h : Int) = some ((List.range' 0 m).map fun t => (((sd w t : Nat) : Int), ((sd h t : Nat) : Int))) :=
  levels_run F w1 h1 wb hb (by omega) m hm F 0 (by omega) (by omega)
def sizes17 (F : Nat) (f : Int) (w h lev : Nat) : List Int × Int := match go17 F f w h (List.range' 0 lev) [] with | .inl a => (a, 0) | .inr e => ([], e)
theorem Sizes_is {F : Nat} {f : Int} {w h lev : Nat} {r : Int × (Int × (Bool × Unit))} (ho : format_Of F f = some (r, (0, ()))) (w1 : 1 ≤ w) (h1 : 1 ≤ h) (wb : w < 9223372036854775808) (hb : h < 9223372036854775808) (l1 : 1 ≤ lev) (l2 : lev ≤ lv17 w h + 1) (hF : 600 ≤ F) :
    layout_Sizes F f (w : Int) (h : Int) (lev : Int) = some ((sizes17 F f w h lev).1, ((sizes17 F f w h lev).2, ())) ∧ ref17_Sizes F f (w : Int) (h : Int) (lev : Int) = some ((sizes17 F f w h lev).1, ((sizes17 F f w h lev).2, ())) := by
  obtain ⟨L1, L2⟩ := Levels17 (F := F) w1 h1 wb hb (by omega)
  have lb := lv17_le w1 h1 wb hb
  unfold layout_Sizes ref17_Sizes
  rw [(rOf_is F f).1, ho]
  simp only [obd]
  simp only [bne_self_eq_false, cond_false, decide_eq_false (show ¬ (w : Int) < 1 by omega), decide_eq_false (show ¬ (h : Int) < 1 by omega), decide_eq_false (show ¬ (lev : Int) < 1 by omega)]
  rw [L1, L2]
  simp only [obd]
  simp only [cond_false, decide_eq_false (show ¬ ((lv17 w h + 1 : Nat) : Int) < (lev : Int) by omega)]
  rw [levels_c1 w1 h1 wb hb (by omega) (by omega), obd, psizes_run F f w h (List.range' 0 lev) [] (by simp; omega)]
  have rr : ref17_Sizes_l0 F F f (w : Int) (h : Int) (lev : Int) [] 0 = match go17 F f w h (List.range' 0 lev) [] with | .inl a => some (.inr (a, ())) | .inr e => some (.inl (e, ())) := by
    have := rsizes_run F f w1 h1 wb hb (by omega) lev (by omega) F 0 [] (by omega) (by omega) (by simp)
    rw [Nat.sub_zero] at this
    exact this
  rw [rr]
  unfold sizes17
  cases go17 F f w h (List.range' 0 lev) [] <;> exact ⟨rfl, rfl⟩
def ts (w h : Nat) : Nat → Nat
  | 0 => 0
  | n + 1 => ts w h n + sd w n * sd h n
theorem ts_mono (w h : Nat) : ∀ (m n : Nat), n ≤ m → ts w h n ≤ ts w h m
  | 0, n, hn => by rw [show n = 0 by omega]; exact Nat.le_refl _
  | m + 1, n, hn => by
    rcases Nat.lt_or_ge n (m + 1) with c | c
    · exact Nat.le_trans (ts_mono w h m n (by omega)) (by simp only [ts]; omega)
    · rw [show n = m + 1 by omega]; exact Nat.le_refl _
theorem sd_one {w i : Nat} (h : w < 2 ^ i) : sd w i = 1 := by
  simp only [sd]
  rw [Nat.div_eq_of_lt h]
  rfl
theorem ts_tail {w h n : Nat} (hw : w < 2 ^ n) (hh : h < 2 ^ n) : ∀ d, ts w h (n + d) = ts w h n + d
  | 0 => rfl
  | d + 1 => by
    have p : (2 : Nat) ^ n ≤ 2 ^ (n + d) := Nat.pow_le_pow_right (by omega) (by omega)
    show ts w h (n + d) + sd w (n + d) * sd h (n + d) = _
    rw [sd_one (Nat.lt_of_lt_of_le hw p), sd_one (Nat.lt_of_lt_of_le hh p), ts_tail hw hh d]
    omega
theorem ts_pos (w h n : Nat) (hn : 1 ≤ n) : 1 ≤ ts w h n := by
  have := ts_mono w h n 1 hn
  have e : ts w h 1 = sd w 0 * sd h 0 := by simp [ts]
  have := Nat.mul_pos (sd_pos w 0) (sd_pos h 0)
  omega
theorem times_is (F : Nat) {a b : Nat} (b1 : 1 ≤ b) (ha : a ≤ 9223372036854775808) : field_Times F (a : Int) (b : Int) = some (if a * b ≤ 2147483647 then (((a * b : Nat) : Int), (0, ())) else (0, (10, ()))) := by
  unfold field_Times
  have q : (2147483647 : Int).tdiv (b : Int) = ((2147483647 / b : Nat) : Int) := rfl
  have q2 : 2147483647 / b ≤ 2147483647 := Nat.div_le_self _ _
  have q3 : (0 : Int) ≤ ((2147483647 / b : Nat) : Int) := Int.natCast_nonneg _
  have q4 : ((2147483647 / b : Nat) : Int) ≤ 2147483647 := Int.ofNat_le.2 q2
  rw [q]
  generalize hq : 2147483647 / b = qq at *
  rw [w64 (by omega) (by omega)]
  rw [decide_eq_false (show ¬ (a : Int) < 0 by omega), cond_false, decide_eq_false (show ¬ (b : Int) < 0 by omega), cond_false, decide_eq_true (show (0 : Int) < (b : Int) by omega), cond_true, beqF (show (b : Int) ≠ 0 by omega), Bool.not_false, cond_true]
  dsimp only
  have key : (qq < a) ↔ ¬ a * b ≤ 2147483647 := by
    rw [← hq, Nat.div_lt_iff_lt_mul (by omega)]
    omega
  by_cases c : a * b ≤ 2147483647
  · rw [if_pos c, decide_eq_false (show ¬ (qq : Int) < (a : Int) by omega), cond_false]
    have e : (a : Int) * (b : Int) = ((a * b : Nat) : Int) := by rw [Int.natCast_mul]
    rw [e, w64 (by omega) (by omega)]
  · rw [if_neg c, decide_eq_true (show (qq : Int) < (a : Int) by omega), cond_true]
theorem sum_is (F : Nat) {a b : Nat} (ha : a ≤ 2147483647) : field_Sum F (a : Int) (b : Int) = some (if a + b ≤ 2147483647 then (((a + b : Nat) : Int), (0, ())) else (0, (10, ()))) := by
  unfold field_Sum
  rw [w64 (by omega) (by omega)]
  rw [decide_eq_false (show ¬ (a : Int) < 0 by omega), cond_false, decide_eq_false (show ¬ (b : Int) < 0 by omega), cond_false, decide_eq_false (show ¬ (2147483647 : Int) < (a : Int) by omega), cond_false]
  dsimp only
  by_cases c : a + b ≤ 2147483647
  · rw [if_pos c, decide_eq_false (show ¬ (2147483647 : Int) - (a : Int) < (b : Int) by omega), cond_false, w64 (by omega) (by omega)]
    congr 2
  · rw [if_neg c, decide_eq_true (show (2147483647 : Int) - (a : Int) < (b : Int) by omega), cond_true]
theorem rsum_eq (F : Nat) (a b : Int) : ref01_Sum F a b = field_Sum F a b := rfl
theorem rtimes_is (F : Nat) {a b : Nat} (b1 : 1 ≤ b) (ha : a ≤ 9223372036854775808) : ref01_Times F (a : Int) (b : Int) = some (if a * b ≤ 2147483647 then (((a * b : Nat) : Int), (0, ())) else (0, (10, ()))) := by
  rw [(Times_eq F _ _).1, times_is F b1 ha]
end Go.AE.Gn
set_option linter.unusedVariables false
set_option linter.unusedSimpArgs false
namespace Go.AE.Gn
open Go Go.AE
theorem texels_run (F : Nat) {w h : Nat} (wb : w < 9223372036854775808) (w1 : 1 ≤ w) (x0 x1 x2 x3 x4 x5 : Int) (x6 : List (List Int)) (x7 : List (List Int × List Int)) (x10 : Int) : ∀ (m i : Nat), ts w h i ≤ 2147483647 →
    runL (fun x => u11 (layout_Texels_r F x)) ((List.range' i m).map fun t => (((sd w t : Nat) : Int), ((sd h t : Nat) : Int))) (x0, (x1, (x2, (x3, (x4, (x5, (x6, (x7, (((ts w h i : Nat) : Int), ((0 : Int), (x10, ()))))))))))) =
      if ts w h (i + m) ≤ 2147483647 then some (.inl (x0, (x1, (x2, (x3, (x4, (x5, (x6, (x7, (((ts w h (i + m) : Nat) : Int), ((0 : Int), (x10, ())))))))))))) else some (.inr (10, ()))
  | 0, i, hi => by
    rw [Nat.add_zero, if_pos hi]
    rfl
  | m + 1, i, hi => by
    rw [List.range'_succ, List.map_cons]
    have sw := sd_le w i w1
    have mono := ts_mono w h (i + (m + 1)) (i + 1) (by omega)
    have step : ts w h (i + 1) = ts w h i + sd w i * sd h i := rfl
    have st : layout_Texels_r F (((sd w i : Nat) : Int), ((sd h i : Nat) : Int)) x0 x1 x2 x3 x4 x5 x6 x7 ((ts w h i : Nat) : Int) 0 x10 = if ts w h (i + 1) ≤ 2147483647 then some (.inl (x0, (x1, (x2, (x3, (x4, (x5, (x6, (x7, (((ts w h (i + 1) : Nat) : Int), ((0 : Int), (x10, ())))))))))))) else some (.inr (10, ())) := by
      unfold layout_Texels_r
      rw [times_is F (sd_pos h i) (by omega), obd]
      by_cases c : sd w i * sd h i ≤ 2147483647
      · rw [if_pos c]
        simp only [bne_self_eq_false, cond_false]
        rw [sum_is F hi, obd, step]
        by_cases c2 : ts w h i + sd w i * sd h i ≤ 2147483647
        · rw [if_pos c2, if_pos c2]
          simp only [bne_self_eq_false, cond_false]
        · rw [if_neg c2, if_neg c2]
          rfl
      · rw [if_neg c, if_neg (by omega)]
        rfl
    have e : u11 (layout_Texels_r F (((sd w i : Nat) : Int), ((sd h i : Nat) : Int))) (x0, (x1, (x2, (x3, (x4, (x5, (x6, (x7, (((ts w h i : Nat) : Int), ((0 : Int), (x10, ()))))))))))) = if ts w h (i + 1) ≤ 2147483647 then some (.inl (x0, (x1, (x2, (x3, (x4, (x5, (x6, (x7, (((ts w h (i + 1) : Nat) : Int), ((0 : Int), (x10, ())))))))))))) else some (.inr (10, ())) := st
    unfold runL
    rw [e]
    by_cases c : ts w h (i + 1) ≤ 2147483647
    · rw [if_pos c]
      have ih := texels_run F (h := h) wb w1 x0 x1 x2 x3 x4 x5 x6 x7 x10 m (i + 1) c
      rw [show i + 1 + m = i + (m + 1) by omega] at ih
      exact ih
    · rw [if_neg c, if_neg (by omega)]
theorem rtexels_run (F : Nat) {w h lev : Nat} (wb : w < 9223372036854775808) (w1 : 1 ≤ w) (h1 : 1 ≤ h) (hb : h < 9223372036854775808) (hF : 64 ≤ F) (x0 x3 x4 : Int) (x6 : List (List Int)) (x7 : List (List Int × List Int)) : ∀ (k i : Nat), i ≤ min lev 80 → min lev 80 - i < k → ts w h i ≤ 2147483647 →
    ref17_Texels_l0 F k x0 (w : Int) (h : Int) x3 x4 (lev : Int) x6 x7 ((ts w h i : Nat) : Int) (i : Int) =
      if ts w h (min lev 80) ≤ 2147483647 then some (.inr (x0, ((w : Int), ((h : Int), (x3, (x4, ((lev : Int), (x6, (x7, (((ts w h (min lev 80) : Nat) : Int), ())))))))))) else some (.inl (10, ()))
  | 0, i, _, hk, _ => by omega
  | k + 1, i, hi, hk, ht => by
    unfold ref17_Texels_l0 ref17_Texels_l0S
    by_cases c0 : i = min lev 80
    · rw [if_pos (by rw [← c0]; exact ht)]
      by_cases c1 : i < lev
      · rw [decide_eq_true (show (i : Int) < (lev : Int) by omega), cond_true, decide_eq_false (show ¬ (i : Int) < 80 by omega), cond_false, c0]
      · rw [decide_eq_false (show ¬ (i : Int) < (lev : Int) by omega), cond_false, c0]
    · rw [decide_eq_true (show (i : Int) < (lev : Int) by omega), cond_true, decide_eq_true (show (i : Int) < 80 by omega), cond_true]
      rw [rside_is w1 wb (by omega) hF, obd, rside_is h1 hb (by omega) hF, obd]
      have sw := sd_le w i w1
      rw [rtimes_is F (sd_pos h i) (by omega), obd]
      have mono := ts_mono w h (min lev 80) (i + 1) (by omega)
      have step : ts w h (i + 1) = ts w h i + sd w i * sd h i := rfl
      by_cases c : sd w i * sd h i ≤ 2147483647
      · rw [if_pos c]
        simp only [bne_self_eq_false, cond_false]
        rw [rsum_eq, sum_is F ht, obd]
        by_cases c2 : ts w h i + sd w i * sd h i ≤ 2147483647
        · rw [if_pos c2]
          simp only [bne_self_eq_false, cond_false]
          have e2 : IntKind.wrap .i64 ((i : Int) + 1) = ((i + 1 : Nat) : Int) := by
            rw [w64 (by omega) (by omega)]
            omega
          rw [e2]
          have ih := rtexels_run F (lev := lev) wb w1 h1 hb hF x0 x3 x4 x6 x7 k (i + 1) (by omega) (by omega) (by omega)
          rw [step] at ih
          exact ih
        · rw [if_neg c2, if_neg (by omega)]
          rfl
      · rw [if_neg c, if_neg (by omega)]
        rfl
def txN (w h lay fac lev : Nat) : Int × Int :=
  if ts w h lev ≤ 2147483647 ∧ ts w h lev * fac ≤ 2147483647 ∧ ts w h lev * fac * lay ≤ 2147483647 then (((ts w h lev * fac * lay : Nat) : Int), 0) else (0, 10)
def tx17 (w h lay fac lev : Int) : Int × Int :=
  if w < 1 ∨ h < 1 ∨ lay < 1 ∨ fac < 1 ∨ lev < 1 then (0, 1) else txN w.toNat h.toNat lay.toNat fac.toNat lev.toNat
theorem ts_real {w h lev : Nat} (w1 : 1 ≤ w) (h1 : 1 ≤ h) {n : Nat} (hn : n = min lev (lv17 w h + 1) ∨ (n = min lev 80 ∧ lv17 w h ≤ 62)) : ts w h n + (lev - n) = ts w h lev := by
  obtain ⟨a, b, _⟩ := lv17_spec w1 h1
  rcases Nat.lt_or_ge n lev with c | c
  · have c2 : lv17 w h + 1 ≤ n := by omega
    have p : (2 : Nat) ^ (lv17 w h + 1) ≤ 2 ^ n := Nat.pow_le_pow_right (by omega) c2
    have := ts_tail (n := n) (Nat.lt_of_lt_of_le a p) (Nat.lt_of_lt_of_le b p) (lev - n)
    rw [show n + (lev - n) = lev by omega] at this
    exact this.symm
  · rw [show n = lev by omega, Nat.sub_self]
    rfl
theorem sum_min (F : Nat) {a b : Nat} (a1 : 1 ≤ a) (ha : a ≤ 2147483647) : field_Sum F (a : Int) ((min b 2147483647 : Nat) : Int) = some (if a + b ≤ 2147483647 then (((a + b : Nat) : Int), (0, ())) else (0, (10, ()))) := by
  rw [sum_is F ha]
  by_cases c : a + b ≤ 2147483647
  · rw [if_pos c, show min b 2147483647 = b by omega, if_pos c]
  · rw [if_neg c, if_neg (by omega)]
theorem tail_is (F : Nat) {n fac lay : Nat} (hn : n ≤ 2147483647) (f1 : 1 ≤ fac) (l1 : 1 ≤ lay) (times : Int → Int → Option (Int × (Int × Unit))) (ht : ∀ a b : Nat, 1 ≤ b → a ≤ 9223372036854775808 → times (a : Int) (b : Int) = some (if a * b ≤ 2147483647 then (((a * b : Nat) : Int), (0, ())) else (0, (10, ())))) :
    ((times (n : Int) (fac : Int)).bind fun r133 => cond (r133.2.1 != (0 : Int)) (some ((0 : Int), (r133.2.1, ()))) ((times r133.1 (lay : Int)).bind fun r135 => some (r135.1, (r135.2.1, ())))) =
      some (if n * fac ≤ 2147483647 ∧ n * fac * lay ≤ 2147483647 then (((n * fac * lay : Nat) : Int), (0, ())) else (0, (10, ()))) := by
  rw [ht n fac f1 (by omega), obd]
  by_cases c : n * fac ≤ 2147483647
  · rw [if_pos c]
    simp only [bne_self_eq_false, cond_false]
    rw [ht (n * fac) lay l1 (by omega), obd]
    by_cases c2 : n * fac * lay ≤ 2147483647
    · rw [if_pos c2, if_pos ⟨c, c2⟩]
    · rw [if_neg c2, if_neg (fun q => c2 q.2)]
  · rw [if_neg c, if_neg (fun q => c q.1)]
    rfl
theorem TexelsN {F : Nat} (f : Int) {w h lay fac lev : Nat} (w1 : 1 ≤ w) (h1 : 1 ≤ h) (l1 : 1 ≤ lay) (f1 : 1 ≤ fac) (v1 : 1 ≤ lev) (wb : w < 9223372036854775808) (hb : h < 9223372036854775808) (vb : lev < 9223372036854775808) (D : List (List Int)) (P : List (List Int × List Int)) (hF : 600 ≤ F) :
    layout_Texels F (f, ((w : Int), ((h : Int), ((lay : Int), ((fac : Int), ((lev : Int), (D, (P, ())))))))) = some ((txN w h lay fac lev).1, ((txN w h lay fac lev).2, ())) ∧
    ref17_Texels F (f, ((w : Int), ((h : Int), ((lay : Int), ((fac : Int), ((lev : Int), (D, (P, ())))))))) = some ((txN w h lay fac lev).1, ((txN w h lay fac lev).2, ())) := by
  have lb := lv17_le w1 h1 wb hb
  constructor
  · unfold layout_Texels
    dsimp only
    rw [decide_eq_false (show ¬ min (min (min (min (w : Int) (h : Int)) (lay : Int)) (fac : Int)) (lev : Int) < 1 by omega), cond_false]
    rw [(Levels17 w1 h1 wb hb (by omega)).1, obd]
    have er : min (lev : Int) ((lv17 w h + 1 : Nat) : Int) = ((min lev (lv17 w h + 1) : Nat) : Int) := by omega
    dsimp only
    rw [er, levels_c1 w1 h1 wb hb (by omega) (by omega), obd]
    have hr := texels_run F (w := w) (h := h) wb w1 f (w : Int) (h : Int) (lay : Int) (fac : Int) (lev : Int) D P ((min lev (lv17 w h + 1) : Nat) : Int) (min lev (lv17 w h + 1)) 0 (by simp [ts])
    rw [show ((ts w h 0 : Nat) : Int) = 0 from rfl, Nat.zero_add] at hr
    rw [hr]
    have tr := ts_real (lev := lev) w1 h1 (n := min lev (lv17 w h + 1)) (.inl rfl)
    unfold txN
    by_cases c : ts w h (min lev (lv17 w h + 1)) ≤ 2147483647
    · rw [if_pos c, obd]
      dsimp only
      have ed : min (IntKind.wrap .i64 ((lev : Int) - ((min lev (lv17 w h + 1) : Nat) : Int))) (2147483647 : Int) = ((min (lev - min lev (lv17 w h + 1)) 2147483647 : Nat) : Int) := by
        rw [w64 (by omega) (by omega)]
        omega
      rw [ed, sum_min F (ts_pos w h _ (by omega)) c, obd, tr]
      by_cases c2 : ts w h lev ≤ 2147483647
      · rw [if_pos c2]
        simp only [bne_self_eq_false, cond_false]
        have tl := tail_is F c2 f1 l1 (field_Times F) (fun a b h1 h2 => times_is F h1 h2)
        rw [tl]
        by_cases c3 : ts w h lev * fac ≤ 2147483647 ∧ ts w h lev * fac * lay ≤ 2147483647
        · rw [if_pos c3, if_pos ⟨c2, c3⟩]
        · rw [if_neg c3, if_neg (fun q => c3 q.2)]
      · rw [if_neg c2, if_neg (fun q => c2 q.1)]
        rfl
    · rw [if_neg c, if_neg (fun q => by omega)]
      rfl
  · unfold ref17_Texels
    dsimp only
    simp only [decide_eq_false (show ¬ (w : Int) < 1 by omega), decide_eq_false (show ¬ (h : Int) < 1 by omega), decide_eq_false (show ¬ (lay : Int) < 1 by omega), decide_eq_false (show ¬ (fac : Int) < 1 by omega), decide_eq_false (show ¬ (lev : Int) < 1 by omega), cond_false]
    have hr := rtexels_run F (lev := lev) wb w1 h1 hb (by omega) f (lay : Int) (fac : Int) D P F 0 (by omega) (by omega) (by simp [ts])
    rw [show ((ts w h 0 : Nat) : Int) = 0 from rfl, show ((0 : Nat) : Int) = 0 from rfl] at hr
    rw [hr]
    have tr := ts_real (lev := lev) w1 h1 (n := min lev 80) (.inr ⟨rfl, lb⟩)
    unfold txN
    by_cases c : ts w h (min lev 80) ≤ 2147483647
    · rw [if_pos c, obd]
      dsimp only
      by_cases c0 : 80 < lev
      · rw [decide_eq_true (show (80 : Int) < (lev : Int) by omega), cond_true]
        have ed : min (IntKind.wrap .i64 ((lev : Int) - 80)) (2147483647 : Int) = ((min (lev - min lev 80) 2147483647 : Nat) : Int) := by
          rw [w64 (by omega) (by omega)]
          omega
        rw [ed, rsum_eq, sum_min F (ts_pos w h _ (by omega)) c, obd, tr]
        by_cases c2 : ts w h lev ≤ 2147483647
        · rw [if_pos c2]
          simp only [bne_self_eq_false, cond_false]
          have tl := tail_is F c2 f1 l1 (ref01_Times F) (fun a b h1 h2 => rtimes_is F h1 h2)
          rw [tl]
          by_cases c3 : ts w h lev * fac ≤ 2147483647 ∧ ts w h lev * fac * lay ≤ 2147483647
          · rw [if_pos c3, if_pos ⟨c2, c3⟩]
          · rw [if_neg c3, if_neg (fun q => c3 q.2)]
        · rw [if_neg c2, if_neg (fun q => c2 q.1)]
          rfl
      · rw [decide_eq_false (show ¬ (80 : Int) < (lev : Int) by omega), cond_false]
        have c2 : ts w h lev ≤ 2147483647 := by rw [show min lev 80 = lev by omega] at c; exact c
        rw [show min lev 80 = lev by omega]
        have tl := tail_is F c2 f1 l1 (ref01_Times F) (fun a b h1 h2 => rtimes_is F h1 h2)
        rw [tl]
        by_cases c3 : ts w h lev * fac ≤ 2147483647 ∧ ts w h lev * fac * lay ≤ 2147483647
        · rw [if_pos c3, if_pos ⟨c2, c3⟩]
        · rw [if_neg c3, if_neg (fun q => c3 q.2)]
    · have := ts_mono w h lev (min lev 80) (by omega)
      rw [if_neg c, if_neg (fun q => by omega)]
      rfl
end Go.AE.Gn
set_option linter.unusedVariables false
set_option linter.unusedSimpArgs false
namespace Go.AE.Gn
open Go Go.AE
theorem Texels_is {F : Nat} (f : Int) {w h lay fac lev : Int} (wb : w < 9223372036854775808) (hb : h < 9223372036854775808) (vb : lev < 9223372036854775808) (D : List (List Int)) (P : List (List Int × List Int)) (hF : 600 ≤ F) :
    layout_Texels F (f, (w, (h, (lay, (fac, (lev, (D, (P, ())))))))) = some ((tx17 w h lay fac lev).1, ((tx17 w h lay fac lev).2, ())) ∧
    ref17_Texels F (f, (w, (h, (lay, (fac, (lev, (D, (P, ())))))))) = some ((tx17 w h lay fac lev).1, ((tx17 w h lay fac lev).2, ())) := by
  by_cases c : w < 1 ∨ h < 1 ∨ lay < 1 ∨ fac < 1 ∨ lev < 1
  · unfold tx17
    rw [if_pos c]
    constructor
    · unfold layout_Texels
      dsimp only
      rw [decide_eq_true (show min (min (min (min w h) lay) fac) lev < 1 by omega), cond_true]
    · unfold ref17_Texels
      dsimp only
      by_cases c1 : w < 1
      · rw [decide_eq_true c1, cond_true]
      rw [decide_eq_false c1, cond_false]
      by_cases c2 : h < 1
      · rw [decide_eq_true c2, cond_true]
      rw [decide_eq_false c2, cond_false]
      by_cases c3 : lay < 1
      · rw [decide_eq_true c3, cond_true]
      rw [decide_eq_false c3, cond_false]
      by_cases c4 : fac < 1
      · rw [decide_eq_true c4, cond_true]
      rw [decide_eq_false c4, cond_false, decide_eq_true (show lev < 1 by omega), cond_true]
  · unfold tx17
    rw [if_neg c]
    obtain ⟨w, rfl⟩ := Int.eq_ofNat_of_zero_le (show 0 ≤ w by omega)
    obtain ⟨h, rfl⟩ := Int.eq_ofNat_of_zero_le (show 0 ≤ h by omega)
    obtain ⟨lay, rfl⟩ := Int.eq_ofNat_of_zero_le (show 0 ≤ lay by omega)
    obtain ⟨fac, rfl⟩ := Int.eq_ofNat_of_zero_le (show 0 ≤ fac by omega)
    obtain ⟨lev, rfl⟩ := Int.eq_ofNat_of_zero_le (show 0 ≤ lev by omega)
    exact TexelsN f (by omega) (by omega) (by omega) (by omega) (by omega) (by omega) (by omega) (by omega) D P hF
def hd17 (f w h lay fac lev sd la tx : Int) : Int :=
  if ¬ (1 ≤ f ∧ f ≤ 12) then 5 else
  if w < 1 ∨ h < 1 ∨ lay < 1 ∨ lev < 1 ∨ (fac ≠ 1 ∧ fac ≠ 6) then 1 else
  if (fac = 6 ∧ w ≠ h) ∨ ((lv17 w.toNat h.toNat + 1 : Nat) : Int) < lev then 1 else
  if sd < w ∨ sd < h ∨ la < lay ∨ (tx17 w h lay fac lev).2 ≠ 0 ∨ tx < (tx17 w h lay fac lev).1 then 6 else 0
theorem Of_num (F : Nat) (f : Int) : (1 ≤ f ∧ f ≤ 12 ∧ ∃ r, format_Of F f = some (r, (0, ()))) ∨ (¬ (1 ≤ f ∧ f ≤ 12) ∧ format_Of F f = some ((0, (0, (false, ()))), (5, ()))) := by
  by_cases h : 1 ≤ f ∧ f ≤ 12
  · obtain ⟨k, hk, rfl⟩ := fmt_of h
    exact .inl ⟨h.1, h.2, _, Of_is F hk⟩
  · exact .inr ⟨h, Of_bad F h⟩
theorem Levels_I {F : Nat} {w h : Int} (w1 : ¬ w < 1) (h1 : ¬ h < 1) (wb : w < 9223372036854775808) (hb : h < 9223372036854775808) (hF : 63 ≤ F) :
    mip_Levels F w h = some (((lv17 w.toNat h.toNat + 1 : Nat) : Int), ()) ∧ ref05_Levels F w h = some (((lv17 w.toNat h.toNat + 1 : Nat) : Int), ()) := by
  obtain ⟨w, rfl⟩ := Int.eq_ofNat_of_zero_le (show 0 ≤ w by omega)
  obtain ⟨h, rfl⟩ := Int.eq_ofNat_of_zero_le (show 0 ≤ h by omega)
  exact Levels17 (by omega) (by omega) (by omega) (by omega) hF
theorem Header_is {F : Nat} {f w h lay fac lev : Int} (wb : w < 9223372036854775808) (hb : h < 9223372036854775808) (vb : lev < 9223372036854775808) (D : List (List Int)) (P : List (List Int × List Int)) (sd la tx : Int) (hF : 600 ≤ F) :
    layout_Header F (f, (w, (h, (lay, (fac, (lev, (D, (P, ())))))))) (sd, (la, (tx, ()))) = some (hd17 f w h lay fac lev sd la tx, ()) ∧
    ref17_Header F (f, (w, (h, (lay, (fac, (lev, (D, (P, ())))))))) (sd, (la, (tx, ()))) = some (hd17 f w h lay fac lev sd la tx, ()) := by
  obtain ⟨T1, T2⟩ := Texels_is (F := F) f (w := w) (h := h) (lay := lay) (fac := fac) (lev := lev) wb hb vb D P hF
  unfold layout_Header ref17_Header hd17
  dsimp only
  rw [(rOf_is F f).1, T1, T2]
  rcases Of_num F f with ⟨g1, g2, r, ho⟩ | ⟨g, ho⟩
  rotate_left
  · rw [ho, if_pos g]
    exact ⟨rfl, rfl⟩
  rw [ho, if_neg (show ¬ ¬ (1 ≤ f ∧ f ≤ 12) from fun q => q ⟨g1, g2⟩)]
  simp only [obd]
  simp only [bne_self_eq_false, cond_false]
  by_cases c1 : w < 1
  · rw [decide_eq_true (show min (min (min w h) lay) lev < 1 by omega), decide_eq_true c1, if_pos (.inl c1)]
    exact ⟨rfl, rfl⟩
  by_cases c2 : h < 1
  · rw [decide_eq_true (show min (min (min w h) lay) lev < 1 by omega), decide_eq_false c1, decide_eq_true c2, if_pos (.inr (.inl c2))]
    exact ⟨rfl, rfl⟩
  by_cases c3 : lay < 1
  · rw [decide_eq_true (show min (min (min w h) lay) lev < 1 by omega), decide_eq_false c1, decide_eq_false c2, decide_eq_true c3, if_pos (.inr (.inr (.inl c3)))]
    exact ⟨rfl, rfl⟩
  by_cases c4 : lev < 1
  · rw [decide_eq_true (show min (min (min w h) lay) lev < 1 by omega), decide_eq_false c1, decide_eq_false c2, decide_eq_false c3, decide_eq_true c4, if_pos (.inr (.inr (.inr (.inl c4))))]
    exact ⟨rfl, rfl⟩
  rw [decide_eq_false (show ¬ min (min (min w h) lay) lev < 1 by omega), decide_eq_false c1, decide_eq_false c2, decide_eq_false c3, decide_eq_false c4]
  simp only [cond_false]
  obtain ⟨L1, L2⟩ := Levels_I (F := F) c1 c2 wb hb (by omega)
  rw [L1, L2]
  simp only [obd]
  generalize lv17 w.toNat h.toNat + 1 = m
  generalize tx17 w h lay fac lev = t
  by_cases c5 : fac = 1
  · subst c5
    rw [if_neg (show ¬ (w < 1 ∨ h < 1 ∨ lay < 1 ∨ lev < 1 ∨ ((1 : Int) ≠ 1 ∧ (1 : Int) ≠ 6)) by omega)]
    have e1 : ((1 : Int) != 1) = false := rfl
    have e2 : ((1 : Int) == 6) = false := rfl
    rw [e1, e2]
    simp only [cond_false]
    by_cases d1 : (m : Int) < lev
    · rw [decide_eq_true d1, if_pos (.inr d1)]
      exact ⟨rfl, rfl⟩
    rw [decide_eq_false d1, if_neg (by omega)]
    simp only [cond_false]
    by_cases d2 : sd < w
    · rw [decide_eq_true d2, if_pos (.inl d2)]; exact ⟨rfl, rfl⟩
    by_cases d3 : sd < h
    · rw [decide_eq_false d2, decide_eq_true d3, if_pos (.inr (.inl d3))]; exact ⟨rfl, rfl⟩
    by_cases d4 : la < lay
    · rw [decide_eq_false d2, decide_eq_false d3, decide_eq_true d4, if_pos (.inr (.inr (.inl d4)))]; exact ⟨rfl, rfl⟩
    rw [decide_eq_false d2, decide_eq_false d3, decide_eq_false d4]
    simp only [cond_false]
    by_cases d5 : t.2 = 0
    · have e : (t.2 != (0 : Int)) = false := by simp [d5]
      rw [e, cond_false]
      by_cases d6 : tx < t.1
      · rw [decide_eq_true d6, if_pos (.inr (.inr (.inr (.inr d6))))]; exact ⟨rfl, rfl⟩
      · rw [decide_eq_false d6, if_neg (by omega)]; exact ⟨rfl, rfl⟩
    · rw [bneT d5, if_pos (.inr (.inr (.inr (.inl d5))))]; exact ⟨rfl, rfl⟩
  by_cases c6 : fac = 6
  · subst c6
    rw [if_neg (show ¬ (w < 1 ∨ h < 1 ∨ lay < 1 ∨ lev < 1 ∨ ((6 : Int) ≠ 1 ∧ (6 : Int) ≠ 6)) by omega)]
    have e1 : ((6 : Int) != 1) = true := rfl
    have e2 : ((6 : Int) == 6) = true := rfl
    have e3 : ((6 : Int) != 6) = false := rfl
    rw [e1, e2, e3]
    simp only [cond_false, cond_true]
    by_cases d0 : w = h
    rotate_left
    · rw [bneT d0, if_pos (.inl ⟨by first | rfl | trivial, d0⟩)]
      exact ⟨rfl, rfl⟩
    have e4 : (w != h) = false := by simp [d0]
    rw [e4]
    simp only [cond_false]
    by_cases d1 : (m : Int) < lev
    · rw [decide_eq_true d1, if_pos (.inr d1)]
      exact ⟨rfl, rfl⟩
    rw [decide_eq_false d1, if_neg (by omega)]
    simp only [cond_false]
    by_cases d2 : sd < w
    · rw [decide_eq_true d2, if_pos (.inl d2)]; exact ⟨rfl, rfl⟩
    by_cases d3 : sd < h
    · rw [decide_eq_false d2, decide_eq_true d3, if_pos (.inr (.inl d3))]; exact ⟨rfl, rfl⟩
    by_cases d4 : la < lay
    · rw [decide_eq_false d2, decide_eq_false d3, decide_eq_true d4, if_pos (.inr (.inr (.inl d4)))]; exact ⟨rfl, rfl⟩
    rw [decide_eq_false d2, decide_eq_false d3, decide_eq_false d4]
    simp only [cond_false]
    by_cases d5 : t.2 = 0
    · have e : (t.2 != (0 : Int)) = false := by simp [d5]
      rw [e, cond_false]
      by_cases d6 : tx < t.1
      · rw [decide_eq_true d6, if_pos (.inr (.inr (.inr (.inr d6))))]; exact ⟨rfl, rfl⟩
      · rw [decide_eq_false d6, if_neg (by omega)]; exact ⟨rfl, rfl⟩
    · rw [bneT d5, if_pos (.inr (.inr (.inr (.inl d5))))]; exact ⟨rfl, rfl⟩
  rw [if_pos (.inr (.inr (.inr (.inr ⟨c5, c6⟩)))), bneT c5, bneT c6]
  exact ⟨rfl, rfl⟩
theorem hd17_ok {f w h lay fac lev sd la tx : Int} (e : hd17 f w h lay fac lev sd la tx = 0) :
    (1 ≤ f ∧ f ≤ 12) ∧ 1 ≤ w ∧ 1 ≤ h ∧ 1 ≤ lay ∧ 1 ≤ lev ∧ (fac = 1 ∨ fac = 6) ∧ (fac = 6 → w = h) ∧ lev ≤ ((lv17 w.toNat h.toNat + 1 : Nat) : Int) ∧ w ≤ sd ∧ h ≤ sd ∧ lay ≤ la ∧ (tx17 w h lay fac lev).2 = 0 ∧ (tx17 w h lay fac lev).1 ≤ tx := by
  unfold hd17 at e
  by_cases c1 : ¬ (1 ≤ f ∧ f ≤ 12)
  · rw [if_pos c1] at e; exact absurd e (by decide)
  rw [if_neg c1] at e
  by_cases c2 : w < 1 ∨ h < 1 ∨ lay < 1 ∨ lev < 1 ∨ (fac ≠ 1 ∧ fac ≠ 6)
  · rw [if_pos c2] at e; exact absurd e (by decide)
  rw [if_neg c2] at e
  by_cases c3 : (fac = 6 ∧ w ≠ h) ∨ ((lv17 w.toNat h.toNat + 1 : Nat) : Int) < lev
  · rw [if_pos c3] at e; exact absurd e (by decide)
  rw [if_neg c3] at e
  by_cases c4 : sd < w ∨ sd < h ∨ la < lay ∨ (tx17 w h lay fac lev).2 ≠ 0 ∨ tx < (tx17 w h lay fac lev).1
  · rw [if_pos c4] at e; exact absurd e (by decide)
  generalize tx17 w h lay fac lev = t at *
  generalize lv17 w.toNat h.toNat + 1 = m at *
  refine ⟨by omega, by omega, by omega, by omega, by omega, by omega, by omega, by omega, by omega, by omega, by omega, by omega, by omega⟩
theorem hd17_of {f w h lay fac lev sd la tx : Int} (g1 : (1 ≤ f ∧ f ≤ 12)) (g2 : 1 ≤ w) (g3 : 1 ≤ h) (g4 : 1 ≤ lay) (g5 : 1 ≤ lev) (g6 : fac = 1 ∨ fac = 6) (g7 : fac = 6 → w = h) (g8 : lev ≤ ((lv17 w.toNat h.toNat + 1 : Nat) : Int)) :
    hd17 f w h lay fac lev sd la tx = if sd < w ∨ sd < h ∨ la < lay ∨ (tx17 w h lay fac lev).2 ≠ 0 ∨ tx < (tx17 w h lay fac lev).1 then 6 else 0 := by
  unfold hd17
  rw [if_neg (fun q => q g1), if_neg (by omega), if_neg]
  rintro (⟨a, b⟩ | a)
  · exact b (g7 a)
  · omega
end Go.AE.Gn
set_option linter.unusedVariables false
set_option linter.unusedSimpArgs false
namespace Go.AE.Gn
open Go Go.AE
def allB (p : Nat → Bool) : Nat → Nat → Bool
  | _, 0 => true
  | s, m + 1 => p s && allB p (s + 1) m
theorem allB_iff {p : Nat → Bool} : ∀ {m s : Nat}, allB p s m = true ↔ ∀ n, s ≤ n → n < s + m → p n = true
  | 0, s => ⟨fun _ n h1 h2 => absurd h2 (by omega), fun _ => rfl⟩
  | m + 1, s => by
    unfold allB
    rw [Bool.and_eq_true, allB_iff (m := m)]
    constructor
    · rintro ⟨a, b⟩ n h1 h2
      rcases Nat.lt_or_ge s n with c | c
      · exact b n (by omega) (by omega)
      · rw [show n = s by omega]; exact a
    · intro h
      exact ⟨h s (by omega) (by omega), fun n h1 h2 => h n (by omega) (by omega)⟩
theorem allB_add (p : Nat → Bool) : ∀ (m s k : Nat), allB p s (m + k) = (allB p s m && allB p (s + m) k)
  | 0, s, k => by rw [Nat.zero_add]; rfl
  | m + 1, s, k => by
    rw [show m + 1 + k = (m + k) + 1 by omega]
    show (p s && allB p (s + 1) (m + k)) = ((p s && allB p (s + 1) m) && allB p (s + (m + 1)) k)
    rw [allB_add p m (s + 1) k, show s + 1 + m = s + (m + 1) by omega, Bool.and_assoc]
theorem inc64 {i : Nat} (h : i < 9223372036854775807) : IntKind.wrap .i64 ((i : Int) + 1) = ((i + 1 : Nat) : Int) := by
  rw [w64 (by omega) (by omega)]
  omega
theorem go17_len {F : Nat} {f : Int} {w h : Nat} : ∀ {l : List Nat} {acc a : List Int}, go17 F f w h l acc = .inl a → a.length = acc.length + l.length
  | [], acc, a, e => by
    unfold go17 at e
    cases e
    rfl
  | j :: r, acc, a, e => by
    unfold go17 at e
    by_cases c : (B17 F f (sd w j : Nat) (sd h j : Nat)).2 = 0
    · rw [if_pos c] at e
      have := go17_len e
      simp at this
      simp
      omega
    · rw [if_neg c] at e
      cases e
theorem go17_err {F : Nat} {f : Int} {w h : Nat} : ∀ {l : List Nat} {acc : List Int} {e : Int}, go17 F f w h l acc = .inr e → e ≠ 0
  | [], acc, e, q => by
    unfold go17 at q
    cases q
  | j :: r, acc, e, q => by
    unfold go17 at q
    by_cases c : (B17 F f (sd w j : Nat) (sd h j : Nat)).2 = 0
    · rw [if_pos c] at q
      exact go17_err q
    · rw [if_neg c] at q
      cases q
      exact c
theorem sizes17_len {F : Nat} {f : Int} {w h lev : Nat} (e : (sizes17 F f w h lev).2 = 0) : (sizes17 F f w h lev).1.length = lev := by
  unfold sizes17 at e ⊢
  cases hg : go17 F f w h (List.range' 0 lev) [] with
  | inl a =>
    have := go17_len hg
    simpa using this
  | inr q =>
    rw [hg] at e
    exact absurd e (go17_err hg)
def okD (D : List (List Int)) (S : List Int) (lev n : Nat) : Bool := decide (n < D.length) && ((((D.getD n []).length : Nat) : Int) == S.getD (n % lev) 0)
theorem tmodN (a b : Nat) : Int.tmod (a : Int) (b : Int) = ((a % b : Nat) : Int) := rfl
theorem ltB {a b : Nat} (h : a < b) : ((decide ((0 : Int) ≤ (a : Int))) && (decide ((a : Int) < ((b : Nat) : Int)))) = true := by
  rw [decide_eq_true (show (0 : Int) ≤ (a : Int) by omega), decide_eq_true (show (a : Int) < (b : Int) by omega)]
  rfl
theorem bne_eq {a b : Int} : (a != b) = !(a == b) := rfl
theorem data_run (F : Nat) (x0 x1 x2 x3 x4 : Int) {lev : Nat} (x6 : List (List Int)) (x7 : List (List Int × List Int)) {D : List (List Int)} {S : List Int} (v1 : 1 ≤ lev) (hS : S.length = lev) (hD : D.length < 4611686018427387904) : ∀ (k i : Nat), i ≤ D.length → D.length - i < k →
    layout_data_l0 F k x0 x1 x2 x3 x4 (lev : Int) x6 x7 S D ((D.length : Nat) : Int) (i : Int) = if allB (okD D S lev) i (D.length - i) = true then some (.inr ()) else some (.inl ())
  | 0, i, _, hk => by omega
  | k + 1, i, hi, hk => by
    unfold layout_data_l0 layout_data_l0S
    by_cases c : i < D.length
    · rw [decide_eq_true (show (i : Int) < ((D.length : Nat) : Int) by omega), cond_true, decide_eq_true (show (0 : Int) ≤ (i : Int) by omega), Bool.and_self, cond_true, beqF (show (lev : Int) ≠ 0 by omega), Bool.not_false, cond_true]
      rw [tmodN, ltB (show i % lev < S.length by rw [hS]; exact Nat.mod_lt _ (by omega)), cond_true, inc64 (by omega), Int.toNat_natCast, Int.toNat_natCast, bne_eq]
      rw [show D.length - i = (D.length - (i + 1)) + 1 by omega]
      unfold allB
      rw [data_run F x0 x1 x2 x3 x4 x6 x7 v1 hS hD k (i + 1) (by omega) (by omega)]
      have e : okD D S lev i = ((((D.getD i []).length : Nat) : Int) == S.getD (i % lev) 0) := by
        unfold okD
        rw [decide_eq_true c, Bool.true_and]
      rw [e]
      generalize ((((D.getD i []).length : Nat) : Int) == S.getD (i % lev) 0) = q
      cases q
      · rfl
      · rfl
    · rw [decide_eq_false (show ¬ (i : Int) < ((D.length : Nat) : Int) by omega), cond_false, show D.length - i = 0 by omega]
      rfl
theorem rdata4_run (F : Nat) (x0 x1 x2 x3 x4 : Int) {lev : Nat} (x7 : List (List Int × List Int)) {D : List (List Int)} {S : List Int} (hS : S.length = lev) (hD : D.length < 4611686018427387904) (hl : lev ≤ 4611686018427387904) (x10 x11 : Int) : ∀ (k j n : Nat), j ≤ lev → lev - j < k → (j < lev → n % lev = j) →
    ref17_Check_l4 F k x0 x1 x2 x3 x4 (lev : Int) D x7 S (n : Int) x10 x11 (j : Int) = if allB (okD D S lev) n (lev - j) = true then some (.inr (x0, (x1, (x2, (x3, (x4, ((lev : Int), (D, (x7, (S, (((n + (lev - j) : Nat) : Int), (x10, (x11, ()))))))))))))) else some (.inl ())
  | 0, j, n, _, hk, _ => by omega
  | k + 1, j, n, hj, hk, hn => by
    unfold ref17_Check_l4 ref17_Check_l4S
    by_cases c : j < lev
    · rw [decide_eq_true (show (j : Int) < (lev : Int) by omega), cond_true]
      rw [show lev - j = (lev - (j + 1)) + 1 by omega]
      unfold allB
      by_cases c2 : n < D.length
      · dsimp only
        rw [decide_eq_false (show ¬ ((D.length : Nat) : Int) ≤ (n : Int) by omega), cond_false, ltB c2, cond_true, ltB (show j < S.length by omega), cond_true, inc64 (by omega), inc64 (by omega), Int.toNat_natCast, Int.toNat_natCast, bne_eq]
        rw [rdata4_run F x0 x1 x2 x3 x4 x7 hS hD hl x10 x11 k (j + 1) (n + 1) (by omega) (by omega) (fun q => by
          have := hn c
          have e1 := Nat.div_add_mod n lev
          rw [this] at e1
          have e2 : n + 1 = (j + 1) + lev * (n / lev) := by omega
          rw [e2, Nat.add_mul_mod_self_left, Nat.mod_eq_of_lt q])]
        have e : okD D S lev n = ((((D.getD n []).length : Nat) : Int) == S.getD j 0) := by
          unfold okD
          rw [decide_eq_true c2, Bool.true_and, hn c]
        rw [e, show n + 1 + (lev - (j + 1)) = n + (lev - (j + 1) + 1) by omega]
        generalize ((((D.getD n []).length : Nat) : Int) == S.getD j 0) = q
        cases q
        · rfl
        · rfl
      · have e : okD D S lev n = false := by
          unfold okD
          rw [decide_eq_false c2, Bool.false_and]
        dsimp only
        rw [decide_eq_true (show ((D.length : Nat) : Int) ≤ (n : Int) by omega), cond_true, e, Bool.false_and, if_neg (by decide)]
    · rw [decide_eq_false (show ¬ (j : Int) < (lev : Int) by omega), cond_false, show lev - j = 0 by omega]
      rfl
theorem rdata2_run (F : Nat) (x0 x1 x2 x3 : Int) {fac lev : Nat} (x7 : List (List Int × List Int)) {D : List (List Int)} {S : List Int} (v1 : 1 ≤ lev) (hS : S.length = lev) (hD : D.length < 4611686018427387904) (hl : lev < F) (hl2 : lev ≤ 4611686018427387904) (hf : fac ≤ 1000) (x10 : Int) : ∀ (k j n : Nat), j ≤ fac → fac - j < k → n % lev = 0 →
    ref17_Check_l2 F k x0 x1 x2 x3 (fac : Int) (lev : Int) D x7 S (n : Int) x10 (j : Int) = if allB (okD D S lev) n ((fac - j) * lev) = true then some (.inr (x0, (x1, (x2, (x3, ((fac : Int), ((lev : Int), (D, (x7, (S, (((n + (fac - j) * lev : Nat) : Int), (x10, ())))))))))))) else some (.inl ())
  | 0, j, n, _, hk, _ => by omega
  | k + 1, j, n, hj, hk, hn => by
    unfold ref17_Check_l2 ref17_Check_l2S
    by_cases c : j < fac
    · rw [decide_eq_true (show (j : Int) < (fac : Int) by omega), cond_true]
      have h4 := rdata4_run F x0 x1 x2 x3 (fac : Int) x7 hS hD hl2 x10 (j : Int) F 0 n (by omega) (by omega) (fun _ => hn)
      rw [Nat.sub_zero, show ((0 : Nat) : Int) = 0 from rfl] at h4
      rw [h4, show (fac - j) * lev = lev + (fac - (j + 1)) * lev by rw [show fac - j = (fac - (j + 1)) + 1 by omega, Nat.succ_mul, Nat.add_comm], allB_add]
      cases hq : allB (okD D S lev) n lev
      · rw [if_neg (by decide), obd, Bool.false_and, if_neg (by decide)]
      · rw [if_pos rfl, obd, Bool.true_and]
        dsimp only
        rw [inc64 (by omega), rdata2_run F x0 x1 x2 x3 x7 v1 hS hD hl hl2 hf x10 k (j + 1) (n + lev) (by omega) (by omega) (by rw [Nat.add_mod_right]; exact hn)]
        rw [Nat.add_assoc]
    · rw [decide_eq_false (show ¬ (j : Int) < (fac : Int) by omega), cond_false, show fac - j = 0 by omega, Nat.zero_mul]
      rfl
theorem rdata0_run (F : Nat) (x0 x1 x2 : Int) {lay fac lev : Nat} (x7 : List (List Int × List Int)) {D : List (List Int)} {S : List Int} (v1 : 1 ≤ lev) (f1 : 1 ≤ fac) (hS : S.length = lev) (hD : D.length < 4611686018427387904) (hl : lev < F) (hl2 : lev ≤ 4611686018427387904) (hf : fac ≤ 1000) (hfF : fac < F) (hy : lay < 4611686018427387904) : ∀ (k a n : Nat), a ≤ lay → 1 ≤ k → D.length + 2 ≤ k + a → n % lev = 0 → a ≤ n →
    ref17_Check_l0 F k x0 x1 x2 (lay : Int) (fac : Int) (lev : Int) D x7 S (n : Int) (a : Int) = if allB (okD D S lev) n ((lay - a) * (fac * lev)) = true then some (.inr (x0, (x1, (x2, ((lay : Int), ((fac : Int), ((lev : Int), (D, (x7, (((n + (lay - a) * (fac * lev) : Nat) : Int), ())))))))))) else some (.inl ())
  | 0, a, n, _, hk, _, _, _ => by omega
  | k + 1, a, n, ha, _, hk, hn, han => by
    unfold ref17_Check_l0 ref17_Check_l0S
    by_cases c : a < lay
    · rw [decide_eq_true (show (a : Int) < (lay : Int) by omega), cond_true]
      have h2 := rdata2_run F x0 x1 x2 (lay : Int) x7 v1 hS hD hl hl2 hf (a : Int) F 0 n (by omega) (by omega) hn
      rw [Nat.sub_zero, show ((0 : Nat) : Int) = 0 from rfl] at h2
      rw [h2, show (lay - a) * (fac * lev) = fac * lev + (lay - (a + 1)) * (fac * lev) by rw [show lay - a = (lay - (a + 1)) + 1 by omega, Nat.succ_mul, Nat.add_comm], allB_add]
      have fl : 1 ≤ fac * lev := Nat.mul_pos f1 v1
      cases hq : allB (okD D S lev) n (fac * lev)
      · rw [if_neg (by decide), obd, Bool.false_and, if_neg (by decide)]
      · rw [if_pos rfl, obd, Bool.true_and]
        dsimp only
        have hlt : n < D.length := by
          have := allB_iff.1 hq n (by omega) (by omega)
          unfold okD at this
          rw [Bool.and_eq_true] at this
          exact of_decide_eq_true this.1
        rw [inc64 (by omega), rdata0_run F x0 x1 x2 x7 v1 f1 hS hD hl hl2 hf hfF hy k (a + 1) (n + fac * lev) (by omega) (by omega) (by omega) (by rw [Nat.add_mul_mod_self_right]; exact hn) (by omega)]
        rw [Nat.add_assoc]
    · rw [decide_eq_false (show ¬ (a : Int) < (lay : Int) by omega), cond_false, show lay - a = 0 by omega, Nat.zero_mul]
      rfl
def data17 (F : Nat) (f : Int) (w h lay fac lev : Nat) (D : List (List Int)) : Bool :=
  decide ((sizes17 F f w h lev).2 = 0) && (decide (D.length = lay * fac * lev) && allB (okD D (sizes17 F f w h lev).1 lev) 0 D.length)
theorem data_is {F : Nat} {f : Int} {w h lay fac lev : Nat} {r : Int × (Int × (Bool × Unit))} (ho : format_Of F f = some (r, (0, ()))) (w1 : 1 ≤ w) (h1 : 1 ≤ h) (wb : w < 9223372036854775808) (hb : h < 9223372036854775808) (l1 : 1 ≤ lev) (l2 : lev ≤ lv17 w h + 1) (hy : lay < 4294967296) (hf : fac ≤ 6) {D : List (List Int)} (hD : D.length < F) (hD2 : D.length < 4611686018427387904) (P : List (List Int × List Int)) (hF : 600 ≤ F) :
    layout_data F (f, ((w : Int), ((h : Int), ((lay : Int), ((fac : Int), ((lev : Int), (D, (P, ())))))))) = some (data17 F f w h lay fac lev D, ()) := by
  obtain ⟨s1, _⟩ := Sizes_is ho w1 h1 wb hb l1 l2 hF
  unfold layout_data data17
  dsimp only
  rw [s1, obd]
  dsimp only
  generalize hs : sizes17 F f w h lev = S
  by_cases c : S.2 = 0
  · have hS : S.1.length = lev := by rw [← hs] at c ⊢; exact sizes17_len c
    rw [decide_eq_true c, Bool.true_and]
    have e0 : (S.2 != (0 : Int)) = false := by simp [c]
    rw [e0, cond_false, beqF (show (lev : Int) ≠ 0 by omega), Bool.not_false, cond_true, cond_true, tmodN]
    have pl : lay * fac ≤ 4294967296 * 6 := Nat.mul_le_mul (by omega) hf
    have e1 : (lay : Int) * (fac : Int) = ((lay * fac : Nat) : Int) := by rw [Int.natCast_mul]
    have e2 : Int.tdiv ((D.length : Nat) : Int) (lev : Int) = ((D.length / lev : Nat) : Int) := rfl
    have q2 : D.length / lev ≤ D.length := Nat.div_le_self _ _
    rw [e1, e2]
    have e3 : (D.length = lay * fac * lev) ↔ (D.length % lev = 0 ∧ D.length / lev = lay * fac) := by
      constructor
      · intro q
        rw [q]
        exact ⟨Nat.mul_mod_left _ _, Nat.mul_div_cancel _ (by omega)⟩
      · rintro ⟨q1, q2⟩
        have := Nat.div_add_mod D.length lev
        rw [q1, q2, Nat.add_zero, Nat.mul_comm] at this
        exact this.symm
    generalize D.length / lev = dv at *
    generalize D.length % lev = dm at *
    rw [w64 (by omega) (by omega), w64 (by omega) (by omega)]
    by_cases d1 : dm = 0
    · rw [d1]
      have e4 : (((0 : Nat) : Int) != (0 : Int)) = false := rfl
      rw [e4, cond_false]
      by_cases d2 : dv = lay * fac
      · rw [d2, decide_eq_true (e3.2 ⟨d1, d2⟩), Bool.true_and]
        have e5 : (((lay * fac : Nat) : Int) != ((lay * fac : Nat) : Int)) = false := by simp
        rw [e5, cond_false]
        have hr := data_run F f (w : Int) (h : Int) (lay : Int) (fac : Int) D P l1 hS hD2 F 0 (by omega) (by omega)
        rw [Nat.sub_zero, show ((0 : Nat) : Int) = 0 from rfl] at hr
        rw [hr]
        cases allB (okD D S.1 lev) 0 D.length <;> rfl
      · rw [decide_eq_false (fun q => d2 (e3.1 q).2), Bool.false_and, bneT (show ((dv : Nat) : Int) ≠ ((lay * fac : Nat) : Int) by omega)]
        rfl
    · rw [decide_eq_false (fun q => d1 (e3.1 q).1), Bool.false_and, bneT (show ((dm : Nat) : Int) ≠ 0 by omega)]
      rfl
  · rw [decide_eq_false c, Bool.false_and, bneT c]
    rfl
end Go.AE.Gn
set_option linter.unusedVariables false
set_option linter.unusedSimpArgs false
namespace Go.AE.Gn
open Go Go.AE
def odd17 (p : List Int × List Int) : Bool := p.1 == [] || (p.1.contains 0 || decide ((65535 : Int) < IntKind.wrap .i64 (((p.1.length : Nat) : Int) + ((p.2.length : Nat) : Int))))
theorem idxB_is (c : Int) : ∀ (l : List Int) (i : Int), 0 ≤ i → (decide ((0 : Int) ≤ idxB c l i)) = l.contains c
  | [], i, _ => rfl
  | x :: r, i, hi => by
    unfold idxB
    by_cases h : x = c
    · subst h
      rw [beqT rfl, cond_true, decide_eq_true hi]
      simp
    · rw [beqF h, cond_false, idxB_is c r (i + 1) (by omega)]
      have : (c == x) = false := beqF (Ne.symm h)
      rw [List.contains_cons, this, Bool.false_or]
def Pl (F : Nat) (P : List (List Int × List Int)) : Prop := ∀ p ∈ P, p.1.length < F ∧ p.1.length ≤ 9223372036854775807
theorem empty17 : (bytesL (ByteArray.mk (List.toArray []))) = [] := rfl
theorem odd_is (F : Nat) {p : List Int × List Int} : layout_Check_c1 F (p.1, (p.2, ())) = some (odd17 p, ()) := by
  unfold layout_Check_c1 odd17 strings_IndexByte internal_stringslite_IndexByte
  dsimp only
  rw [empty17]
  cases p.1 == []
  · rw [cond_false, obd, obd, idxB_is _ _ _ (by decide), Bool.false_or]
    cases p.1.contains 0
    · rw [cond_false, Bool.false_or]
    · rfl
  · rfl
theorem drop_cons {α : Type} {l : List α} {i : Nat} (d : α) (h : i < l.length) : l.drop i = l.getD i d :: l.drop (i + 1) := by
  rw [List.drop_eq_getElem_cons h]
  congr 1
  rw [List.getD_eq_getElem?_getD, List.getElem?_eq_getElem h]
  rfl
theorem getD_mem {α : Type} {l : List α} {i : Nat} (d : α) (h : i < l.length) : l.getD i d ∈ l := by
  rw [List.getD_eq_getElem?_getD, List.getElem?_eq_getElem h]
  exact List.getElem_mem h
theorem index_run (F : Nat) {P : List (List Int × List Int)} (hP : Pl F P) (hl : P.length < 4611686018427387904) : ∀ (k i : Nat), i ≤ P.length → P.length - i < k →
    ∃ j : Nat, slices_IndexFunc_api_Pair_api_Pair_Check_c1_l0 F k P ((P.length : Nat) : Int) (i : Int) = if (P.drop i).any odd17 = true then some (.inl ((j : Int), ())) else some (.inr ())
  | 0, i, _, hk => by omega
  | k + 1, i, hi, hk => by
    by_cases c : i < P.length
    · obtain ⟨j, ih⟩ := index_run F hP hl k (i + 1) (by omega) (by omega)
      have hm := hP _ (getD_mem ([], []) c)
      have e : (P.drop i).any odd17 = (odd17 (P.getD i ([], [])) || (P.drop (i + 1)).any odd17) := by
        rw [drop_cons ([], []) c, List.any_cons]
      cases q : odd17 (P.getD i ([], []))
      · refine ⟨j, ?_⟩
        unfold slices_IndexFunc_api_Pair_api_Pair_Check_c1_l0 slices_IndexFunc_api_Pair_api_Pair_Check_c1_l0S
        rw [decide_eq_true (show (i : Int) < ((P.length : Nat) : Int) by omega), cond_true, decide_eq_true (show (0 : Int) ≤ (i : Int) by omega), Bool.and_self, cond_true, Int.toNat_natCast]
        dsimp only
        rw [odd_is F, obd, e, q, Bool.false_or, cond_false, inc64 (by omega), ih]
      · refine ⟨i, ?_⟩
        unfold slices_IndexFunc_api_Pair_api_Pair_Check_c1_l0 slices_IndexFunc_api_Pair_api_Pair_Check_c1_l0S
        rw [decide_eq_true (show (i : Int) < ((P.length : Nat) : Int) by omega), cond_true, decide_eq_true (show (0 : Int) ≤ (i : Int) by omega), Bool.and_self, cond_true, Int.toNat_natCast]
        dsimp only
        rw [odd_is F, obd, e, q, Bool.true_or, cond_true, if_pos rfl]
    · refine ⟨0, ?_⟩
      unfold slices_IndexFunc_api_Pair_api_Pair_Check_c1_l0 slices_IndexFunc_api_Pair_api_Pair_Check_c1_l0S
      rw [decide_eq_false (show ¬ (i : Int) < ((P.length : Nat) : Int) by omega), cond_false, List.drop_eq_nil_of_le (by omega)]
      rfl
theorem contains_is (F : Nat) {P : List (List Int × List Int)} (hP : Pl F P) (hl : P.length < F) (hl2 : P.length < 4611686018427387904) :
    slices_ContainsFunc_api_Pair_api_Pair_Check_c1 F P = some (P.any odd17, ()) := by
  obtain ⟨j, h⟩ := index_run F hP hl2 F 0 (by omega) (by omega)
  rw [List.drop_zero, show ((0 : Nat) : Int) = 0 from rfl] at h
  unfold slices_ContainsFunc_api_Pair_api_Pair_Check_c1 slices_IndexFunc_api_Pair_api_Pair_Check_c1
  rw [h]
  cases P.any odd17
  · rfl
  · rw [if_pos rfl, obd, obd]
    dsimp only
    rw [decide_eq_true (show (0 : Int) ≤ (j : Int) by omega)]
theorem key_run (F : Nat) (x0 x1 x2 x3 x4 x5 : Int) (x6 : List (List Int)) (x7 : List (List Int × List Int)) (x8 : Int) {K : List Int} (x10 x12 : List Int) (x13 : Int) (x14 : List Int) (x15 x16 : Int) (x17 : Bool) (hK : K.length ≤ 9223372036854775807) : ∀ (k i : Nat), i ≤ K.length → K.length - i < k →
    ref17_Check_l8 F k x0 x1 x2 x3 x4 x5 x6 x7 x8 K x10 (i : Int) x12 x13 x14 x15 x16 x17 = if (K.drop i).contains 0 = true then some (.inl ()) else some (.inr (x0, (x1, (x2, (x3, (x4, (x5, (x6, (x7, (x8, (K, (x10, (x12, (x13, (x14, (x15, (x16, (x17, ()))))))))))))))))))
  | 0, i, _, hk => by omega
  | k + 1, i, hi, hk => by
    unfold ref17_Check_l8 ref17_Check_l8S
    dsimp only
    by_cases c : i < K.length
    · rw [decide_eq_true (show (i : Int) < ((K.length : Nat) : Int) by omega), cond_true, decide_eq_true (show (0 : Int) ≤ (i : Int) by omega), Bool.and_self, cond_true, Int.toNat_natCast]
      rw [drop_cons 0 c, List.contains_cons]
      by_cases q : K.getD i 0 = 0
      · rw [q, beqT rfl, cond_true, Bool.true_or, if_pos rfl]
      · rw [beqF q, cond_false, beqF (Ne.symm q), Bool.false_or, inc64 (by omega), key_run F x0 x1 x2 x3 x4 x5 x6 x7 x8 x10 x12 x13 x14 x15 x16 x17 hK k (i + 1) (by omega) (by omega)]
    · rw [decide_eq_false (show ¬ (i : Int) < ((K.length : Nat) : Int) by omega), cond_false, List.drop_eq_nil_of_le (by omega)]
      rfl
theorem pairs_run (F : Nat) (x0 x1 x2 x3 x4 x5 : Int) (x6 : List (List Int)) {P : List (List Int × List Int)} (hP : Pl F P) (hl : P.length < 4611686018427387904) : ∀ (k i : Nat), i ≤ P.length → P.length - i < k →
    ref17_Check_l6 F k x0 x1 x2 x3 x4 x5 x6 P (i : Int) = if (P.drop i).any odd17 = true then some (.inl ()) else some (.inr ())
  | 0, i, _, hk => by omega
  | k + 1, i, hi, hk => by
    unfold ref17_Check_l6 ref17_Check_l6S
    dsimp only
    by_cases c : i < P.length
    · have hm := hP _ (getD_mem ([], []) c)
      have e : (P.drop i).any odd17 = (odd17 (P.getD i ([], [])) || (P.drop (i + 1)).any odd17) := by
        rw [drop_cons ([], []) c, List.any_cons]
      rw [decide_eq_true (show (i : Int) < ((P.length : Nat) : Int) by omega), cond_true, decide_eq_true (show (0 : Int) ≤ (i : Int) by omega), Bool.and_self, cond_true, Int.toNat_natCast, e, empty17]
      generalize P.getD i ([], []) = p at *
      unfold odd17
      cases p.1 == []
      · rw [cond_false, Bool.false_or]
        generalize hg : IntKind.wrap .i64 (((p.1.length : Nat) : Int) + ((p.2.length : Nat) : Int)) = g
        cases hd : decide ((65535 : Int) < g)
        · rw [cond_false, Bool.or_false]
          have hk8 := key_run F x0 x1 x2 x3 x4 x5 x6 P (i : Int) (K := p.1) p.2 p.1 ((p.1.length : Nat) : Int) p.2 ((p.2.length : Nat) : Int) g false (by omega) F 0 (by omega) (by omega)
          rw [List.drop_zero, show ((0 : Nat) : Int) = 0 from rfl] at hk8
          rw [hk8]
          cases p.1.contains 0
          · rw [if_neg (by decide), obd]
            dsimp only
            rw [Bool.false_or, inc64 (by omega), pairs_run F x0 x1 x2 x3 x4 x5 x6 hP hl k (i + 1) (by omega) (by omega)]
            rfl
          · rfl
        · rw [cond_true, Bool.or_true]
          rfl
      · rfl
    · rw [decide_eq_false (show ¬ (i : Int) < ((P.length : Nat) : Int) by omega), cond_false, List.drop_eq_nil_of_le (by omega)]
      rfl
def ck17 (F : Nat) (f w h lay fac lev : Int) (D : List (List Int)) (P : List (List Int × List Int)) (sd la tx : Int) : Int :=
  if hd17 f w h lay fac lev sd la tx ≠ 0 then hd17 f w h lay fac lev sd la tx else
  cond (data17 F f w.toNat h.toNat lay.toNat fac.toNat lev.toNat D) (cond (P.any odd17) 8 0) 1
theorem tx_lay {w h lay fac lev : Int} (e : (tx17 w h lay fac lev).2 = 0) : lay ≤ 2147483647 := by
  unfold tx17 at e
  by_cases c : w < 1 ∨ h < 1 ∨ lay < 1 ∨ fac < 1 ∨ lev < 1
  · rw [if_pos c] at e
    exact absurd e (by decide)
  · rw [if_neg c] at e
    unfold txN at e
    by_cases d : ts w.toNat h.toNat lev.toNat ≤ 2147483647 ∧ ts w.toNat h.toNat lev.toNat * fac.toNat ≤ 2147483647 ∧ ts w.toNat h.toNat lev.toNat * fac.toNat * lay.toNat ≤ 2147483647
    · have p1 := ts_pos w.toNat h.toNat lev.toNat (by omega)
      have p2 : 1 ≤ ts w.toNat h.toNat lev.toNat * fac.toNat := Nat.mul_pos p1 (by omega)
      have p3 : 1 * lay.toNat ≤ ts w.toNat h.toNat lev.toNat * fac.toNat * lay.toNat := Nat.mul_le_mul_right _ p2
      omega
    · rw [if_neg d] at e
      exact absurd e (by decide)
theorem Check_is {F : Nat} {f w h lay fac lev : Int} (wb : w < 9223372036854775808) (hb : h < 9223372036854775808) (vb : lev < 9223372036854775808) {D : List (List Int)} {P : List (List Int × List Int)} (sd la tx : Int) (hD : D.length < F - 2) (hD2 : D.length < 1099511627776) (hP : Pl F P) (hP1 : P.length < F) (hP2 : P.length < 1099511627776) (hF : 2000 ≤ F) :
    layout_Check F (f, (w, (h, (lay, (fac, (lev, (D, (P, ())))))))) (sd, (la, (tx, ()))) = some (ck17 F f w h lay fac lev D P sd la tx, ()) ∧
    ref17_Check F (f, (w, (h, (lay, (fac, (lev, (D, (P, ())))))))) (sd, (la, (tx, ()))) = some (ck17 F f w h lay fac lev D P sd la tx, ()) := by
  obtain ⟨H1, H2⟩ := Header_is (F := F) (f := f) (lay := lay) (fac := fac) wb hb vb D P sd la tx (by omega)
  unfold layout_Check ref17_Check ck17
  dsimp only
  rw [H1, H2]
  simp only [obd]
  by_cases c : hd17 f w h lay fac lev sd la tx = 0
  rotate_left
  · rw [bneT c, if_pos c]
    exact ⟨rfl, rfl⟩
  have e0 : (hd17 f w h lay fac lev sd la tx != (0 : Int)) = false := by simp [c]
  rw [e0, if_neg (fun q => q c)]
  simp only [cond_false]
  obtain ⟨g1, g2, g3, g4, g5, g6, g7, g8, g9, g10, g11, g12, g13⟩ := hd17_ok c
  have g14 := tx_lay g12
  clear H1 H2 e0 c g7 g9 g10 g11 g12 g13
  rcases Of_num F f with ⟨_, _, r, ho⟩ | ⟨q, _⟩
  rotate_left
  · exact absurd g1 q
  obtain ⟨w, rfl⟩ := Int.eq_ofNat_of_zero_le (show 0 ≤ w by omega)
  obtain ⟨h, rfl⟩ := Int.eq_ofNat_of_zero_le (show 0 ≤ h by omega)
  obtain ⟨lay, rfl⟩ := Int.eq_ofNat_of_zero_le (show 0 ≤ lay by omega)
  obtain ⟨fac, rfl⟩ := Int.eq_ofNat_of_zero_le (show 0 ≤ fac by omega)
  obtain ⟨lev, rfl⟩ := Int.eq_ofNat_of_zero_le (show 0 ≤ lev by omega)
  simp only [Int.toNat_natCast] at *
  have lb := lv17_le (w := w) (h := h) (by omega) (by omega) (by omega) (by omega)
  have D1 := data_is (F := F) (lay := lay) (fac := fac) (lev := lev) ho (w := w) (h := h) (by omega) (by omega) (by omega) (by omega) (by omega) (by omega) (by omega) (by omega) (D := D) (by omega) (by omega) P (by omega)
  obtain ⟨_, S2⟩ := Sizes_is (F := F) ho (w := w) (h := h) (lev := lev) (by omega) (by omega) (by omega) (by omega) (by omega) (by omega) (by omega)
  rw [D1, S2, contains_is F hP hP1 (by omega)]
  simp only [obd]
  constructor
  · cases data17 F f w h lay fac lev D
    · rfl
    · cases P.any odd17 <;> rfl
  · unfold data17
    by_cases s : (sizes17 F f w h lev).2 = 0
    · have hS := sizes17_len s
      have e1 : ((sizes17 F f w h lev).2 != (0 : Int)) = false := by simp [s]
      rw [e1, cond_false, decide_eq_true s, Bool.true_and]
      generalize (sizes17 F f w h lev).1 = S at *
      have hr := rdata0_run F f (w : Int) (h : Int) (lay := lay) (fac := fac) (lev := lev) P (D := D) (S := S) (by omega) (by omega) hS (by omega) (by omega) (by omega) (by omega) (by omega) (by omega) F 0 0 (by omega) (by omega) (by omega) (Nat.zero_mod _) (by omega)
      rw [Nat.sub_zero, Nat.zero_add, show ((0 : Nat) : Int) = 0 from rfl, ← Nat.mul_assoc] at hr
      rw [hr]
      have pr := pairs_run F f (w : Int) (h : Int) (lay : Int) (fac : Int) (lev : Int) D hP (by omega) F 0 (by omega) (by omega)
      rw [List.drop_zero, show ((0 : Nat) : Int) = 0 from rfl] at pr
      by_cases d : D.length = lay * fac * lev
      · rw [decide_eq_true d, Bool.true_and, ← d]
        cases allB (okD D S lev) 0 D.length
        · rfl
        · rw [if_pos rfl, obd]
          dsimp only
          have e2 : (((D.length : Nat) : Int) != ((D.length : Nat) : Int)) = false := by simp
          rw [e2, cond_false, pr]
          cases P.any odd17 <;> rfl
      · rw [decide_eq_false d, Bool.false_and]
        cases hq : allB (okD D S lev) 0 (lay * fac * lev)
        · rfl
        · rw [if_pos rfl, obd]
          dsimp only
          rw [bneT (show ((lay * fac * lev : Nat) : Int) ≠ ((D.length : Nat) : Int) by omega)]
          rfl
    · rw [bneT s, decide_eq_false s, Bool.false_and]
      rfl
end Go.AE.Gn
set_option linter.unusedVariables false
set_option linter.unusedSimpArgs false
namespace Go.AE.Gn
open Go Go.AE
abbrev Tex17 := Int × (Int × (Int × (Int × (Int × (Int × (List (List Int) × (List (List Int × List Int) × Unit)))))))
theorem same_run (F : Nat) {a b : List Int} (hl : a.length = b.length) (hb : a.length ≤ 9223372036854775807) : ∀ (k i : Nat), i ≤ a.length → a.length - i < k →
    ref01_Same_l0 F k a b (i : Int) = if a.drop i = b.drop i then some (.inr ()) else some (.inl ())
  | 0, i, _, hk => by omega
  | k + 1, i, hi, hk => by
    unfold ref01_Same_l0 ref01_Same_l0S
    dsimp only
    by_cases c : i < a.length
    · rw [decide_eq_true (show (i : Int) < ((a.length : Nat) : Int) by omega), cond_true, decide_eq_true (show (0 : Int) ≤ (i : Int) by omega), Bool.and_self, cond_true, decide_eq_true (show (i : Int) < ((b.length : Nat) : Int) by omega), Bool.and_self, cond_true, Int.toNat_natCast, inc64 (by omega), same_run F hl hb k (i + 1) (by omega) (by omega)]
      rw [drop_cons 0 c, drop_cons 0 (show i < b.length by omega)]
      by_cases q : a.getD i 0 = b.getD i 0
      · have e : (a.getD i 0 != b.getD i 0) = false := by rw [q]; exact bne_self_eq_false _
        rw [e, cond_false]
        by_cases d : a.drop (i + 1) = b.drop (i + 1)
        · rw [if_pos d, if_pos (by rw [q, d])]
        · rw [if_neg d, if_neg (fun h => d (List.cons.inj h).2)]
      · rw [bneT q, cond_true, if_neg (fun h => q (List.cons.inj h).1)]
    · rw [decide_eq_false (show ¬ (i : Int) < ((a.length : Nat) : Int) by omega), cond_false, if_pos]
      rw [List.drop_eq_nil_of_le (by omega), List.drop_eq_nil_of_le (by omega)]
theorem rSame_is {F : Nat} {a b : List Int} (hF : a.length < F) (hb : a.length ≤ 9223372036854775807) : ref01_Same F a b = some (decide (a = b), ()) := by
  unfold ref01_Same
  by_cases c : a.length = b.length
  · have e : (((a.length : Nat) : Int) != ((b.length : Nat) : Int)) = false := by simp [c]
    have hr := same_run F c hb F 0 (by omega) (by omega)
    rw [show ((0 : Nat) : Int) = 0 from rfl, List.drop_zero, List.drop_zero] at hr
    rw [e, cond_false, hr]
    by_cases d : a = b
    · rw [if_pos d, decide_eq_true d]; rfl
    · rw [if_neg d, decide_eq_false d]; rfl
  · rw [bneT (show ((a.length : Nat) : Int) ≠ ((b.length : Nat) : Int) by omega), cond_true, decide_eq_false (fun q => c (by rw [q]))]
theorem beq_dec {α : Type} [DecidableEq α] (a b : α) : (a == b) = decide (a = b) := rfl
theorem pair_eq (p q : List Int × List Int) : ((p.1 == q.1) && (p.2 == q.2)) = decide (p = q) := by
  obtain ⟨a, b⟩ := p
  obtain ⟨c, d⟩ := q
  rw [Bool.eq_iff_iff, Bool.and_eq_true, beq_iff_eq, beq_iff_eq, decide_eq_true_eq, Prod.mk.injEq]
def sm17 (a b : Tex17) : Bool := decide (a.1 = b.1 ∧ a.2.1 = b.2.1 ∧ a.2.2.1 = b.2.2.1 ∧ a.2.2.2.1 = b.2.2.2.1 ∧ a.2.2.2.2.1 = b.2.2.2.2.1 ∧ a.2.2.2.2.2.1 = b.2.2.2.2.2.1 ∧ a.2.2.2.2.2.2.1 = b.2.2.2.2.2.2.1 ∧ a.2.2.2.2.2.2.2.1 = b.2.2.2.2.2.2.2.1)
theorem sm17_refl (a : Tex17) : sm17 a a = true := decide_eq_true ⟨rfl, rfl, rfl, rfl, rfl, rfl, rfl, rfl⟩
theorem rs0_run (F : Nat) (x0 x1 x2 x3 x4 x5 : Int) (x7 : List (List Int × List Int)) (x8 x9 x10 x11 x12 x13 : Int) (x15 : List (List Int × List Int)) {A B : List (List Int)} (hl : A.length = B.length) (hb : A.length < 4611686018427387904) (hA : ∀ x ∈ A, x.length < F ∧ x.length ≤ 9223372036854775807) : ∀ (k i : Nat), i ≤ A.length → A.length - i < k →
    ref17_Same_l0 F k x0 x1 x2 x3 x4 x5 A x7 x8 x9 x10 x11 x12 x13 B x15 (i : Int) = if A.drop i = B.drop i then some (.inr (x0, (x1, (x2, (x3, (x4, (x5, (A, (x7, (x8, (x9, (x10, (x11, (x12, (x13, (B, (x15, ()))))))))))))))))) else some (.inl ())
  | 0, i, _, hk => by omega
  | k + 1, i, hi, hk => by
    unfold ref17_Same_l0 ref17_Same_l0S
    dsimp only
    by_cases c : i < A.length
    · have hm := hA _ (getD_mem [] c)
      rw [decide_eq_true (show (i : Int) < ((A.length : Nat) : Int) by omega), cond_true, decide_eq_true (show (0 : Int) ≤ (i : Int) by omega), Bool.and_self, cond_true, decide_eq_true (show (i : Int) < ((B.length : Nat) : Int) by omega), Bool.and_self, cond_true, Int.toNat_natCast, inc64 (by omega), rSame_is hm.1 hm.2, obd, rs0_run F x0 x1 x2 x3 x4 x5 x7 x8 x9 x10 x11 x12 x13 x15 hl hb hA k (i + 1) (by omega) (by omega)]
      rw [drop_cons [] c, drop_cons [] (show i < B.length by omega)]
      dsimp only
      by_cases q : A.getD i [] = B.getD i []
      · rw [decide_eq_true q, Bool.not_true, cond_false]
        by_cases d : A.drop (i + 1) = B.drop (i + 1)
        · rw [if_pos d, if_pos (by rw [q, d])]
        · rw [if_neg d, if_neg (fun h => d (List.cons.inj h).2)]
      · rw [decide_eq_false q, Bool.not_false, cond_true, if_neg (fun h => q (List.cons.inj h).1)]
    · rw [decide_eq_false (show ¬ (i : Int) < ((A.length : Nat) : Int) by omega), cond_false, if_pos]
      rw [List.drop_eq_nil_of_le (by omega), List.drop_eq_nil_of_le (by omega)]
theorem rs2_run (F : Nat) (x0 x1 x2 x3 x4 x5 : Int) (x6 x14 : List (List Int)) (x8 x9 x10 x11 x12 x13 : Int) {A B : List (List Int × List Int)} (hl : A.length = B.length) (hb : A.length < 4611686018427387904) : ∀ (k i : Nat), i ≤ A.length → A.length - i < k →
    ref17_Same_l2 F k x0 x1 x2 x3 x4 x5 x6 A x8 x9 x10 x11 x12 x13 x14 B (i : Int) = if A.drop i = B.drop i then some (.inr ()) else some (.inl ())
  | 0, i, _, hk => by omega
  | k + 1, i, hi, hk => by
    unfold ref17_Same_l2 ref17_Same_l2S
    dsimp only
    by_cases c : i < A.length
    · rw [decide_eq_true (show (i : Int) < ((A.length : Nat) : Int) by omega), cond_true, decide_eq_true (show (0 : Int) ≤ (i : Int) by omega), Bool.and_self, cond_true, decide_eq_true (show (i : Int) < ((B.length : Nat) : Int) by omega), Bool.and_self, cond_true, Int.toNat_natCast, inc64 (by omega), rs2_run F x0 x1 x2 x3 x4 x5 x6 x14 x8 x9 x10 x11 x12 x13 hl hb k (i + 1) (by omega) (by omega)]
      rw [drop_cons ([], []) c, drop_cons ([], []) (show i < B.length by omega)]
      rw [pair_eq]
      by_cases q : A.getD i ([], []) = B.getD i ([], [])
      · rw [decide_eq_true q, Bool.not_true, cond_false]
        by_cases d : A.drop (i + 1) = B.drop (i + 1)
        · rw [if_pos d, if_pos (by rw [q, d])]
        · rw [if_neg d, if_neg (fun h => d (List.cons.inj h).2)]
      · rw [decide_eq_false q, Bool.not_false, cond_true, if_neg (fun h => q (List.cons.inj h).1)]
    · rw [decide_eq_false (show ¬ (i : Int) < ((A.length : Nat) : Int) by omega), cond_false, if_pos]
      rw [List.drop_eq_nil_of_le (by omega), List.drop_eq_nil_of_le (by omega)]
theorem rSame17_is {F : Nat} {a b : Tex17} (hD : a.2.2.2.2.2.2.1.length < F) (hP : a.2.2.2.2.2.2.2.1.length < F) (hD2 : a.2.2.2.2.2.2.1.length < 4611686018427387904) (hP2 : a.2.2.2.2.2.2.2.1.length < 4611686018427387904) (hA : ∀ x ∈ a.2.2.2.2.2.2.1, x.length < F ∧ x.length ≤ 9223372036854775807) :
    ref17_Same F a b = some (sm17 a b, ()) := by
  obtain ⟨a1, a2, a3, a4, a5, a6, D, P, _⟩ := a
  obtain ⟨b1, b2, b3, b4, b5, b6, D', P', _⟩ := b
  dsimp only at *
  unfold ref17_Same sm17
  dsimp only
  by_cases c1 : a1 = b1
  rotate_left
  · rw [bneT c1, cond_true, decide_eq_false (fun q => c1 q.1)]
  have ee : ∀ x y : Int, x = y → (x != y) = false := fun x y q => by simp [q]
  rw [ee _ _ c1, cond_false]
  by_cases c2 : a2 = b2
  rotate_left
  · rw [bneT c2, cond_true, decide_eq_false (fun q => c2 q.2.1)]
  rw [ee _ _ c2, cond_false]
  by_cases c3 : a3 = b3
  rotate_left
  · rw [bneT c3, cond_true, decide_eq_false (fun q => c3 q.2.2.1)]
  rw [ee _ _ c3, cond_false]
  by_cases c4 : a4 = b4
  rotate_left
  · rw [bneT c4, cond_true, decide_eq_false (fun q => c4 q.2.2.2.1)]
  rw [ee _ _ c4, cond_false]
  by_cases c5 : a5 = b5
  rotate_left
  · rw [bneT c5, cond_true, decide_eq_false (fun q => c5 q.2.2.2.2.1)]
  rw [ee _ _ c5, cond_false]
  by_cases c6 : a6 = b6
  rotate_left
  · rw [bneT c6, cond_true, decide_eq_false (fun q => c6 q.2.2.2.2.2.1)]
  rw [ee _ _ c6, cond_false]
  by_cases l1 : D.length = D'.length
  rotate_left
  · rw [bneT (show ((D.length : Nat) : Int) ≠ ((D'.length : Nat) : Int) by omega), cond_true, decide_eq_false (fun q => l1 (by rw [q.2.2.2.2.2.2.1]))]
  rw [ee _ _ (show ((D.length : Nat) : Int) = ((D'.length : Nat) : Int) by omega), cond_false]
  by_cases l2 : P.length = P'.length
  rotate_left
  · rw [bneT (show ((P.length : Nat) : Int) ≠ ((P'.length : Nat) : Int) by omega), cond_true, decide_eq_false (fun q => l2 (by rw [q.2.2.2.2.2.2.2]))]
  rw [ee _ _ (show ((P.length : Nat) : Int) = ((P'.length : Nat) : Int) by omega), cond_false]
  have h0 := rs0_run F a1 a2 a3 a4 a5 a6 P b1 b2 b3 b4 b5 b6 P' l1 hD2 hA F 0 (by omega) (by omega)
  have h2 := rs2_run F a1 a2 a3 a4 a5 a6 D D' b1 b2 b3 b4 b5 b6 l2 hP2 F 0 (by omega) (by omega)
  rw [show ((0 : Nat) : Int) = 0 from rfl, List.drop_zero, List.drop_zero] at h0 h2
  rw [h0]
  by_cases d : D = D'
  · rw [if_pos d, obd]
    dsimp only
    rw [h2]
    by_cases e : P = P'
    · rw [if_pos e, decide_eq_true ⟨c1, c2, c3, c4, c5, c6, d, e⟩]
      rfl
    · rw [if_neg e, decide_eq_false (fun q => e q.2.2.2.2.2.2.2)]
      rfl
  · rw [if_neg d, decide_eq_false (fun q => d q.2.2.2.2.2.2.1)]
    rfl
end Go.AE.Gn
set_option linter.unusedVariables false
set_option linter.unusedSimpArgs false
namespace Go.AE.Gn
open Go Go.AE
theorem ck17_ok {F : Nat} {f w h lay fac lev : Int} {D : List (List Int)} {P : List (List Int × List Int)} {sd la tx : Int} (e : ck17 F f w h lay fac lev D P sd la tx = 0) :
    hd17 f w h lay fac lev sd la tx = 0 ∧ data17 F f w.toNat h.toNat lay.toNat fac.toNat lev.toNat D = true ∧ P.any odd17 = false := by
  unfold ck17 at e
  by_cases c : hd17 f w h lay fac lev sd la tx = 0
  · rw [if_neg (fun q => q c)] at e
    refine ⟨c, ?_⟩
    cases d : data17 F f w.toNat h.toNat lay.toNat fac.toNat lev.toNat D
    · rw [d, cond_false] at e
      exact absurd e (by decide)
    · rw [d, cond_true] at e
      cases d2 : P.any odd17
      · exact ⟨rfl, rfl⟩
      · rw [d2, cond_true] at e
        exact absurd e (by decide)
  · rw [if_pos c] at e
    exact absurd e c
theorem ck17_of {F : Nat} {f w h lay fac lev : Int} {D : List (List Int)} {P : List (List Int × List Int)} {sd la tx : Int} (e1 : data17 F f w.toNat h.toNat lay.toNat fac.toNat lev.toNat D = true) (e2 : P.any odd17 = false) :
    ck17 F f w h lay fac lev D P sd la tx = hd17 f w h lay fac lev sd la tx := by
  unfold ck17
  rw [e1, e2]
  by_cases c : hd17 f w h lay fac lev sd la tx = 0
  · rw [if_neg (fun q => q c), c]
    rfl
  · rw [if_pos c]
end Go.AE.Gn
set_option linter.unusedVariables false
set_option linter.unusedSimpArgs false
namespace Go.AE.Gn
open Go Go.AE
theorem ofIntN {n : Nat} (h : n < 18446744073709551616) : (BitVec.ofInt 64 (n : Int)).toNat = n := by
  rw [BitVec.ofInt_natCast, BitVec.toNat_ofNat, Nat.mod_eq_of_lt (by omega)]
theorem wrapN {n : Nat} (h : n ≤ 9223372036854775807) : IntKind.wrap .i64 (n : Int) = (n : Int) := w64 (by omega) (by omega)
theorem iorN {x y : Nat} (hx : x < 4611686018427387904) (hy : y < 4611686018427387904) : ior .i64 (x : Int) (y : Int) = ((x ||| y : Nat) : Int) := by
  show IntKind.wrap .i64 (((BitVec.ofInt 64 (x : Int) ||| BitVec.ofInt 64 (y : Int)).toNat : Nat) : Int) = _
  rw [BitVec.toNat_or, ofIntN (by omega), ofIntN (by omega)]
  have := Nat.or_lt_two_pow (n := 62) hx hy
  rw [wrapN (by omega)]
theorem iandN {x y : Nat} (hx : x < 4611686018427387904) (hy : y < 4611686018427387904) : iand .i64 (x : Int) (y : Int) = ((x &&& y : Nat) : Int) := by
  show IntKind.wrap .i64 (((BitVec.ofInt 64 (x : Int) &&& BitVec.ofInt 64 (y : Int)).toNat : Nat) : Int) = _
  rw [BitVec.toNat_and, ofIntN (by omega), ofIntN (by omega)]
  have : x &&& y ≤ x := Nat.and_le_left
  rw [wrapN (by omega)]
theorem ishlN {x k : Nat} (hk : k ≤ 62) (h : x * 2 ^ k < 4611686018427387904) : ishl .i64 (x : Int) (k : Int) = ((x * 2 ^ k : Nat) : Int) := by
  show IntKind.wrap .i64 ((x : Int) * 2 ^ (min (k : Int).toNat 64)) = _
  rw [Int.toNat_natCast, Nat.min_eq_left (by omega)]
  have e : ((x : Int) * 2 ^ k) = ((x * 2 ^ k : Nat) : Int) := by rw [Int.natCast_mul, Int.natCast_pow]; rfl
  rw [e, wrapN (by omega)]
theorem ishrN {x k : Nat} (hk : k ≤ 62) : ishr .i64 (x : Int) (k : Int) = ((x / 2 ^ k : Nat) : Int) := by
  show Int.fdiv (x : Int) (2 ^ (min (k : Int).toNat 64)) = _
  rw [Int.toNat_natCast, Nat.min_eq_left (by omega)]
  have e : ((2 : Int) ^ k) = ((2 ^ k : Nat) : Int) := by rw [Int.natCast_pow]; rfl
  rw [e]
  exact (Int.ofNat_fdiv x (2 ^ k)).symm
theorem land_field (x b c : Nat) : x &&& ((2 ^ c - 1) * 2 ^ b) = (x / 2 ^ b % 2 ^ c) * 2 ^ b := by
  apply Nat.eq_of_testBit_eq
  intro i
  rw [← Nat.and_two_pow_sub_one_eq_mod, ← Nat.shiftRight_eq_div_pow, ← Nat.shiftLeft_eq, ← Nat.shiftLeft_eq]
  simp only [Nat.testBit_and, Nat.testBit_shiftLeft, Nat.testBit_shiftRight, Nat.testBit_two_pow_sub_one]
  by_cases h : i ≥ b
  · simp only [h, decide_true, Bool.true_and, show b + (i - b) = i by omega]
  · simp only [h, decide_false, Bool.false_and, Bool.and_false]
theorem or_add {a m y : Nat} (h : y < 2 ^ m) : (a * 2 ^ m) ||| y = a * 2 ^ m + y := by
  rw [Nat.mul_comm, Nat.two_pow_add_eq_or_of_lt h]
def gb (b : List Int) (i : Nat) : Nat := (b.getD i 0).toNat
theorem gb_is {b : List Int} (hb : Bytes b) (i : Nat) : b.getD i 0 = ((gb b i : Nat) : Int) ∧ gb b i < 256 := by
  have := hb.getD i
  unfold gb
  omega
def g4 (b : List Int) (p : Nat) : Bool → Nat
  | true => gb b p * 16777216 + gb b (p + 1) * 65536 + gb b (p + 2) * 256 + gb b (p + 3)
  | false => gb b p + gb b (p + 1) * 256 + gb b (p + 2) * 65536 + gb b (p + 3) * 16777216
theorem g4_f (b : List Int) (p : Nat) : g4 b p false = gb b p + gb b (p + 1) * 256 + gb b (p + 2) * 65536 + gb b (p + 3) * 16777216 := by unfold g4; rfl
theorem g4_t (b : List Int) (p : Nat) : g4 b p true = gb b p * 16777216 + gb b (p + 1) * 65536 + gb b (p + 2) * 256 + gb b (p + 3) := by unfold g4; rfl
theorem lt_f {x y z u : Nat} (h0 : x < 256) (h1 : y < 256) (h2 : z < 256) (h3 : u < 256) : x + y * 256 + z * 65536 + u * 16777216 < 4294967296 := by omega
theorem g4_lt {b : List Int} (hb : Bytes b) (p : Nat) (big : Bool) : g4 b p big < 4294967296 := by
  have h0 := (gb_is hb p).2
  have h1 := (gb_is hb (p + 1)).2
  have h2 := (gb_is hb (p + 2)).2
  have h3 := (gb_is hb (p + 3)).2
  cases big
  · rw [g4_f]
    exact lt_f h0 h1 h2 h3
  · rw [g4_t]
    have := lt_f h3 h2 h1 h0
    omega
theorem far_is (F : Nat) {i : Nat} (hi : i < 4) (big : Bool) : field_far F (i : Int) 4 big = some (((cond big (8 * (3 - i)) (8 * i) : Nat) : Int), ()) := by
  have : i = 0 ∨ i = 1 ∨ i = 2 ∨ i = 3 := by omega
  rcases this with rfl | rfl | rfl | rfl <;> cases big <;> rfl
theorem Get_step (F k : Nat) {b : List Int} (hb : Bytes b) {p : Nat} (hp : p + 4 ≤ b.length) (hl : b.length ≤ 1099511627776) (big : Bool) {n i : Nat} (hi : i < 4) (hn : n < 4294967296) {q s n' : Nat} (hq : p + i = q) (hsh : cond big (8 * (3 - i)) (8 * i) = s) (e0 : n ||| (gb b q * 2 ^ s) = n') :
    field_Get_l0 F (k + 1) b (p : Int) 4 big (n : Int) 4 (i : Int) = field_Get_l0 F k b (p : Int) 4 big (n' : Int) 4 ((i + 1 : Nat) : Int) := by
  subst hq hsh e0
  obtain ⟨g1, g2⟩ := gb_is hb (p + i)
  show field_Get_l0S F (field_Get_l0 F k) b (p : Int) 4 big (n : Int) 4 (i : Int) = _
  unfold field_Get_l0S
  rw [decide_eq_true (show (i : Int) < 4 by omega), cond_true]
  have e : (p : Int) + (i : Int) = ((p + i : Nat) : Int) := by omega
  dsimp only
  rw [e, wrapN (by omega), ltB (show p + i < b.length by omega), cond_true, far_is F hi, obd]
  dsimp only
  rw [decide_eq_true (show (0 : Int) ≤ ((cond big (8 * (3 - i)) (8 * i) : Nat) : Int) by omega), cond_true, Int.toNat_natCast, g1, inc64 (by omega)]
  have hs : (cond big (8 * (3 - i)) (8 * i)) ≤ 24 := by cases big <;> simp only [cond_true, cond_false] <;> omega
  have hp2 : (2 : Nat) ^ (cond big (8 * (3 - i)) (8 * i)) ≤ 2 ^ 24 := Nat.pow_le_pow_right (by omega) hs
  have hv : gb b (p + i) * 2 ^ (cond big (8 * (3 - i)) (8 * i)) ≤ 255 * 16777216 := Nat.mul_le_mul (by omega) hp2
  rw [ishlN (by omega) (by omega), iorN (by omega) (by omega)]
theorem Get_end (F k : Nat) (b : List Int) (p : Nat) (big : Bool) (n : Int) : field_Get_l0 F (k + 1) b (p : Int) 4 big n 4 ((3 + 1 : Nat) : Int) = some (n, ()) := by
  unfold field_Get_l0 field_Get_l0S
  rw [decide_eq_false (show ¬ ((3 + 1 : Nat) : Int) < 4 by decide), cond_false]
theorem rGet_end (F k : Nat) (b : List Int) (p : Nat) (big : Bool) (n : Int) : ref01_Get_l0 F (k + 1) b (p : Int) 4 big n ((3 + 1 : Nat) : Int) = some (n, ()) := by
  unfold ref01_Get_l0 ref01_Get_l0S
  rw [decide_eq_false (show ¬ ((3 + 1 : Nat) : Int) < 4 by decide), cond_false]
theorem chk18_is (F : Nat) {b : List Int} {p : Nat} (hp : p + 4 ≤ b.length) (hl : b.length ≤ 1099511627776) : field_check F b (p : Int) 4 = some (0, ()) := by
  unfold field_check field_room
  have e2 : ((b.length : Nat) : Int) - (p : Int) = ((b.length - p : Nat) : Int) := by omega
  rw [decide_eq_false (show ¬ (4 : Int) < 1 by decide), cond_false, decide_eq_false (show ¬ (4 : Int) < 4 by decide), cond_false, decide_eq_false (show ¬ (p : Int) < 0 by omega), cond_false]
  dsimp only
  rw [decide_eq_true (show (p : Int) ≤ ((b.length : Nat) : Int) by omega), cond_true, obd, e2, wrapN (by omega)]
  dsimp only
  rw [decide_eq_true (show (4 : Int) ≤ ((b.length - p : Nat) : Int) by omega)]
  rfl
theorem fGet_is {F : Nat} (hF : 10 ≤ F) {b : List Int} (hb : Bytes b) {p : Nat} (hp : p + 4 ≤ b.length) (hl : b.length ≤ 1099511627776) (big : Bool) :
    field_Get F b (p : Int) 4 big = some (((g4 b p big : Nat) : Int), (0, ())) := by
  unfold field_Get
  rw [chk18_is F hp hl, obd]
  dsimp only
  rw [bne_self_eq_false, cond_false]
  obtain ⟨k, hk⟩ : ∃ k, F = k + 1 + 1 + 1 + 1 + 1 := ⟨F - 5, by omega⟩
  have h0 := (gb_is hb p).2
  have h1 := (gb_is hb (p + 1)).2
  have h2 := (gb_is hb (p + 2)).2
  have h3 := (gb_is hb (p + 3)).2
  have key : field_Get_l0 F F b (p : Int) 4 big 0 4 0 = some (((g4 b p big : Nat) : Int), ()) := by
    rw [show field_Get_l0 F F = field_Get_l0 F (k + 1 + 1 + 1 + 1 + 1) by rw [← hk]]
    cases big
    · have s0 := Get_step F (k + 1 + 1 + 1 + 1) hb hp hl false (n := 0) (i := 0) (q := p) (s := 0) (n' := gb b p) (by omega) (by omega) (by omega) rfl (by simp)
      have s1 := Get_step F (k + 1 + 1 + 1) hb hp hl false (n := gb b p) (i := 1) (q := p + 1) (s := 8) (n' := gb b p + gb b (p + 1) * 256) (by omega) (by omega) rfl rfl (by rw [Nat.or_comm, or_add (by omega)]; omega)
      have s2 := Get_step F (k + 1 + 1) hb hp hl false (n := gb b p + gb b (p + 1) * 256) (i := 2) (q := p + 2) (s := 16) (n' := gb b p + gb b (p + 1) * 256 + gb b (p + 2) * 65536) (by omega) (by omega) rfl rfl (by rw [Nat.or_comm, or_add (by omega)]; omega)
      have s3 := Get_step F (k + 1) hb hp hl false (n := gb b p + gb b (p + 1) * 256 + gb b (p + 2) * 65536) (i := 3) (q := p + 3) (s := 24) (n' := g4 b p false) (by omega) (by omega) rfl rfl (by rw [Nat.or_comm, or_add (by omega), g4_f]; omega)
      exact s0.trans (s1.trans (s2.trans (s3.trans (Get_end F k b p false _))))
    · have s0 := Get_step F (k + 1 + 1 + 1 + 1) hb hp hl true (n := 0) (i := 0) (q := p) (s := 24) (n' := gb b p * 16777216) (by omega) (by omega) (by omega) rfl (by rw [Nat.zero_or])
      have s1 := Get_step F (k + 1 + 1 + 1) hb hp hl true (n := gb b p * 16777216) (i := 1) (q := p + 1) (s := 16) (n' := gb b p * 16777216 + gb b (p + 1) * 65536) (by omega) (by omega) rfl rfl (by
        rw [show gb b p * 16777216 = gb b p * 2 ^ 24 from rfl, or_add (by omega)])
      have s2 := Get_step F (k + 1 + 1) hb hp hl true (n := gb b p * 16777216 + gb b (p + 1) * 65536) (i := 2) (q := p + 2) (s := 8) (n' := gb b p * 16777216 + gb b (p + 1) * 65536 + gb b (p + 2) * 256) (by omega) (by omega) rfl rfl (by
        rw [show gb b p * 16777216 + gb b (p + 1) * 65536 = (gb b p * 256 + gb b (p + 1)) * 2 ^ 16 by omega, or_add (by omega)])
      have s3 := Get_step F (k + 1) hb hp hl true (n := gb b p * 16777216 + gb b (p + 1) * 65536 + gb b (p + 2) * 256) (i := 3) (q := p + 3) (s := 0) (n' := g4 b p true) (by omega) (by omega) rfl rfl (by
        rw [show gb b p * 16777216 + gb b (p + 1) * 65536 + gb b (p + 2) * 256 = (gb b p * 65536 + gb b (p + 1) * 256 + gb b (p + 2)) * 2 ^ 8 by omega, Nat.pow_zero, Nat.mul_one, or_add (by omega), g4_t]
        omega)
      exact s0.trans (s1.trans (s2.trans (s3.trans (Get_end F k b p true _))))
  rw [key]
  rfl
theorem rGet_step (F k : Nat) {b : List Int} (hb : Bytes b) {p : Nat} (hp : p + 4 ≤ b.length) (hl : b.length ≤ 1099511627776) (big : Bool) {n i : Nat} (hi : i < 4) (hn : n < 4294967296) {q n' : Nat} (hq : p + cond big i (3 - i) = q) (e0 : 256 * n + gb b q = n') :
    ref01_Get_l0 F (k + 1) b (p : Int) 4 big (n : Int) (i : Int) = ref01_Get_l0 F k b (p : Int) 4 big (n' : Int) ((i + 1 : Nat) : Int) := by
  subst hq e0
  obtain ⟨g1, g2⟩ := gb_is hb (p + cond big i (3 - i))
  show ref01_Get_l0S F (ref01_Get_l0 F k) b (p : Int) 4 big (n : Int) (i : Int) = _
  unfold ref01_Get_l0S
  rw [decide_eq_true (show (i : Int) < 4 by omega), cond_true]
  have em : (256 : Int) * (n : Int) = ((256 * n : Nat) : Int) := by omega
  have e1 : (p : Int) + 4 = ((p + 4 : Nat) : Int) := by omega
  have e2 : ((p + 4 : Nat) : Int) - 1 = ((p + 3 : Nat) : Int) := by omega
  have e3 : ((p + 3 : Nat) : Int) - (i : Int) = ((p + (3 - i) : Nat) : Int) := by omega
  have e4 : (p : Int) + (i : Int) = ((p + i : Nat) : Int) := by omega
  dsimp only
  rw [e1, wrapN (by omega), e2, wrapN (by omega), e3, wrapN (by omega), e4, wrapN (by omega), em, wrapN (by omega), inc64 (by omega)]
  cases big
  · simp only [cond_false] at g1 g2 ⊢
    rw [ltB (show p + (3 - i) < b.length by omega), cond_true, Int.toNat_natCast, g1]
    have e5 : ((256 * n : Nat) : Int) + ((gb b (p + (3 - i)) : Nat) : Int) = ((256 * n + gb b (p + (3 - i)) : Nat) : Int) := by omega
    rw [e5, wrapN (by omega)]
  · simp only [cond_true] at g1 g2 ⊢
    rw [ltB (show p + i < b.length by omega), cond_true, Int.toNat_natCast, g1]
    have e5 : ((256 * n : Nat) : Int) + ((gb b (p + i) : Nat) : Int) = ((256 * n + gb b (p + i) : Nat) : Int) := by omega
    rw [e5, wrapN (by omega)]
theorem rGet18_is {F : Nat} (hF : 10 ≤ F) {b : List Int} (hb : Bytes b) {p : Nat} (hp : p + 4 ≤ b.length) (hl : b.length ≤ 1099511627776) (big : Bool) :
    ref01_Get F b (p : Int) 4 big = some (((g4 b p big : Nat) : Int), (0, ())) := by
  unfold ref01_Get ref01_room
  have e2 : ((b.length : Nat) : Int) - (p : Int) = ((b.length - p : Nat) : Int) := by omega
  rw [decide_eq_false (show ¬ (4 : Int) < 1 by decide), cond_false, decide_eq_false (show ¬ (4 : Int) < 4 by decide), cond_false, decide_eq_false (show ¬ (p : Int) < 0 by omega), cond_false]
  dsimp only
  rw [decide_eq_true (show (p : Int) ≤ ((b.length : Nat) : Int) by omega), cond_true, obd, e2, wrapN (by omega)]
  dsimp only
  rw [decide_eq_true (show (4 : Int) ≤ ((b.length - p : Nat) : Int) by omega), Bool.not_true, cond_false]
  obtain ⟨k, hk⟩ : ∃ k, F = k + 1 + 1 + 1 + 1 + 1 := ⟨F - 5, by omega⟩
  have h0 := (gb_is hb p).2
  have h1 := (gb_is hb (p + 1)).2
  have h2 := (gb_is hb (p + 2)).2
  have h3 := (gb_is hb (p + 3)).2
  have key : ref01_Get_l0 F F b (p : Int) 4 big 0 0 = some (((g4 b p big : Nat) : Int), ()) := by
    rw [show ref01_Get_l0 F F = ref01_Get_l0 F (k + 1 + 1 + 1 + 1 + 1) by rw [← hk]]
    cases big
    · have s0 := rGet_step F (k + 1 + 1 + 1 + 1) hb hp hl false (n := 0) (i := 0) (q := p + 3) (n' := gb b (p + 3)) (by omega) (by omega) rfl (by omega)
      have s1 := rGet_step F (k + 1 + 1 + 1) hb hp hl false (n := gb b (p + 3)) (i := 1) (q := p + 2) (n' := 256 * gb b (p + 3) + gb b (p + 2)) (by omega) (by omega) rfl rfl
      have s2 := rGet_step F (k + 1 + 1) hb hp hl false (n := 256 * gb b (p + 3) + gb b (p + 2)) (i := 2) (q := p + 1) (n' := 65536 * gb b (p + 3) + 256 * gb b (p + 2) + gb b (p + 1)) (by omega) (by omega) rfl (by omega)
      have s3 := rGet_step F (k + 1) hb hp hl false (n := 65536 * gb b (p + 3) + 256 * gb b (p + 2) + gb b (p + 1)) (i := 3) (q := p) (n' := g4 b p false) (by omega) (by omega) rfl (by rw [g4_f]; omega)
      exact s0.trans (s1.trans (s2.trans (s3.trans (rGet_end F k b p false _))))
    · have s0 := rGet_step F (k + 1 + 1 + 1 + 1) hb hp hl true (n := 0) (i := 0) (q := p) (n' := gb b p) (by omega) (by omega) rfl (by omega)
      have s1 := rGet_step F (k + 1 + 1 + 1) hb hp hl true (n := gb b p) (i := 1) (q := p + 1) (n' := 256 * gb b p + gb b (p + 1)) (by omega) (by omega) rfl rfl
      have s2 := rGet_step F (k + 1 + 1) hb hp hl true (n := 256 * gb b p + gb b (p + 1)) (i := 2) (q := p + 2) (n' := 65536 * gb b p + 256 * gb b (p + 1) + gb b (p + 2)) (by omega) (by omega) rfl (by omega)
      have s3 := rGet_step F (k + 1) hb hp hl true (n := 65536 * gb b p + 256 * gb b (p + 1) + gb b (p + 2)) (i := 3) (q := p + 3) (n' := g4 b p true) (by omega) (by omega) rfl (by rw [g4_t]; omega)
      exact s0.trans (s1.trans (s2.trans (s3.trans (rGet_end F k b p true _))))
  rw [key]
  rfl
end Go.AE.Gn
set_option linter.unusedVariables false
set_option linter.unusedSimpArgs false
namespace Go.AE.Gn
open Go Go.AE
abbrev gI (b : List Int) (p : Nat) : Int := ((g4 b p false : Nat) : Int)
theorem c1_is {F : Nat} (hF : 10 ≤ F) {b : List Int} (hb : Bytes b) (hl : b.length ≤ 1099511627776) {i p : Nat} (hp : 4 * (i + 1) = p) (h : p + 4 ≤ b.length) : dds_header_c1 F (i : Int) b = some (gI b p, ()) := by
  subst hp
  unfold dds_header_c1 dds_at
  have e : (i : Int) + 1 = ((i + 1 : Nat) : Int) := by omega
  have e2 : (4 : Int) * ((i + 1 : Nat) : Int) = ((4 * (i + 1) : Nat) : Int) := by omega
  rw [obd]
  dsimp only
  rw [e, wrapN (by omega), e2, wrapN (by omega), fGet_is hF hb h hl, obd]
theorem get18_is {F : Nat} (hF : 10 ≤ F) {b : List Int} (hb : Bytes b) (hl : b.length ≤ 1099511627776) {p : Nat} (h : p + 4 ≤ b.length) : ref18_get F b (p : Int) = some (gI b p, ()) := by
  unfold ref18_get
  rw [rGet18_is hF hb h hl, obd]
theorem iand_bit {g k m : Nat} (hg : g < 4294967296) (hk : k ≤ 40) (hm : 2 ^ k = m) : iand .i64 (g : Int) (m : Int) = ((g / m % 2 * m : Nat) : Int) := by
  subst hm
  have h2 : (2 : Nat) ^ k ≤ 2 ^ 40 := Nat.pow_le_pow_right (by omega) hk
  have := land_field g k 1
  rw [iandN (by omega) (by omega), ← this]
  simp
theorem bit_ne {g k m : Nat} (hg : g < 4294967296) (hk : k ≤ 40) (hm : 2 ^ k = m) : (iand .i64 (g : Int) (m : Int) != 0) = decide (g / m % 2 = 1) := by
  rw [iand_bit hg hk hm]
  have h2 : 1 ≤ m := by rw [← hm]; exact Nat.one_le_two_pow
  rcases Nat.mod_two_eq_zero_or_one (g / m) with h | h <;> rw [h]
  · simp
  · simp; omega
theorem bit_eq {g k m : Nat} (hg : g < 4294967296) (hk : k ≤ 40) (hm : 2 ^ k = m) : (iand .i64 (g : Int) (m : Int) == 0) = !decide (g / m % 2 = 1) := by
  rw [← bit_ne hg hk hm, bne, Bool.not_not]
theorem bits6 {g : Nat} (hg : g < 4294967296) : (iand .i64 (g : Int) 64512 != 64512) = !decide (g / 1024 % 64 = 63) := by
  have := land_field g 10 6
  have e : iand .i64 (g : Int) 64512 = ((g / 1024 % 64 * 1024 : Nat) : Int) := by
    rw [show (64512 : Int) = ((64512 : Nat) : Int) from rfl, iandN (by omega) (by omega)]
    exact congrArg _ this
  rw [e, bne, beq_dec]
  congr 1
  apply decide_eq_decide.2
  omega
theorem wdiv {g m : Nat} (hg : g < 4294967296) : IntKind.wrap .i64 (Int.tdiv (g : Int) (m : Int)) = ((g / m : Nat) : Int) := by
  have : g / m ≤ g := Nat.div_le_self _ _
  exact wrapN (by omega)
theorem rbit1 {g m : Nat} (hg : g < 4294967296) : (Int.tmod (IntKind.wrap .i64 (Int.tdiv (g : Int) (m : Int))) 2 == 1) = decide (g / m % 2 = 1) := by
  rw [wdiv hg, beq_dec]
  apply decide_eq_decide.2
  rw [show (2 : Int) = ((2 : Nat) : Int) from rfl, tmodN]
  omega
theorem rbit0 {g m : Nat} (hg : g < 4294967296) : (Int.tmod (IntKind.wrap .i64 (Int.tdiv (g : Int) (m : Int))) 2 == 0) = !decide (g / m % 2 = 1) := by
  rw [wdiv hg, beq_dec, ← decide_not]
  apply decide_eq_decide.2
  rw [show (2 : Int) = ((2 : Nat) : Int) from rfl, tmodN]
  omega
theorem rbits6 {g : Nat} (hg : g < 4294967296) : (Int.tmod (IntKind.wrap .i64 (Int.tdiv (g : Int) 1024)) 64 != 63) = !decide (g / 1024 % 64 = 63) := by
  rw [show (1024 : Int) = ((1024 : Nat) : Int) from rfl, wdiv hg, bne, beq_dec]
  congr 1
  apply decide_eq_decide.2
  rw [show (64 : Int) = ((64 : Nat) : Int) from rfl, tmodN]
  omega
theorem rF_step (F k : Nat) (x : Int) (L : List Int) (i : Int) : ref13_Format_l0 F k x L i = ref13_Format_l0 600 k x L i := by
  induction k generalizing i with
  | zero => rfl
  | succ k ih =>
    show ref13_Format_l0S F (ref13_Format_l0 F k) x L i = ref13_Format_l0S 600 (ref13_Format_l0 600 k) x L i
    unfold ref13_Format_l0S
    simp only [ih]
theorem rF_more (k : Nat) (x : Int) (L : List Int) (i : Int) {r} (h : ref13_Format_l0 600 k x L i = some r) : ref13_Format_l0 600 (k + 1) x L i = some r := by
  induction k generalizing i with
  | zero => cases h
  | succ k ih =>
    have h' : ref13_Format_l0S 600 (ref13_Format_l0 600 k) x L i = some r := h
    show ref13_Format_l0S 600 (ref13_Format_l0 600 (k + 1)) x L i = some r
    unfold ref13_Format_l0S at h' ⊢
    revert h'
    dsimp only
    by_cases q : i < (L.length : Int)
    · rw [decide_eq_true q, cond_true, cond_true, Bool.and_true]
      by_cases q2 : (0 : Int) ≤ i
      · rw [decide_eq_true q2, cond_true, cond_true]
        cases (L.getD i.toNat 0 == x) with
        | false => exact ih _
        | true =>
          rw [cond_true, cond_true]
          cases (x != 0) with
          | true => exact id
          | false => exact ih _
      · rw [decide_eq_false q2]; exact id
    · rw [decide_eq_false q]; exact id
theorem rF_all {F : Nat} (hF : 600 ≤ F) (x : Int) (L : List Int) {r} (h : ref13_Format_l0 600 600 x L 1 = some r) : ref13_Format_l0 F F x L 1 = some r := by
  rw [rF_step]
  obtain ⟨d, rfl⟩ : ∃ d, F = 600 + d := ⟨F - 600, by omega⟩
  clear hF
  induction d with
  | zero => exact h
  | succ d ih => exact rF_more _ _ _ _ ih
theorem rFmt_is {F : Nat} (hF : 600 ≤ F) (x : Int) : ref13_Format F x 1 = formatF x 1 := by
  obtain ⟨r, e1, _⟩ := scan_is x 1 (.inl rfl)
  simp only [if_true] at e1
  rw [← (rFormat_is x 1).1]
  unfold ref13_Format
  have e : ∀ G, ref13_codes G 1 = some (ref13_codesT3702, ()) := fun G => rfl
  simp only [show ((1 : Int) != 1) = false from rfl, show ((1 : Int) == 2) = false from rfl, cond_false, e, obd]
  rw [e1, rF_all hF _ _ e1]
theorem formatF_le {x f : Int} (h : formatF x 1 = some (f, (0, ()))) : f ≤ 6 := by
  have e : formatF x 1 = orE 5 (formatL x 1) := rfl
  rw [e] at h
  cases hL : formatL x 1 with
  | none => rw [hL] at h; cases h
  | some v =>
    rw [hL] at h
    have hv : v = f := by injection h with h; injection h
    subst hv
    unfold formatL at hL
    obtain ⟨q, h1, h2⟩ := Option.map_eq_some_iff.1 hL
    have h3 := List.find?_some h1
    have h4 := List.mem_of_find?_eq_some h1
    have all : codesT.all (fun q => !(q.2.1 == 1) || decide (q.1 ≤ 6)) = true := by decide
    have h5 := List.all_eq_true.1 all q h4
    rw [Bool.and_eq_true] at h3
    rw [h3.1, Bool.not_true, Bool.false_or, decide_eq_true_iff] at h5
    rw [← h2]
    exact h5
theorem lettersF_le {s : List Int} {f : Int} (h : lettersF s = some (f, (0, ()))) : f ≤ 6 := by
  unfold lettersF at h
  cases hL : lettersL s with
  | none => rw [hL] at h; cases h
  | some v =>
    rw [hL] at h
    have hv : v = f := by injection h with h; injection h
    subst hv
    unfold lettersL at hL
    obtain ⟨q, h1, h2⟩ := Option.map_eq_some_iff.1 hL
    have h4 := List.mem_of_find?_eq_some h1
    have all : lettersT.all (fun q => decide (q.2 ≤ 6)) = true := by decide
    have h5 := List.all_eq_true.1 all q h4
    rw [decide_eq_true_iff] at h5
    rw [← h2]
    exact h5
end Go.AE.Gn
set_option linter.unusedVariables false
set_option linter.unusedSimpArgs false
namespace Go.AE.Gn
open Go Go.AE
def by4 (n k : Nat) : Int := ((n / 2 ^ (8 * k) % 256 : Nat) : Int)
def put4 (b : List Int) (p n : Nat) : List Int := (((b.set p (by4 n 0)).set (p + 1) (by4 n 1)).set (p + 2) (by4 n 2)).set (p + 3) (by4 n 3)
theorem put4_len (b : List Int) (p n : Nat) : (put4 b p n).length = b.length := by unfold put4; simp
theorem wu8N {n : Nat} (h : n ≤ 255) : IntKind.wrap .u8 (n : Int) = (n : Int) := wrap_id (has_iff.2 ⟨by show (0 : Int) ≤ _; omega, by show _ ≤ (255 : Int); omega⟩)
theorem low8 {n k : Nat} (hn : n < 2147483648) (hk : k < 4) : IntKind.wrap .u8 (iand .i64 (ishr .i64 (n : Int) ((8 * k : Nat) : Int)) 255) = by4 n k := by
  have h1 : n / 2 ^ (8 * k) ≤ n := Nat.div_le_self _ _
  rw [ishrN (by omega), show (255 : Int) = ((255 : Nat) : Int) from rfl, iandN (by omega) (by omega)]
  have := Nat.and_two_pow_sub_one_eq_mod (n / 2 ^ (8 * k)) 8
  rw [show (255 : Nat) = 2 ^ 8 - 1 from rfl, this, wu8N (by have := Nat.mod_lt (n / 2 ^ (8 * k)) (show 0 < 2 ^ 8 by decide); omega)]
  rfl
theorem Put_step (F k : Nat) {b : List Int} {p n : Nat} (hp : p + 4 ≤ b.length) (hl : b.length ≤ 1099511627776) (hn : n < 2147483648) {i q : Nat} (hi : i < 4) (hq : p + i = q) :
    field_Put_l1 F (k + 1) (p : Int) 4 false (n : Int) b 4 (i : Int) = field_Put_l1 F k (p : Int) 4 false (n : Int) (b.set q (by4 n i)) 4 ((i + 1 : Nat) : Int) := by
  subst hq
  show field_Put_l1S F (field_Put_l1 F k) (p : Int) 4 false (n : Int) b 4 (i : Int) = _
  unfold field_Put_l1S
  rw [decide_eq_true (show (i : Int) < 4 by omega), cond_true]
  have e : (p : Int) + (i : Int) = ((p + i : Nat) : Int) := by omega
  dsimp only
  rw [e, wrapN (by omega), far_is F hi, obd]
  dsimp only
  rw [cond_false, decide_eq_true (show (0 : Int) ≤ ((8 * i : Nat) : Int) by omega), cond_true, ltB (show p + i < b.length by omega), cond_true, Int.toNat_natCast, low8 hn hi, inc64 (by omega)]
theorem fPut_is {F : Nat} (hF : 10 ≤ F) {b : List Int} {p n : Nat} (hp : p + 4 ≤ b.length) (hl : b.length ≤ 1099511627776) (hn : n < 2147483648) :
    field_Put F b (p : Int) 4 false (n : Int) = some (put4 b p n, (0, ())) := by
  unfold field_Put
  rw [chk18_is F hp hl, obd]
  dsimp only
  have e32 : IntKind.wrap .i64 ((8 : Int) * 4) = ((32 : Nat) : Int) := w64 (by omega) (by omega)
  have z : n / 2 ^ 32 = 0 := Nat.div_eq_of_lt (by omega)
  rw [bne_self_eq_false, cond_false, decide_eq_false (show ¬ (n : Int) < 0 by omega), cond_false, e32, ishrN (by omega), z]
  rw [decide_eq_true (show (0 : Int) ≤ ((32 : Nat) : Int) by omega), cond_true, show (((0 : Nat) : Int) != 0) = false from rfl, cond_false]
  rw [decide_eq_true (show (0 : Int) ≤ ((b.length : Nat) : Int) by omega), decide_eq_true (show ((b.length : Nat) : Int) ≤ 1099511627776 by omega), decide_eq_true (show ((b.length : Nat) : Int) = ((b.length : Nat) : Int) from rfl)]
  simp only [Bool.and_self, cond_true, Int.toNat_natCast, Nat.min_self, List.take_zero, List.nil_append, Nat.zero_add, List.take_length]
  rw [List.drop_eq_nil_of_le (by simp), List.append_nil]
  obtain ⟨k, hk⟩ : ∃ k, F = k + 1 + 1 + 1 + 1 + 1 := ⟨F - 5, by omega⟩
  have key : field_Put_l1 F F (p : Int) 4 false (n : Int) b 4 0 = some (put4 b p n, ()) := by
    rw [show field_Put_l1 F F = field_Put_l1 F (k + 1 + 1 + 1 + 1 + 1) by rw [← hk]]
    have s0 := Put_step F (k + 1 + 1 + 1 + 1) (b := b) hp hl hn (i := 0) (q := p) (by omega) rfl
    have s1 := Put_step F (k + 1 + 1 + 1) (b := b.set p (by4 n 0)) (p := p) (by simp; omega) (by simp; omega) hn (i := 1) (q := p + 1) (by omega) rfl
    have s2 := Put_step F (k + 1 + 1) (b := (b.set p (by4 n 0)).set (p + 1) (by4 n 1)) (p := p) (by simp; omega) (by simp; omega) hn (i := 2) (q := p + 2) (by omega) rfl
    have s3 := Put_step F (k + 1) (b := ((b.set p (by4 n 0)).set (p + 1) (by4 n 1)).set (p + 2) (by4 n 2)) (p := p) (by simp; omega) (by simp; omega) hn (i := 3) (q := p + 3) (by omega) rfl
    refine s0.trans (s1.trans (s2.trans (s3.trans ?_)))
    unfold field_Put_l1 field_Put_l1S
    rw [decide_eq_false (show ¬ ((3 + 1 : Nat) : Int) < 4 by decide), cond_false]
    rfl
  rw [key]
  rfl
theorem rPut_step (F k : Nat) {b : List Int} {p n m m' : Nat} (hp : p + 4 ≤ b.length) (hl : b.length ≤ 1099511627776) (hm : m < 2147483648) {i q : Nat} (hi : i < 4) (hq : p + i = q) (e1 : m = n / 2 ^ (8 * i)) (e2 : m / 256 = m') :
    ref01_Put_l2 F (k + 1) (p : Int) 4 false (m : Int) b (i : Int) = ref01_Put_l2 F k (p : Int) 4 false (m' : Int) (b.set q (by4 n i)) ((i + 1 : Nat) : Int) := by
  subst hq e2
  show ref01_Put_l2S F (ref01_Put_l2 F k) (p : Int) 4 false (m : Int) b (i : Int) = _
  unfold ref01_Put_l2S
  rw [decide_eq_true (show (i : Int) < 4 by omega), cond_true]
  have e : (p : Int) + (i : Int) = ((p + i : Nat) : Int) := by omega
  have d : Int.tdiv (m : Int) 256 = ((m / 256 : Nat) : Int) := rfl
  have t : Int.tmod (m : Int) 256 = ((m % 256 : Nat) : Int) := rfl
  have dl : m / 256 ≤ m := Nat.div_le_self _ _
  have v : by4 n i = ((m % 256 : Nat) : Int) := by unfold by4; rw [e1]
  dsimp only
  rw [e, wrapN (by omega), cond_false, ltB (show p + i < b.length by omega), cond_true, Int.toNat_natCast, d, wrapN (by omega), t, wu8N (by omega), v, inc64 (by omega)]
theorem rPut_is {F : Nat} (hF : 10 ≤ F) {b : List Int} (hb : Bytes b) {p n : Nat} (hp : p + 4 ≤ b.length) (hl : b.length ≤ 1099511627776) (hn : n < 2147483648) :
    ref01_Put F b (p : Int) 4 false (n : Int) = some (put4 b p n, (0, ())) := by
  unfold ref01_Put
  rw [rGet18_is hF hb hp hl, obd]
  dsimp only
  rw [bne_self_eq_false, cond_false]
  obtain ⟨k, hk⟩ : ∃ k, F = k + 1 + 1 + 1 + 1 + 1 := ⟨F - 5, by omega⟩
  have st : ∀ (j i x y : Nat), i < 4 → x * 256 = y → y ≤ 4294967296 → ref01_Put_l0 F (j + 1) b (p : Int) 4 false (n : Int) (x : Int) (i : Int) = ref01_Put_l0 F j b (p : Int) 4 false (n : Int) (y : Int) ((i + 1 : Nat) : Int) := by
    intro j i x y hi hxy hy
    subst hxy
    show ref01_Put_l0S F (ref01_Put_l0 F j) b (p : Int) 4 false (n : Int) (x : Int) (i : Int) = _
    unfold ref01_Put_l0S
    have e : (x : Int) * 256 = ((x * 256 : Nat) : Int) := by omega
    rw [decide_eq_true (show (i : Int) < 4 by omega), cond_true, e, wrapN (by omega), inc64 (by omega)]
  have L0 : ref01_Put_l0 F F b (p : Int) 4 false (n : Int) 1 0 = some (b, ((p : Int), (4, (false, ((n : Int), (((4294967296 : Nat) : Int), ())))))) := by
    rw [show ref01_Put_l0 F F = ref01_Put_l0 F (k + 1 + 1 + 1 + 1 + 1) by rw [← hk]]
    have s0 := st (k + 1 + 1 + 1 + 1) 0 1 256 (by omega) rfl (by omega)
    have s1 := st (k + 1 + 1 + 1) 1 256 65536 (by omega) rfl (by omega)
    have s2 := st (k + 1 + 1) 2 65536 16777216 (by omega) rfl (by omega)
    have s3 := st (k + 1) 3 16777216 4294967296 (by omega) rfl (by omega)
    refine s0.trans (s1.trans (s2.trans (s3.trans ?_)))
    unfold ref01_Put_l0 ref01_Put_l0S
    rw [decide_eq_false (show ¬ ((3 + 1 : Nat) : Int) < 4 by decide), cond_false]
  rw [L0, obd]
  dsimp only
  rw [decide_eq_false (show ¬ (n : Int) < 0 by omega), cond_false, decide_eq_false (show ¬ ((4294967296 : Nat) : Int) ≤ (n : Int) by omega), cond_false, decide_eq_true (show 0 + b.length ≤ 1099511627776 by omega), Bool.true_and, cond_true, List.nil_append]
  have key : ref01_Put_l2 F F (p : Int) 4 false (n : Int) b 0 = some (put4 b p n, ()) := by
    rw [show ref01_Put_l2 F F = ref01_Put_l2 F (k + 1 + 1 + 1 + 1 + 1) by rw [← hk]]
    have d1 : n / 256 ≤ n := Nat.div_le_self _ _
    have d2 : n / 65536 ≤ n := Nat.div_le_self _ _
    have d3 : n / 16777216 ≤ n := Nat.div_le_self _ _
    have s0 := rPut_step F (k + 1 + 1 + 1 + 1) (b := b) (n := n) (m := n) (m' := n / 256) hp hl hn (i := 0) (q := p) (by omega) rfl (by simp) rfl
    have s1 := rPut_step F (k + 1 + 1 + 1) (b := b.set p (by4 n 0)) (p := p) (n := n) (m := n / 256) (m' := n / 65536) (by simp; omega) (by simp; omega) (by omega) (i := 1) (q := p + 1) (by omega) rfl rfl (by rw [Nat.div_div_eq_div_mul])
    have s2 := rPut_step F (k + 1 + 1) (b := (b.set p (by4 n 0)).set (p + 1) (by4 n 1)) (p := p) (n := n) (m := n / 65536) (m' := n / 16777216) (by simp; omega) (by simp; omega) (by omega) (i := 2) (q := p + 2) (by omega) rfl rfl (by rw [Nat.div_div_eq_div_mul])
    have s3 := rPut_step F (k + 1) (b := ((b.set p (by4 n 0)).set (p + 1) (by4 n 1)).set (p + 2) (by4 n 2)) (p := p) (n := n) (m := n / 16777216) (m' := n / 4294967296) (by simp; omega) (by simp; omega) (by omega) (i := 3) (q := p + 3) (by omega) rfl rfl (by rw [Nat.div_div_eq_div_mul])
    refine s0.trans (s1.trans (s2.trans (s3.trans ?_)))
    unfold ref01_Put_l2 ref01_Put_l2S
    rw [decide_eq_false (show ¬ ((3 + 1 : Nat) : Int) < 4 by decide), cond_false]
    rfl
  rw [key]
  rfl
theorem wc1_is {F : Nat} (hF : 10 ≤ F) {b : List Int} {i p n : Nat} (hq : 4 * (i + 1) = p) (hp : p + 4 ≤ b.length) (hl : b.length ≤ 1099511627776) (hn : n < 2147483648) : dds_Write_c1 F (i : Int) (n : Int) b = some (put4 b p n, ()) := by
  subst hq
  unfold dds_Write_c1 dds_at
  have e : (i : Int) + 1 = ((i + 1 : Nat) : Int) := by omega
  have e2 : (4 : Int) * ((i + 1 : Nat) : Int) = ((4 * (i + 1) : Nat) : Int) := by omega
  rw [obd]
  dsimp only
  rw [e, wrapN (by omega), e2, wrapN (by omega), fPut_is hF hp hl hn, obd]
theorem put18_is {F : Nat} (hF : 10 ≤ F) {b : List Int} (hb : Bytes b) {p n : Nat} (hp : p + 4 ≤ b.length) (hl : b.length ≤ 1099511627776) (hn : n < 2147483648) : ref18_put F b (p : Int) (n : Int) = some (put4 b p n, ()) := by
  unfold ref18_put
  rw [rPut_is hF hb hp hl hn, obd]
theorem put4_bytes {b : List Int} (hb : Bytes b) (p n : Nat) : Bytes (put4 b p n) := by
  have v : ∀ k, 0 ≤ by4 n k ∧ by4 n k ≤ 255 := fun k => by unfold by4; omega
  have one : ∀ {b : List Int} (q : Nat) (k : Nat), Bytes b → Bytes (b.set q (by4 n k)) := by
    intro b q k hb x hx
    rcases List.mem_or_eq_of_mem_set hx with h | h
    · exact hb x h
    · rw [h]; exact v k
  exact one _ _ (one _ _ (one _ _ (one _ _ hb)))
end Go.AE.Gn
set_option linter.unusedVariables false
set_option linter.unusedSimpArgs false
namespace Go.AE.Gn
open Go Go.AE
def b4 (n : Nat) : List Int := [by4 n 0, by4 n 1, by4 n 2, by4 n 3]
abbrev z4 : List Int := [0, 0, 0, 0]
def hdr18 (h w s0 lev caps caps2 code misc lay : Nat) : List Int :=
  [68, 68, 83, 32] ++ b4 124 ++ b4 659463 ++ b4 h ++ b4 w ++ b4 s0 ++ z4 ++ b4 lev ++ (z4 ++ z4 ++ z4 ++ z4 ++ z4 ++ z4 ++ z4 ++ z4 ++ z4 ++ z4 ++ z4) ++ b4 32 ++ b4 4 ++ [68, 88, 49, 48] ++ (z4 ++ z4 ++ z4 ++ z4 ++ z4) ++ b4 caps ++ b4 caps2 ++
    (z4 ++ z4 ++ z4) ++ b4 code ++ b4 3 ++ b4 misc ++ b4 lay ++ z4
theorem hdr18_len (h w s0 lev caps caps2 code misc lay : Nat) : (hdr18 h w s0 lev caps caps2 code misc lay).length = 148 := by kernel_rfl
def putZ : List Int → List (Nat × Nat) → List Int
  | b, [] => b
  | b, q :: r => putZ (put4 b q.1 q.2) r
theorem putZ_len : ∀ (l : List (Nat × Nat)) (b : List Int), (putZ b l).length = b.length
  | [], b => rfl
  | q :: r, b => by unfold putZ; rw [putZ_len r, put4_len]
def splice (b : List Int) : List Int := b.take 84 ++ [68, 88, 49, 48] ++ b.drop 88
def cubeD (c : Bool) : List (Nat × Nat) := cond c [(112, 65024), (136, 4)] []
theorem dds_head (h w s0 lev caps code lay : Nat) (c : Bool) : putZ (splice (putZ dds_WriteT274 [(4, 124), (8, 659463), (12, h), (16, w), (20, s0), (28, lev), (76, 32), (80, 4)])) ((108, caps) :: (cubeD c ++ [(128, code), (132, 3), (140, lay)])) = hdr18 h w s0 lev caps (cond c 65024 0) code (cond c 4 0) lay := by
  cases c <;> kernel_rfl
theorem ref_head (h w s0 lev caps caps2 code misc lay : Nat) : ((((putZ dds_WriteT274 [(4, 124), (8, 659463), (12, h), (16, w), (20, s0), (28, lev), (76, 32), (80, 4), (108, caps), (112, caps2), (128, code), (132, 3), (136, misc), (140, lay)]).set 84 68).set 85 88).set 86 49).set 87 48 = hdr18 h w s0 lev caps caps2 code misc lay := by
  kernel_rfl
theorem wc1_I {F : Nat} (hF : 10 ≤ F) {b : List Int} (hb : b.length = 148) {I N : Int} (i n p : Nat) (hI : I = (i : Int)) (hN : N = (n : Int)) (hq : 4 * (i + 1) = p) (hp : p ≤ 144) (hn : n < 2147483648) : dds_Write_c1 F I N b = some (put4 b p n, ()) := by
  rw [hI, hN, wc1_is hF hq (by omega) (by omega) hn]
theorem mapD (l : List Nat) (i : Nat) : (l.map fun n : Nat => (n : Int)).getD i 0 = ((l.getD i 0 : Nat) : Int) := by
  rw [List.getD_eq_getElem?_getD, List.getD_eq_getElem?_getD, List.getElem?_map]
  cases l[i]? <;> rfl
theorem wl0_run {F : Nat} (hF : 10 ≤ F) (x0 x1 x2 x3 x4 x5 : Int) (x6 : List (List Int)) (x7 : List (List Int × List Int)) {A V : List Nat} (hAV : A.length = V.length) (hA : ∀ p ∈ A, p ≤ 144) (hV : ∀ n ∈ V, n < 2147483648) (hs : A.length ≤ 1000) : ∀ (m i k : Nat) {b : List Int}, Bytes b → b.length = 148 → i + m = A.length → m < k →
    ref18_Write_l0 F k x0 x1 x2 x3 x4 x5 x6 x7 b (A.map fun n : Nat => (n : Int)) (V.map fun n : Nat => (n : Int)) (i : Int) = some (x0, (x1, (x2, (x3, (x4, (x5, (x6, (x7, (putZ b ((A.zip V).drop i), ())))))))))
  | m, i, 0, b, _, _, _, hk => by omega
  | 0, i, k + 1, b, hb, hl, hm, hk => by
    unfold ref18_Write_l0 ref18_Write_l0S
    dsimp only
    rw [List.length_map, decide_eq_false (show ¬ (i : Int) < ((A.length : Nat) : Int) by omega), cond_false, List.drop_eq_nil_of_le (by rw [List.length_zip]; omega)]
    rfl
  | m + 1, i, k + 1, b, hb, hl, hm, hk => by
    unfold ref18_Write_l0 ref18_Write_l0S
    dsimp only
    have q : i < A.length := by omega
    have q2 : i < V.length := by omega
    have ez : (A.zip V).drop i = (A.getD i 0, V.getD i 0) :: (A.zip V).drop (i + 1) := by
      have hz : i < (A.zip V).length := by rw [List.length_zip]; omega
      rw [List.drop_eq_getElem_cons hz, List.getElem_zip]
      simp [List.getD_eq_getElem?_getD, q, q2]
    have p1 := hA _ (getD_mem 0 q)
    have p2 := hV _ (getD_mem 0 q2)
    rw [List.length_map, List.length_map, decide_eq_true (show (i : Int) < ((A.length : Nat) : Int) by omega), cond_true, decide_eq_true (show (0 : Int) ≤ (i : Int) by omega), Bool.true_and, cond_true, decide_eq_true (show (i : Int) < ((V.length : Nat) : Int) by omega), Bool.true_and, cond_true, Int.toNat_natCast, mapD, mapD, put18_is hF hb (by omega) (by omega) p2, obd, inc64 (by omega), ez]
    exact wl0_run hF x0 x1 x2 x3 x4 x5 x6 x7 hAV hA hV hs m (i + 1) k (put4_bytes hb _ _) (by rw [put4_len]; exact hl) (by omega) (by omega)
theorem wl2_step (F k : Nat) (x0 x1 x2 x3 x4 x5 : Int) (x6 : List (List Int)) (x7 : List (List Int × List Int)) {b : List Int} (hb : b.length = 148) {i p : Nat} {v : Int} (hi : i < 4) (hp : 84 + i = p) (hv : [(68 : Int), 88, 49, 48].getD i 0 = v) :
    ref18_Write_l2 F (k + 1) x0 x1 x2 x3 x4 x5 x6 x7 b (i : Int) = ref18_Write_l2 F k x0 x1 x2 x3 x4 x5 x6 x7 (b.set p v) ((i + 1 : Nat) : Int) := by
  subst hp hv
  show ref18_Write_l2S F (ref18_Write_l2 F k) x0 x1 x2 x3 x4 x5 x6 x7 b (i : Int) = _
  unfold ref18_Write_l2S
  have e : (84 : Int) + (i : Int) = ((84 + i : Nat) : Int) := by omega
  dsimp only
  rw [decide_eq_true (show (i : Int) < 4 by omega), cond_true, e, wrapN (by omega), decide_eq_true (show (0 : Int) ≤ (i : Int) by omega), Bool.true_and, cond_true, ltB (show 84 + i < b.length by omega), cond_true, Int.toNat_natCast, Int.toNat_natCast, inc64 (by omega)]
theorem wl2_run {F : Nat} (hF : 10 ≤ F) (x0 x1 x2 x3 x4 x5 : Int) (x6 : List (List Int)) (x7 : List (List Int × List Int)) {b : List Int} (hb : b.length = 148) :
    ref18_Write_l2 F F x0 x1 x2 x3 x4 x5 x6 x7 b 0 = some (x0, (x1, (x2, (x3, (x4, (x5, (x6, (x7, ((((b.set 84 68).set 85 88).set 86 49).set 87 48, ()))))))))) := by
  obtain ⟨k, hk⟩ : ∃ k, F = k + 1 + 1 + 1 + 1 + 1 := ⟨F - 5, by omega⟩
  rw [show ref18_Write_l2 F F = ref18_Write_l2 F (k + 1 + 1 + 1 + 1 + 1) by rw [← hk]]
  have s0 := wl2_step F (k + 1 + 1 + 1 + 1) x0 x1 x2 x3 x4 x5 x6 x7 hb (i := 0) (p := 84) (v := 68) (by omega) rfl rfl
  have s1 := wl2_step F (k + 1 + 1 + 1) x0 x1 x2 x3 x4 x5 x6 x7 (b := b.set 84 68) (by simp [hb]) (i := 1) (p := 85) (v := 88) (by omega) rfl rfl
  have s2 := wl2_step F (k + 1 + 1) x0 x1 x2 x3 x4 x5 x6 x7 (b := (b.set 84 68).set 85 88) (by simp [hb]) (i := 2) (p := 86) (v := 49) (by omega) rfl rfl
  have s3 := wl2_step F (k + 1) x0 x1 x2 x3 x4 x5 x6 x7 (b := ((b.set 84 68).set 85 88).set 86 49) (by simp [hb]) (i := 3) (p := 87) (v := 48) (by omega) rfl rfl
  refine s0.trans (s1.trans (s2.trans (s3.trans ?_)))
  unfold ref18_Write_l2 ref18_Write_l2S
  rw [decide_eq_false (show ¬ ((3 + 1 : Nat) : Int) < 4 by decide), cond_false]
theorem wl4_run (F : Nat) (x0 x1 x2 x3 x4 x5 : Int) {D : List (List Int)} (x7 : List (List Int × List Int)) (hD : D.length < 4611686018427387904) : ∀ (k i : Nat) {b : List Int}, i ≤ D.length → D.length - i < k → b.length + (D.drop i).flatten.length ≤ 1099511627776 →
    ref18_Write_l4 F k x0 x1 x2 x3 x4 x5 D x7 b (i : Int) = some (b ++ (D.drop i).flatten, ())
  | 0, i, b, _, hk, _ => by omega
  | k + 1, i, b, hi, hk, ht => by
    unfold ref18_Write_l4 ref18_Write_l4S
    dsimp only
    by_cases q : i < D.length
    · rw [drop_cons [] q] at ht ⊢
      rw [List.flatten_cons, List.length_append] at ht
      rw [decide_eq_true (show (i : Int) < ((D.length : Nat) : Int) by omega), cond_true, decide_eq_true (show (0 : Int) ≤ (i : Int) by omega), Bool.true_and, cond_true, Int.toNat_natCast, decide_eq_true (show b.length + (D.getD i []).length ≤ 1099511627776 by omega), Bool.true_and, cond_true, inc64 (by omega), wl4_run F x0 x1 x2 x3 x4 x5 x7 hD k (i + 1) (by omega) (by omega) (by rw [List.length_append]; omega), List.flatten_cons, List.append_assoc]
    · rw [decide_eq_false (show ¬ (i : Int) < ((D.length : Nat) : Int) by omega), cond_false, List.drop_eq_nil_of_le (by omega), List.flatten_nil, List.append_nil]
end Go.AE.Gn

/- A part of the proof, put together of my texts: C09defs, C11defs, A12defs, E13defs, E13zdefs, E14defs. -/
import Derived.Test.YtaogfbhifeobmaaGreatRowFlatTellsP3
set_option linter.unusedSimpArgs false
set_option linter.unusedVariables false
open Go.IntKind renaming wrap → y0
open List renaming getD → y7, length → ya, set → yy, take → y8, drop → y9, replicate → yz
open Int renaming toNat → y6, tdiv → yx, tmod → yw
namespace Go.AE.Gn
open Go Go.AE
def q09:LI:=[0,0,0,0,0,0,0,0,0,0,0,0,0,0,0,0]
def q3m(F:Nat)(a0:Int)(a1:Int)(a2:LI)(a3:Int)(a4:Bool):Option (LI×Int×Bool×Unit):=
 (q89 F a2 a3 a1 (y0 .u64 a0)).bind fun r148=>
 cond a4
  (let b150:Bool:=(r148.2.1==0)
  cond b150
   (some (r148.1,(y0 .i64 (a3+a1)),b150,()))
   (some (a2,a3,b150,())))
  (some (a2,a3,false,()))
def qe1(F:Nat)(rec:LI→LI→LI→LI→Bool→Int→Int→Option (LI×LI×LI×Bool×Int×Unit))(x0:LI)(x1:LI)(x2:LI)(x3:LI)(x4:Bool)(x5:Int)(x6:Int):Option (LI×LI×LI×Bool×Int×Unit):=
 cond (decide (x6<4))
  (let b236:Bool:=((decide (0≤x6))&&(decide (x6<4)))
  cond b236
   ((q3m F (y7 x0 (y6 x6) 0) 7 x3 x5 x4).bind fun r239=>
   cond b236
    ((q3m F (y7 x0 (4+(y6 x6)) 0) 7 r239.1 r239.2.1 r239.2.2.1).bind fun r242=>
    rec x0 x1 x2 r242.1 r242.2.2.1 r242.2.1 (y0 .i64 (x6+1)))
     none)
    none)
  (some (x1,x2,x3,x4,x5,()))
def q56(F:Nat):Nat→LI→LI→LI→LI→Bool→Int→Int→Option (LI×LI×LI×Bool×Int×Unit)
 |0,_,_,_,_,_,_,_=>none
 |k+1,x0,x1,x2,x3,x4,x5,x6=>qe1 F (q56 F k) x0 x1 x2 x3 x4 x5 x6
def qe2(F:Nat)(rec:LI→Bool→Int→LI→Int→Option (LI×Bool×Unit))(x0:LI)(x1:Bool)(x2:Int)(x3:LI)(x4:Int):Option (LI×Bool×Unit):=
 cond (decide (x4<16))
  (cond ((decide (0≤x4))&&(decide (x4<16)))
   (let v271:Int:=(y0 .i64 (x4+1))
   cond (!(v271==0))
    ((q3m F (y7 x3 (y6 x4) 0) (y0 .i64 (4-(y0 .i64 (yx 1 v271)))) x0 x2 x1).bind fun r275=>
    rec r275.1 r275.2.2.1 r275.2.1 x3 v271)
     none)
    none)
  (some (x0,x1,()))
def q57(F:Nat):Nat→LI→Bool→Int→LI→Int→Option (LI×Bool×Unit)
 |0,_,_,_,_,_=>none
 |k+1,x0,x1,x2,x3,x4=>qe2 F (q57 F k) x0 x1 x2 x3 x4
def qfs(F:Nat)(a0:LI)(a1:LI)(a2:LI):Option (LI×Int×Unit):=
 (q89 F q09 6 1 1).bind fun r214=>
 (q56 F F a0 a1 a2 r214.1 true 7 0).bind fun r245=>
 (q3m F (y7 r245.1 0 0) 1 r245.2.2.1 r245.2.2.2.2.1 r245.2.2.2.1).bind fun r248=>
 (q3m F (y7 r245.1 1 0) 1 r248.1 r248.2.1 r248.2.2.1).bind fun r251=>
 (q57 F F r251.1 r251.2.2.1 r251.2.1 r245.2.1 0).bind fun r277=>
 cond (!r277.2.1)
  (some ([],1,()))
  (some (r277.1,0,()))
def q03:LI:=[0,0,0,0,0,0,0,0,0,0,0,0,0,0,0,0,0,0,0,0,0,0,0,0,0,0,0,0,0,0,0,0,0,0,0,0,0,0,0,0,0,0,0,0,0,0,0,0,0,0,0,0,0,0,0,0,0,0,0,0,0,0,0,0]
def math_bits_TrailingZeros8T292:LI:=[8,0,1,0,2,0,1,0,3,0,1,0,2,0,1,0,4,0,1,0,2,0,1,0,3,0,1,0,2,0,1,0,5,0,1,0,2,0,1,0,3,0,1,0,2,0,1,0,4,0,1,0,2,0,1,0,3,0,1,0,2,0,1,0,6,0,1,0,2,0,1,0,3,0,1,0,2,0,1,0,4,0,1,0,2,0,1,0,3,0,1,0,2,0,1,0,5,0,1,0,2,0,1,0,3,0,1,0,2,0,1,0,4,0,1,0,2,0,1,0,3,0,1,0,2,0,1,0,7,0,1,0,2,0,1,0,3,0,1,0,2,0,1,0,4,0,1,0,2,0,1,0,3,0,1,0,2,0,1,0,5,0,1,0,2,0,1,0,3,0,1,0,2,0,1,0,4,0,1,0,2,0,1,0,3,0,1,0,2,0,1,0,6,0,1,0,2,0,1,0,3,0,1,0,2,0,1,0,4,0,1,0,2,0,1,0,3,0,1,0,2,0,1,0,5,0,1,0,2,0,1,0,3,0,1,0,2,0,1,0,4,0,1,0,2,0,1,0,3,0,1,0,2,0,1,0]
def q4j(F:Nat)(a0:Int):Option (Int×Unit):=
 cond ((decide (0≤a0))&&(decide (a0<256)))
  (some ((y7 math_bits_TrailingZeros8T292 (y6 a0) 0),()))
   none
def qn9(F:Nat)(a0:LI):Option (Int×Unit):=
 cond ((((ya a0):Nat):Int) !=16)
  (some (8,()))
  (cond (decide (0<(((ya a0):Nat):Int)))
   ((q4j F (y7 a0 0 0)).bind fun r294=>
   some (r294.1,()))
    none)
def bctable_ModesT298:LI:=[3,4,0,0,4,0,1,0,3,0,2,6,0,0,6,0,0,1,3,0,3,6,0,0,5,0,0,0,2,0,2,6,0,0,7,0,1,0,2,0,1,0,2,1,5,6,0,0,2,3,1,0,2,0,7,8,0,0,2,2,1,0,0,0,7,7,1,0,4,0,2,6,0,0,5,5,1,0,2,0]
def qs9(F:Nat):Option (LI×Unit):=
 some (bctable_ModesT298,())
def q16(F:Nat)(a0:Int)(a1:LI)(a2:Int):Option (Int×Int×Unit):=
 (z0j F a1 a2 a0).bind fun r381=>
 some ((y0 .i64 r381.1),(y0 .i64 (a2+a0)),())
def q8b(F:Nat)(a0:(Int×Int×Int×Int×Int×Int×Int×Int×Int×Int×Unit))(a1:Int):Option (Int×Unit):=
 cond (a1==3)
  (some (a0.2.2.2.2.2.1,()))
  (some (a0.2.2.2.2.1,()))
def q1k(F:Nat)(rec:LI→Int→Int→Int→Int→Int→Int→Int→Int→Int→Int→Int→Int→Int→LI→LI→LI→Int→Int→Int→Int→Int→Int→LI→Int→Option (LI×Int×Int×Int×Int×Int×Int×Int×Int×Int×Int×Int×Int×Int×LI×LI×LI×Int×Int×Int×Int×Int×Int×Unit))(x0:LI)(x1:Int)(x2:Int)(x3:Int)(x4:Int)(x5:Int)(x6:Int)(x7:Int)(x8:Int)(x9:Int)(x10:Int)(x11:Int)(x12:Int)(x13:Int)(x14:LI)(x15:LI)(x16:LI)(x17:Int)(x18:Int)(x19:Int)(x20:Int)(x21:Int)(x22:Int)(x23:LI)(x24:Int):Option (LI×Int×Int×Int×Int×Int×Int×Int×Int×Int×Int×Int×Int×Int×LI×LI×LI×Int×Int×Int×Int×Int×Int×Unit):=
 let n1205:Nat:=((ya x0)/4)
 cond (decide (x24<4))
  (let b1208:Bool:=((decide (0≤x24))&&(decide (x24<4)))
  cond b1208
   (cond (decide (0≤x18))
    ((q8b F (x1,x2,x3,x4,x5,x6,x7,x8,x9,x10,()) x24).bind fun r1213=>
    (q0n F (ior .i64 (ishl .i64 (y7 x23 (y6 x24) 0) x18) x19) (y0 .i64 (r1213.1+x18))).bind fun r1215=>
    cond ((decide (0≤x20))&&(decide (x20<((n1205:Nat):Int))))
     (cond b1208
      (rec (yy x0 (((y6 x20)*4)+(y6 x24)) r1215.1) x1 x2 x3 x4 x5 x6 x7 x8 x9 x10 x11 x12 x13 x14 x15 x16 x17 x18 x19 x20 x21 x22 x23 (y0 .i64 (x24+1)))
       none)
      none)
     none)
    none)
  (some (x0,x1,x2,x3,x4,x5,x6,x7,x8,x9,x10,x11,x12,x13,x14,x15,x16,x17,x18,x19,x20,x21,x22,()))
def q08(F:Nat):Nat→LI→Int→Int→Int→Int→Int→Int→Int→Int→Int→Int→Int→Int→Int→LI→LI→LI→Int→Int→Int→Int→Int→Int→LI→Int→Option (LI×Int×Int×Int×Int×Int×Int×Int×Int×Int×Int×Int×Int×Int×LI×LI×LI×Int×Int×Int×Int×Int×Int×Unit)
 |0,_,_,_,_,_,_,_,_,_,_,_,_,_,_,_,_,_,_,_,_,_,_,_,_,_=>none
 |k+1,x0,x1,x2,x3,x4,x5,x6,x7,x8,x9,x10,x11,x12,x13,x14,x15,x16,x17,x18,x19,x20,x21,x22,x23,x24=>q1k F (q08 F k) x0 x1 x2 x3 x4 x5 x6 x7 x8 x9 x10 x11 x12 x13 x14 x15 x16 x17 x18 x19 x20 x21 x22 x23 x24
def q1l(F:Nat)(rec:LI→Int→Int→Int→Int→Int→Int→Int→Int→Int→Int→Int→Int→Int→LI→LI→LI→Int→Int→Int→Int→Int→Option (LI×Int×Int×Int×Int×Int×Int×Int×Int×Int×Int×Int×Int×Int×LI×LI×LI×Int×Unit))(x0:LI)(x1:Int)(x2:Int)(x3:Int)(x4:Int)(x5:Int)(x6:Int)(x7:Int)(x8:Int)(x9:Int)(x10:Int)(x11:Int)(x12:Int)(x13:Int)(x14:LI)(x15:LI)(x16:LI)(x17:Int)(x18:Int)(x19:Int)(x20:Int)(x21:Int):Option (LI×Int×Int×Int×Int×Int×Int×Int×Int×Int×Int×Int×Int×Int×LI×LI×LI×Int×Unit):=
 let n1181:Nat:=((ya x0)/4)
 cond (decide (x21<x20))
  (cond (x7==1)
   ((q16 F 1 x16 x17).bind fun r1185=>
   cond ((decide (0≤x21))&&(decide (x21<((n1181:Nat):Int))))
    ((q08 F F x0 x1 x2 x3 x4 x5 x6 x7 x8 x9 x10 x11 x12 x13 x14 x15 x16 r1185.2.1 x18 r1185.1 x21 x20 x21 (y8 4 (y9 ((y6 x21)*4) x0)) 0).bind fun r1221=>
    let n1222:Nat:=((ya r1221.1)/4)
    cond (r1221.2.2.2.2.2.2.1==0)
     (cond ((decide (0≤r1221.2.2.2.2.2.2.2.2.2.2.2.2.2.2.2.2.2.2.2.2.1))&&(decide (r1221.2.2.2.2.2.2.2.2.2.2.2.2.2.2.2.2.2.2.2.2.1<((n1222:Nat):Int))))
      (rec (yy r1221.1 (3+((y6 r1221.2.2.2.2.2.2.2.2.2.2.2.2.2.2.2.2.2.2.2.2.1)*4)) 255) r1221.2.1 r1221.2.2.1 r1221.2.2.2.1 r1221.2.2.2.2.1 r1221.2.2.2.2.2.1 r1221.2.2.2.2.2.2.1 r1221.2.2.2.2.2.2.2.1 r1221.2.2.2.2.2.2.2.2.1 r1221.2.2.2.2.2.2.2.2.2.1 r1221.2.2.2.2.2.2.2.2.2.2.1 r1221.2.2.2.2.2.2.2.2.2.2.2.1 r1221.2.2.2.2.2.2.2.2.2.2.2.2.1 r1221.2.2.2.2.2.2.2.2.2.2.2.2.2.1 r1221.2.2.2.2.2.2.2.2.2.2.2.2.2.2.1 r1221.2.2.2.2.2.2.2.2.2.2.2.2.2.2.2.1 r1221.2.2.2.2.2.2.2.2.2.2.2.2.2.2.2.2.1 r1221.2.2.2.2.2.2.2.2.2.2.2.2.2.2.2.2.2.1 r1221.2.2.2.2.2.2.2.2.2.2.2.2.2.2.2.2.2.2.1 r1221.2.2.2.2.2.2.2.2.2.2.2.2.2.2.2.2.2.2.2.1 r1221.2.2.2.2.2.2.2.2.2.2.2.2.2.2.2.2.2.2.2.2.2.1 (y0 .i64 (r1221.2.2.2.2.2.2.2.2.2.2.2.2.2.2.2.2.2.2.2.2.2.2.1+1)))
       none)
     (rec r1221.1 r1221.2.1 r1221.2.2.1 r1221.2.2.2.1 r1221.2.2.2.2.1 r1221.2.2.2.2.2.1 r1221.2.2.2.2.2.2.1 r1221.2.2.2.2.2.2.2.1 r1221.2.2.2.2.2.2.2.2.1 r1221.2.2.2.2.2.2.2.2.2.1 r1221.2.2.2.2.2.2.2.2.2.2.1 r1221.2.2.2.2.2.2.2.2.2.2.2.1 r1221.2.2.2.2.2.2.2.2.2.2.2.2.1 r1221.2.2.2.2.2.2.2.2.2.2.2.2.2.1 r1221.2.2.2.2.2.2.2.2.2.2.2.2.2.2.1 r1221.2.2.2.2.2.2.2.2.2.2.2.2.2.2.2.1 r1221.2.2.2.2.2.2.2.2.2.2.2.2.2.2.2.2.1 r1221.2.2.2.2.2.2.2.2.2.2.2.2.2.2.2.2.2.1 r1221.2.2.2.2.2.2.2.2.2.2.2.2.2.2.2.2.2.2.1 r1221.2.2.2.2.2.2.2.2.2.2.2.2.2.2.2.2.2.2.2.1 r1221.2.2.2.2.2.2.2.2.2.2.2.2.2.2.2.2.2.2.2.2.2.1 (y0 .i64 (r1221.2.2.2.2.2.2.2.2.2.2.2.2.2.2.2.2.2.2.2.2.2.2.1+1))))
     none)
   (cond (x8==1)
    (cond ((yw x21 2)==0)
     ((q16 F 1 x16 x17).bind fun r1234=>
     cond ((decide (0≤x21))&&(decide (x21<((n1181:Nat):Int))))
      ((q08 F F x0 x1 x2 x3 x4 x5 x6 x7 x8 x9 x10 x11 x12 x13 x14 x15 x16 r1234.2.1 x18 r1234.1 x21 x20 x21 (y8 4 (y9 ((y6 x21)*4) x0)) 0).bind fun r1254=>
      let n1255:Nat:=((ya r1254.1)/4)
      cond (r1254.2.2.2.2.2.2.1==0)
       (cond ((decide (0≤r1254.2.2.2.2.2.2.2.2.2.2.2.2.2.2.2.2.2.2.2.2.1))&&(decide (r1254.2.2.2.2.2.2.2.2.2.2.2.2.2.2.2.2.2.2.2.2.1<((n1255:Nat):Int))))
        (rec (yy r1254.1 (3+((y6 r1254.2.2.2.2.2.2.2.2.2.2.2.2.2.2.2.2.2.2.2.2.1)*4)) 255) r1254.2.1 r1254.2.2.1 r1254.2.2.2.1 r1254.2.2.2.2.1 r1254.2.2.2.2.2.1 r1254.2.2.2.2.2.2.1 r1254.2.2.2.2.2.2.2.1 r1254.2.2.2.2.2.2.2.2.1 r1254.2.2.2.2.2.2.2.2.2.1 r1254.2.2.2.2.2.2.2.2.2.2.1 r1254.2.2.2.2.2.2.2.2.2.2.2.1 r1254.2.2.2.2.2.2.2.2.2.2.2.2.1 r1254.2.2.2.2.2.2.2.2.2.2.2.2.2.1 r1254.2.2.2.2.2.2.2.2.2.2.2.2.2.2.1 r1254.2.2.2.2.2.2.2.2.2.2.2.2.2.2.2.1 r1254.2.2.2.2.2.2.2.2.2.2.2.2.2.2.2.2.1 r1254.2.2.2.2.2.2.2.2.2.2.2.2.2.2.2.2.2.1 r1254.2.2.2.2.2.2.2.2.2.2.2.2.2.2.2.2.2.2.1 r1254.2.2.2.2.2.2.2.2.2.2.2.2.2.2.2.2.2.2.2.1 r1254.2.2.2.2.2.2.2.2.2.2.2.2.2.2.2.2.2.2.2.2.2.1 (y0 .i64 (r1254.2.2.2.2.2.2.2.2.2.2.2.2.2.2.2.2.2.2.2.2.2.2.1+1)))
         none)
       (rec r1254.1 r1254.2.1 r1254.2.2.1 r1254.2.2.2.1 r1254.2.2.2.2.1 r1254.2.2.2.2.2.1 r1254.2.2.2.2.2.2.1 r1254.2.2.2.2.2.2.2.1 r1254.2.2.2.2.2.2.2.2.1 r1254.2.2.2.2.2.2.2.2.2.1 r1254.2.2.2.2.2.2.2.2.2.2.1 r1254.2.2.2.2.2.2.2.2.2.2.2.1 r1254.2.2.2.2.2.2.2.2.2.2.2.2.1 r1254.2.2.2.2.2.2.2.2.2.2.2.2.2.1 r1254.2.2.2.2.2.2.2.2.2.2.2.2.2.2.1 r1254.2.2.2.2.2.2.2.2.2.2.2.2.2.2.2.1 r1254.2.2.2.2.2.2.2.2.2.2.2.2.2.2.2.2.1 r1254.2.2.2.2.2.2.2.2.2.2.2.2.2.2.2.2.2.1 r1254.2.2.2.2.2.2.2.2.2.2.2.2.2.2.2.2.2.2.1 r1254.2.2.2.2.2.2.2.2.2.2.2.2.2.2.2.2.2.2.2.1 r1254.2.2.2.2.2.2.2.2.2.2.2.2.2.2.2.2.2.2.2.2.2.1 (y0 .i64 (r1254.2.2.2.2.2.2.2.2.2.2.2.2.2.2.2.2.2.2.2.2.2.2.1+1))))
       none)
     (cond ((decide (0≤x21))&&(decide (x21<((n1181:Nat):Int))))
      ((q08 F F x0 x1 x2 x3 x4 x5 x6 x7 x8 x9 x10 x11 x12 x13 x14 x15 x16 x17 x18 x19 x21 x20 x21 (y8 4 (y9 ((y6 x21)*4) x0)) 0).bind fun r1283=>
      let n1284:Nat:=((ya r1283.1)/4)
      cond (r1283.2.2.2.2.2.2.1==0)
       (cond ((decide (0≤r1283.2.2.2.2.2.2.2.2.2.2.2.2.2.2.2.2.2.2.2.2.1))&&(decide (r1283.2.2.2.2.2.2.2.2.2.2.2.2.2.2.2.2.2.2.2.2.1<((n1284:Nat):Int))))
        (rec (yy r1283.1 (3+((y6 r1283.2.2.2.2.2.2.2.2.2.2.2.2.2.2.2.2.2.2.2.2.1)*4)) 255) r1283.2.1 r1283.2.2.1 r1283.2.2.2.1 r1283.2.2.2.2.1 r1283.2.2.2.2.2.1 r1283.2.2.2.2.2.2.1 r1283.2.2.2.2.2.2.2.1 r1283.2.2.2.2.2.2.2.2.1 r1283.2.2.2.2.2.2.2.2.2.1 r1283.2.2.2.2.2.2.2.2.2.2.1 r1283.2.2.2.2.2.2.2.2.2.2.2.1 r1283.2.2.2.2.2.2.2.2.2.2.2.2.1 r1283.2.2.2.2.2.2.2.2.2.2.2.2.2.1 r1283.2.2.2.2.2.2.2.2.2.2.2.2.2.2.1 r1283.2.2.2.2.2.2.2.2.2.2.2.2.2.2.2.1 r1283.2.2.2.2.2.2.2.2.2.2.2.2.2.2.2.2.1 r1283.2.2.2.2.2.2.2.2.2.2.2.2.2.2.2.2.2.1 r1283.2.2.2.2.2.2.2.2.2.2.2.2.2.2.2.2.2.2.1 r1283.2.2.2.2.2.2.2.2.2.2.2.2.2.2.2.2.2.2.2.1 r1283.2.2.2.2.2.2.2.2.2.2.2.2.2.2.2.2.2.2.2.2.2.1 (y0 .i64 (r1283.2.2.2.2.2.2.2.2.2.2.2.2.2.2.2.2.2.2.2.2.2.2.1+1)))
         none)
       (rec r1283.1 r1283.2.1 r1283.2.2.1 r1283.2.2.2.1 r1283.2.2.2.2.1 r1283.2.2.2.2.2.1 r1283.2.2.2.2.2.2.1 r1283.2.2.2.2.2.2.2.1 r1283.2.2.2.2.2.2.2.2.1 r1283.2.2.2.2.2.2.2.2.2.1 r1283.2.2.2.2.2.2.2.2.2.2.1 r1283.2.2.2.2.2.2.2.2.2.2.2.1 r1283.2.2.2.2.2.2.2.2.2.2.2.2.1 r1283.2.2.2.2.2.2.2.2.2.2.2.2.2.1 r1283.2.2.2.2.2.2.2.2.2.2.2.2.2.2.1 r1283.2.2.2.2.2.2.2.2.2.2.2.2.2.2.2.1 r1283.2.2.2.2.2.2.2.2.2.2.2.2.2.2.2.2.1 r1283.2.2.2.2.2.2.2.2.2.2.2.2.2.2.2.2.2.1 r1283.2.2.2.2.2.2.2.2.2.2.2.2.2.2.2.2.2.2.1 r1283.2.2.2.2.2.2.2.2.2.2.2.2.2.2.2.2.2.2.2.1 r1283.2.2.2.2.2.2.2.2.2.2.2.2.2.2.2.2.2.2.2.2.2.1 (y0 .i64 (r1283.2.2.2.2.2.2.2.2.2.2.2.2.2.2.2.2.2.2.2.2.2.2.1+1))))
       none))
    (cond ((decide (0≤x21))&&(decide (x21<((n1181:Nat):Int))))
     ((q08 F F x0 x1 x2 x3 x4 x5 x6 x7 x8 x9 x10 x11 x12 x13 x14 x15 x16 x17 x18 x19 x21 x20 x21 (y8 4 (y9 ((y6 x21)*4) x0)) 0).bind fun r1312=>
     let n1313:Nat:=((ya r1312.1)/4)
     cond (r1312.2.2.2.2.2.2.1==0)
      (cond ((decide (0≤r1312.2.2.2.2.2.2.2.2.2.2.2.2.2.2.2.2.2.2.2.2.1))&&(decide (r1312.2.2.2.2.2.2.2.2.2.2.2.2.2.2.2.2.2.2.2.2.1<((n1313:Nat):Int))))
       (rec (yy r1312.1 (3+((y6 r1312.2.2.2.2.2.2.2.2.2.2.2.2.2.2.2.2.2.2.2.2.1)*4)) 255) r1312.2.1 r1312.2.2.1 r1312.2.2.2.1 r1312.2.2.2.2.1 r1312.2.2.2.2.2.1 r1312.2.2.2.2.2.2.1 r1312.2.2.2.2.2.2.2.1 r1312.2.2.2.2.2.2.2.2.1 r1312.2.2.2.2.2.2.2.2.2.1 r1312.2.2.2.2.2.2.2.2.2.2.1 r1312.2.2.2.2.2.2.2.2.2.2.2.1 r1312.2.2.2.2.2.2.2.2.2.2.2.2.1 r1312.2.2.2.2.2.2.2.2.2.2.2.2.2.1 r1312.2.2.2.2.2.2.2.2.2.2.2.2.2.2.1 r1312.2.2.2.2.2.2.2.2.2.2.2.2.2.2.2.1 r1312.2.2.2.2.2.2.2.2.2.2.2.2.2.2.2.2.1 r1312.2.2.2.2.2.2.2.2.2.2.2.2.2.2.2.2.2.1 r1312.2.2.2.2.2.2.2.2.2.2.2.2.2.2.2.2.2.2.1 r1312.2.2.2.2.2.2.2.2.2.2.2.2.2.2.2.2.2.2.2.1 r1312.2.2.2.2.2.2.2.2.2.2.2.2.2.2.2.2.2.2.2.2.2.1 (y0 .i64 (r1312.2.2.2.2.2.2.2.2.2.2.2.2.2.2.2.2.2.2.2.2.2.2.1+1)))
        none)
      (rec r1312.1 r1312.2.1 r1312.2.2.1 r1312.2.2.2.1 r1312.2.2.2.2.1 r1312.2.2.2.2.2.1 r1312.2.2.2.2.2.2.1 r1312.2.2.2.2.2.2.2.1 r1312.2.2.2.2.2.2.2.2.1 r1312.2.2.2.2.2.2.2.2.2.1 r1312.2.2.2.2.2.2.2.2.2.2.1 r1312.2.2.2.2.2.2.2.2.2.2.2.1 r1312.2.2.2.2.2.2.2.2.2.2.2.2.1 r1312.2.2.2.2.2.2.2.2.2.2.2.2.2.1 r1312.2.2.2.2.2.2.2.2.2.2.2.2.2.2.1 r1312.2.2.2.2.2.2.2.2.2.2.2.2.2.2.2.1 r1312.2.2.2.2.2.2.2.2.2.2.2.2.2.2.2.2.1 r1312.2.2.2.2.2.2.2.2.2.2.2.2.2.2.2.2.2.1 r1312.2.2.2.2.2.2.2.2.2.2.2.2.2.2.2.2.2.2.1 r1312.2.2.2.2.2.2.2.2.2.2.2.2.2.2.2.2.2.2.2.1 r1312.2.2.2.2.2.2.2.2.2.2.2.2.2.2.2.2.2.2.2.2.2.1 (y0 .i64 (r1312.2.2.2.2.2.2.2.2.2.2.2.2.2.2.2.2.2.2.2.2.2.2.1+1))))
      none)))
  (some (x0,x1,x2,x3,x4,x5,x6,x7,x8,x9,x10,x11,x12,x13,x14,x15,x16,x17,()))
def q0i(F:Nat):Nat→LI→Int→Int→Int→Int→Int→Int→Int→Int→Int→Int→Int→Int→Int→LI→LI→LI→Int→Int→Int→Int→Int→Option (LI×Int×Int×Int×Int×Int×Int×Int×Int×Int×Int×Int×Int×Int×LI×LI×LI×Int×Unit)
 |0,_,_,_,_,_,_,_,_,_,_,_,_,_,_,_,_,_,_,_,_,_,_=>none
 |k+1,x0,x1,x2,x3,x4,x5,x6,x7,x8,x9,x10,x11,x12,x13,x14,x15,x16,x17,x18,x19,x20,x21=>q1l F (q0i F k) x0 x1 x2 x3 x4 x5 x6 x7 x8 x9 x10 x11 x12 x13 x14 x15 x16 x17 x18 x19 x20 x21
def q2k(F:Nat)(a0:LI)(a1:Int)(a2:Int)(a3:Int)(a4:Int)(a5:Int)(a6:Int)(a7:Int)(a8:Int)(a9:Int)(a10:Int)(a11:Int)(a12:Int)(a13:Int)(a14:LI)(a15:LI)(a16:LI)(a17:Int):Option (LI×Int×Unit):=
 (q0i F F a0 a1 a2 a3 a4 a5 a6 a7 a8 a9 a10 a11 a12 a13 a14 a15 a16 a17 (y0 .i64 (a7+a8)) 0 ((((ya a0)/4):Nat):Int) 0).bind fun r1322=>
 some (r1322.1,r1322.2.2.2.2.2.2.2.2.2.2.2.2.2.2.2.2.2.1,())
def q4k(F:Nat)(rec:LI→Int→Int→Int→Int→Int→Int→Int→Int→Int→Int→Int→Int→Int→LI→LI→Int→Bool→Int→Option (Bool×Unit))(x0:LI)(x1:Int)(x2:Int)(x3:Int)(x4:Int)(x5:Int)(x6:Int)(x7:Int)(x8:Int)(x9:Int)(x10:Int)(x11:Int)(x12:Int)(x13:Int)(x14:LI)(x15:LI)(x16:Int)(x17:Bool)(x18:Int):Option (Bool×Unit):=
 cond (decide (x18<x1))
  (cond x17
   (rec x0 x1 x2 x3 x4 x5 x6 x7 x8 x9 x10 x11 x12 x13 x14 x15 x16 true (y0 .i64 (x18+1)))
   ((qgu F x1 x11 x18).bind fun r1381=>
   rec x0 x1 x2 x3 x4 x5 x6 x7 x8 x9 x10 x11 x12 x13 x14 x15 x16 (r1381.1==x16) (y0 .i64 (x18+1))))
  (some (x17,()))
def q19(F:Nat):Nat→LI→Int→Int→Int→Int→Int→Int→Int→Int→Int→Int→Int→Int→Int→LI→LI→Int→Bool→Int→Option (Bool×Unit)
 |0,_,_,_,_,_,_,_,_,_,_,_,_,_,_,_,_,_,_,_=>none
 |k+1,x0,x1,x2,x3,x4,x5,x6,x7,x8,x9,x10,x11,x12,x13,x14,x15,x16,x17,x18=>q4k F (q19 F k) x0 x1 x2 x3 x4 x5 x6 x7 x8 x9 x10 x11 x12 x13 x14 x15 x16 x17 x18
def q79(F:Nat)(a0:LI)(a1:Int)(a2:Int)(a3:Int)(a4:Int)(a5:Int)(a6:Int)(a7:Int)(a8:Int)(a9:Int)(a10:Int)(a11:Int)(a12:Int)(a13:Int)(a14:LI)(a15:LI)(a16:Int):Option (Int×Unit):=
 (q19 F F a0 a1 a2 a3 a4 a5 a6 a7 a8 a9 a10 a11 a12 a13 a14 a15 a16 (a16==0) 1).bind fun r1384=>
 cond r1384.1
  (some (1,()))
  (some (0,()))
def qc8(F:Nat)(rec:LI→LI→LI→Int→Int→Int→Int→Int→Int→Int→Int→Int→Int→Int→Int→Int→LI→LI→LI→Int→Int→Int→Int→Int→Option (LI×LI×LI×Int×Int×Int×Int×Int×Int×Int×Int×Int×Int×Int×Int×Int×LI×LI×LI×Int×Int×Unit))(x0:LI)(x1:LI)(x2:LI)(x3:Int)(x4:Int)(x5:Int)(x6:Int)(x7:Int)(x8:Int)(x9:Int)(x10:Int)(x11:Int)(x12:Int)(x13:Int)(x14:Int)(x15:Int)(x16:LI)(x17:LI)(x18:LI)(x19:Int)(x20:Int)(x21:Int)(x22:Int)(x23:Int):Option (LI×LI×LI×Int×Int×Int×Int×Int×Int×Int×Int×Int×Int×Int×Int×Int×LI×LI×LI×Int×Int×Unit):=
 let n1542:Nat:=((ya x2)/4)
 cond (decide (x23<x22))
  (cond ((decide (0≤x23))&&(decide (x23<((n1542:Nat):Int))))
   ((q8b F (x3,x4,x5,x6,x7,x8,x9,x10,x11,x12,()) x20).bind fun r1547=>
   (q16 F r1547.1 x18 x19).bind fun r1548=>
   cond ((decide (0≤x20))&&(decide (x20<4)))
    (rec x0 x1 (yy x2 (((y6 x23)*4)+(y6 x20)) r1548.1) x3 x4 x5 x6 x7 x8 x9 x10 x11 x12 x13 x14 x15 x16 x17 x18 r1548.2.1 x20 x21 x22 (y0 .i64 (x23+1)))
     none)
    none)
  (some (x0,x1,x2,x3,x4,x5,x6,x7,x8,x9,x10,x11,x12,x13,x14,x15,x16,x17,x18,x19,x21,()))
def q5l(F:Nat):Nat→LI→LI→LI→Int→Int→Int→Int→Int→Int→Int→Int→Int→Int→Int→Int→Int→LI→LI→LI→Int→Int→Int→Int→Int→Option (LI×LI×LI×Int×Int×Int×Int×Int×Int×Int×Int×Int×Int×Int×Int×Int×LI×LI×LI×Int×Int×Unit)
 |0,_,_,_,_,_,_,_,_,_,_,_,_,_,_,_,_,_,_,_,_,_,_,_,_=>none
 |k+1,x0,x1,x2,x3,x4,x5,x6,x7,x8,x9,x10,x11,x12,x13,x14,x15,x16,x17,x18,x19,x20,x21,x22,x23=>qc8 F (q5l F k) x0 x1 x2 x3 x4 x5 x6 x7 x8 x9 x10 x11 x12 x13 x14 x15 x16 x17 x18 x19 x20 x21 x22 x23
def qc9(F:Nat)(rec:LI→LI→LI→Int→Int→Int→Int→Int→Int→Int→Int→Int→Int→Int→Int→Int→LI→LI→LI→Int→Int→Option (LI×LI×LI×Int×Int×Int×Int×Int×Int×Int×Int×Int×Int×Int×Int×Int×LI×LI×LI×Int×Unit))(x0:LI)(x1:LI)(x2:LI)(x3:Int)(x4:Int)(x5:Int)(x6:Int)(x7:Int)(x8:Int)(x9:Int)(x10:Int)(x11:Int)(x12:Int)(x13:Int)(x14:Int)(x15:Int)(x16:LI)(x17:LI)(x18:LI)(x19:Int)(x20:Int):Option (LI×LI×LI×Int×Int×Int×Int×Int×Int×Int×Int×Int×Int×Int×Int×Int×LI×LI×LI×Int×Unit):=
 cond (decide (x20<4))
  ((q5l F F x0 x1 x2 x3 x4 x5 x6 x7 x8 x9 x10 x11 x12 x13 x14 x15 x16 x17 x18 x19 x20 x20 ((((ya x2)/4):Nat):Int) 0).bind fun r1553=>
  rec r1553.1 r1553.2.1 r1553.2.2.1 r1553.2.2.2.1 r1553.2.2.2.2.1 r1553.2.2.2.2.2.1 r1553.2.2.2.2.2.2.1 r1553.2.2.2.2.2.2.2.1 r1553.2.2.2.2.2.2.2.2.1 r1553.2.2.2.2.2.2.2.2.2.1 r1553.2.2.2.2.2.2.2.2.2.2.1 r1553.2.2.2.2.2.2.2.2.2.2.2.1 r1553.2.2.2.2.2.2.2.2.2.2.2.2.1 r1553.2.2.2.2.2.2.2.2.2.2.2.2.2.1 r1553.2.2.2.2.2.2.2.2.2.2.2.2.2.2.1 r1553.2.2.2.2.2.2.2.2.2.2.2.2.2.2.2.1 r1553.2.2.2.2.2.2.2.2.2.2.2.2.2.2.2.2.1 r1553.2.2.2.2.2.2.2.2.2.2.2.2.2.2.2.2.2.1 r1553.2.2.2.2.2.2.2.2.2.2.2.2.2.2.2.2.2.2.1 r1553.2.2.2.2.2.2.2.2.2.2.2.2.2.2.2.2.2.2.2.1 (y0 .i64 (r1553.2.2.2.2.2.2.2.2.2.2.2.2.2.2.2.2.2.2.2.2.1+1)))
  (some (x0,x1,x2,x3,x4,x5,x6,x7,x8,x9,x10,x11,x12,x13,x14,x15,x16,x17,x18,x19,()))
def q2o(F:Nat):Nat→LI→LI→LI→Int→Int→Int→Int→Int→Int→Int→Int→Int→Int→Int→Int→Int→LI→LI→LI→Int→Int→Option (LI×LI×LI×Int×Int×Int×Int×Int×Int×Int×Int×Int×Int×Int×Int×Int×LI×LI×LI×Int×Unit)
 |0,_,_,_,_,_,_,_,_,_,_,_,_,_,_,_,_,_,_,_,_,_=>none
 |k+1,x0,x1,x2,x3,x4,x5,x6,x7,x8,x9,x10,x11,x12,x13,x14,x15,x16,x17,x18,x19,x20=>qc9 F (q2o F k) x0 x1 x2 x3 x4 x5 x6 x7 x8 x9 x10 x11 x12 x13 x14 x15 x16 x17 x18 x19 x20
def qca(F:Nat)(rec:LI→LI→LI→Int→Int→Int→Int→Int→Int→Int→Int→Int→Int→Int→Int→Int→LI→LI→LI→Int→Int→Option (LI×LI×LI×Int×Int×Int×Int×Int×Int×Int×Int×Int×Int×Int×Int×Int×LI×LI×LI×Int×Unit))(x0:LI)(x1:LI)(x2:LI)(x3:Int)(x4:Int)(x5:Int)(x6:Int)(x7:Int)(x8:Int)(x9:Int)(x10:Int)(x11:Int)(x12:Int)(x13:Int)(x14:Int)(x15:Int)(x16:LI)(x17:LI)(x18:LI)(x19:Int)(x20:Int):Option (LI×LI×LI×Int×Int×Int×Int×Int×Int×Int×Int×Int×Int×Int×Int×Int×LI×LI×LI×Int×Unit):=
 cond (decide (x20<16))
  ((q79 F x2 x3 x4 x5 x6 x7 x8 x9 x10 x11 x12 x13 x14 x15 x16 x17 x20).bind fun r1580=>
  (q16 F (y0 .i64 (x11-r1580.1)) x18 x19).bind fun r1582=>
  cond ((decide (0≤x20))&&(decide (x20<16)))
   (rec x0 x1 x2 x3 x4 x5 x6 x7 x8 x9 x10 x11 x12 x13 x14 x15 (yy x16 (y6 x20) r1582.1) x17 x18 r1582.2.1 (y0 .i64 (x20+1)))
    none)
  (some (x0,x1,x2,x3,x4,x5,x6,x7,x8,x9,x10,x11,x12,x13,x14,x15,x16,x17,x18,x19,()))
def q5m(F:Nat):Nat→LI→LI→LI→Int→Int→Int→Int→Int→Int→Int→Int→Int→Int→Int→Int→Int→LI→LI→LI→Int→Int→Option (LI×LI×LI×Int×Int×Int×Int×Int×Int×Int×Int×Int×Int×Int×Int×Int×LI×LI×LI×Int×Unit)
 |0,_,_,_,_,_,_,_,_,_,_,_,_,_,_,_,_,_,_,_,_,_=>none
 |k+1,x0,x1,x2,x3,x4,x5,x6,x7,x8,x9,x10,x11,x12,x13,x14,x15,x16,x17,x18,x19,x20=>qca F (q5m F k) x0 x1 x2 x3 x4 x5 x6 x7 x8 x9 x10 x11 x12 x13 x14 x15 x16 x17 x18 x19 x20
def qcb(F:Nat)(rec:LI→LI→LI→Int→Int→Int→Int→Int→Int→Int→Int→Int→Int→Int→Int→Int→LI→LI→LI→Int→Int→Option (LI×LI×LI×Int×Int×Int×Int×Int×Int×Int×Int×Int×Int×Int×Int×Int×LI×LI×Unit))(x0:LI)(x1:LI)(x2:LI)(x3:Int)(x4:Int)(x5:Int)(x6:Int)(x7:Int)(x8:Int)(x9:Int)(x10:Int)(x11:Int)(x12:Int)(x13:Int)(x14:Int)(x15:Int)(x16:LI)(x17:LI)(x18:LI)(x19:Int)(x20:Int):Option (LI×LI×LI×Int×Int×Int×Int×Int×Int×Int×Int×Int×Int×Int×Int×Int×LI×LI×Unit):=
 cond (decide (x20<16))
  (let v1610:Int:=(y0 .i64 (x20+1))
  cond (!(v1610==0))
   ((q16 F (y0 .i64 (x12-(y0 .i64 (yx 1 v1610)))) x18 x19).bind fun r1614=>
   cond ((decide (0≤x20))&&(decide (x20<16)))
    (rec x0 x1 x2 x3 x4 x5 x6 x7 x8 x9 x10 x11 x12 x13 x14 x15 x16 (yy x17 (y6 x20) r1614.1) x18 r1614.2.1 v1610)
     none)
    none)
  (some (x0,x1,x2,x3,x4,x5,x6,x7,x8,x9,x10,x11,x12,x13,x14,x15,x16,x17,()))
def q5n(F:Nat):Nat→LI→LI→LI→Int→Int→Int→Int→Int→Int→Int→Int→Int→Int→Int→Int→Int→LI→LI→LI→Int→Int→Option (LI×LI×LI×Int×Int×Int×Int×Int×Int×Int×Int×Int×Int×Int×Int×Int×LI×LI×Unit)
 |0,_,_,_,_,_,_,_,_,_,_,_,_,_,_,_,_,_,_,_,_,_=>none
 |k+1,x0,x1,x2,x3,x4,x5,x6,x7,x8,x9,x10,x11,x12,x13,x14,x15,x16,x17,x18,x19,x20=>qcb F (q5n F k) x0 x1 x2 x3 x4 x5 x6 x7 x8 x9 x10 x11 x12 x13 x14 x15 x16 x17 x18 x19 x20
def qna(F:Nat)(a0:LI)(a1:Int):Option (Int×Int×Int×Int×Int×Int×Int×Int×Int×Int×Int×Int×Int×LI×LI×LI×Unit):=
 (qs9 F).bind fun r1443=>
 let n1444:Nat:=((ya r1443.1)/10)
 cond ((decide (0≤a1))&&(decide (a1<((n1444:Nat):Int))))
  (let l1447:LI:=(y8 10 (y9 ((y6 a1)*10) r1443.1))
  let v1448:Int:=(y7 l1447 0 0)
  let v1449:Int:=(y7 l1447 1 0)
  let v1450:Int:=(y7 l1447 2 0)
  let v1451:Int:=(y7 l1447 3 0)
  (q16 F v1449 a0 (y0 .i64 (a1+1))).bind fun r1459=>
  (q16 F v1450 a0 r1459.2.1).bind fun r1460=>
  (q16 F v1451 a0 r1460.2.1).bind fun r1461=>
  let v1462:Int:=(y0 .i64 (2*v1448))
  cond ((decide (0≤v1462))&&((decide (v1462≤1099511627776))&&(decide (v1462=v1462))))
   ((q2o F F q09 q09 (yz ((y6 v1462)*4) 0) v1448 v1449 v1450 v1451 (y7 l1447 4 0) (y7 l1447 5 0) (y7 l1447 6 0) (y7 l1447 7 0) (y7 l1447 8 0) (y7 l1447 9 0) r1459.1 r1460.1 r1461.1 q09 q09 a0 r1461.2.1 0).bind fun r1557=>
   (q2k F r1557.2.2.1 r1557.2.2.2.1 r1557.2.2.2.2.1 r1557.2.2.2.2.2.1 r1557.2.2.2.2.2.2.1 r1557.2.2.2.2.2.2.2.1 r1557.2.2.2.2.2.2.2.2.1 r1557.2.2.2.2.2.2.2.2.2.1 r1557.2.2.2.2.2.2.2.2.2.2.1 r1557.2.2.2.2.2.2.2.2.2.2.2.1 r1557.2.2.2.2.2.2.2.2.2.2.2.2.1 r1557.2.2.2.2.2.2.2.2.2.2.2.2.2.1 r1557.2.2.2.2.2.2.2.2.2.2.2.2.2.2.1 r1557.2.2.2.2.2.2.2.2.2.2.2.2.2.2.2.1 r1557.2.2.2.2.2.2.2.2.2.2.2.2.2.2.2.2.1 r1557.2.2.2.2.2.2.2.2.2.2.2.2.2.2.2.2.2.1 r1557.2.2.2.2.2.2.2.2.2.2.2.2.2.2.2.2.2.2.1 r1557.2.2.2.2.2.2.2.2.2.2.2.2.2.2.2.2.2.2.2.1).bind fun r1560=>
   (q5m F F r1557.1 r1557.2.1 r1560.1 r1557.2.2.2.1 r1557.2.2.2.2.1 r1557.2.2.2.2.2.1 r1557.2.2.2.2.2.2.1 r1557.2.2.2.2.2.2.2.1 r1557.2.2.2.2.2.2.2.2.1 r1557.2.2.2.2.2.2.2.2.2.1 r1557.2.2.2.2.2.2.2.2.2.2.1 r1557.2.2.2.2.2.2.2.2.2.2.2.1 r1557.2.2.2.2.2.2.2.2.2.2.2.2.1 r1557.2.2.2.2.2.2.2.2.2.2.2.2.2.1 r1557.2.2.2.2.2.2.2.2.2.2.2.2.2.2.1 r1557.2.2.2.2.2.2.2.2.2.2.2.2.2.2.2.1 r1557.2.2.2.2.2.2.2.2.2.2.2.2.2.2.2.2.1 r1557.2.2.2.2.2.2.2.2.2.2.2.2.2.2.2.2.2.1 r1557.2.2.2.2.2.2.2.2.2.2.2.2.2.2.2.2.2.2.1 r1560.2.1 0).bind fun r1587=>
   cond (decide (0<r1587.2.2.2.2.2.2.2.2.2.2.2.2.1))
    ((q5n F F r1587.1 r1587.2.1 r1587.2.2.1 r1587.2.2.2.1 r1587.2.2.2.2.1 r1587.2.2.2.2.2.1 r1587.2.2.2.2.2.2.1 r1587.2.2.2.2.2.2.2.1 r1587.2.2.2.2.2.2.2.2.1 r1587.2.2.2.2.2.2.2.2.2.1 r1587.2.2.2.2.2.2.2.2.2.2.1 r1587.2.2.2.2.2.2.2.2.2.2.2.1 r1587.2.2.2.2.2.2.2.2.2.2.2.2.1 r1587.2.2.2.2.2.2.2.2.2.2.2.2.2.1 r1587.2.2.2.2.2.2.2.2.2.2.2.2.2.2.1 r1587.2.2.2.2.2.2.2.2.2.2.2.2.2.2.2.1 r1587.2.2.2.2.2.2.2.2.2.2.2.2.2.2.2.2.1 r1587.2.2.2.2.2.2.2.2.2.2.2.2.2.2.2.2.2.1 r1587.2.2.2.2.2.2.2.2.2.2.2.2.2.2.2.2.2.2.1 r1587.2.2.2.2.2.2.2.2.2.2.2.2.2.2.2.2.2.2.2.1 0).bind fun r1618=>
    some (r1618.2.2.2.1,r1618.2.2.2.2.1,r1618.2.2.2.2.2.1,r1618.2.2.2.2.2.2.1,r1618.2.2.2.2.2.2.2.1,r1618.2.2.2.2.2.2.2.2.1,r1618.2.2.2.2.2.2.2.2.2.1,r1618.2.2.2.2.2.2.2.2.2.2.1,r1618.2.2.2.2.2.2.2.2.2.2.2.1,r1618.2.2.2.2.2.2.2.2.2.2.2.2.1,r1618.2.2.2.2.2.2.2.2.2.2.2.2.2.1,r1618.2.2.2.2.2.2.2.2.2.2.2.2.2.2.1,r1618.2.2.2.2.2.2.2.2.2.2.2.2.2.2.2.1,r1618.2.2.1,r1618.2.2.2.2.2.2.2.2.2.2.2.2.2.2.2.2.1,r1618.2.2.2.2.2.2.2.2.2.2.2.2.2.2.2.2.2.1,()))
    (some (r1587.2.2.2.1,r1587.2.2.2.2.1,r1587.2.2.2.2.2.1,r1587.2.2.2.2.2.2.1,r1587.2.2.2.2.2.2.2.1,r1587.2.2.2.2.2.2.2.2.1,r1587.2.2.2.2.2.2.2.2.2.1,r1587.2.2.2.2.2.2.2.2.2.2.1,r1587.2.2.2.2.2.2.2.2.2.2.2.1,r1587.2.2.2.2.2.2.2.2.2.2.2.2.1,r1587.2.2.2.2.2.2.2.2.2.2.2.2.2.1,r1587.2.2.2.2.2.2.2.2.2.2.2.2.2.2.1,r1587.2.2.2.2.2.2.2.2.2.2.2.2.2.2.2.1,r1587.2.2.1,r1587.2.2.2.2.2.2.2.2.2.2.2.2.2.2.2.2.1,r1587.2.2.2.2.2.2.2.2.2.2.2.2.2.2.2.2.2.1,())))
    none)
   none
def q4p(F:Nat)(a0:Int)(a1:Int)(a2:Int)(a3:Int):Option (Int×Unit):=
 (qdw F a3).bind fun r1671=>
 let n1672:Nat:=(ya r1671.1)
 cond ((decide (0≤a2))&&(decide (a2<((n1672:Nat):Int))))
  ((qph F a0 a1 (y7 r1671.1 (y6 a2) 0) 64 32).bind fun r1687=>
  some (r1687.1,()))
   none
def q4l(F:Nat)(rec:LI→Int→Int→Int→Int→Int→Int→Int→Int→Int→Int→Int→Int→Int→LI→LI→LI→LI→LI→Int→Int→Int→Int→LI→Int→Option (LI×Int×Int×Int×Int×Int×Int×Int×Int×Int×Int×Int×Int×Int×LI×LI×LI×LI×LI×Int×Int×LI×Unit))(x0:LI)(x1:Int)(x2:Int)(x3:Int)(x4:Int)(x5:Int)(x6:Int)(x7:Int)(x8:Int)(x9:Int)(x10:Int)(x11:Int)(x12:Int)(x13:Int)(x14:LI)(x15:LI)(x16:LI)(x17:LI)(x18:LI)(x19:Int)(x20:Int)(x21:Int)(x22:Int)(x23:LI)(x24:Int):Option (LI×Int×Int×Int×Int×Int×Int×Int×Int×Int×Int×Int×Int×Int×LI×LI×LI×LI×LI×Int×Int×LI×Unit):=
 cond (decide (x24<3))
  (let b1824:Bool:=((decide (0≤x24))&&(decide (x24<4)))
  cond b1824
   (cond b1824
    ((q4p F (y7 x17 (y6 x24) 0) (y7 x18 (y6 x24) 0) x19 x20).bind fun r1828=>
    cond b1824
     (rec x0 x1 x2 x3 x4 x5 x6 x7 x8 x9 x10 x11 x12 x13 x14 x15 x16 x17 x18 x19 x20 x21 x22 (yy x23 (y6 x24) r1828.1) (y0 .i64 (x24+1)))
      none)
     none)
    none)
  (some (x0,x1,x2,x3,x4,x5,x6,x7,x8,x9,x10,x11,x12,x13,x14,x15,x16,x17,x18,x21,x22,x23,()))
def q0k(F:Nat):Nat→LI→Int→Int→Int→Int→Int→Int→Int→Int→Int→Int→Int→Int→Int→LI→LI→LI→LI→LI→Int→Int→Int→Int→LI→Int→Option (LI×Int×Int×Int×Int×Int×Int×Int×Int×Int×Int×Int×Int×Int×LI×LI×LI×LI×LI×Int×Int×LI×Unit)
 |0,_,_,_,_,_,_,_,_,_,_,_,_,_,_,_,_,_,_,_,_,_,_,_,_,_=>none
 |k+1,x0,x1,x2,x3,x4,x5,x6,x7,x8,x9,x10,x11,x12,x13,x14,x15,x16,x17,x18,x19,x20,x21,x22,x23,x24=>q4l F (q0k F k) x0 x1 x2 x3 x4 x5 x6 x7 x8 x9 x10 x11 x12 x13 x14 x15 x16 x17 x18 x19 x20 x21 x22 x23 x24
def q7a(F:Nat)(a0:LI)(a1:Int)(a2:Int)(a3:Int)(a4:Int)(a5:Int)(a6:Int)(a7:Int)(a8:Int)(a9:Int)(a10:Int)(a11:Int)(a12:Int)(a13:Int)(a14:LI)(a15:LI)(a16:Int):Option (LI×Unit):=
 let n1792:Nat:=((ya a0)/4)
 (qn7 F a1 a11 a16).bind fun r1793=>
 let v1794:Int:=(y0 .i64 (2*r1793.1))
 let v1795:Int:=(y0 .i64 (v1794+1))
 cond ((decide (0≤v1794))&&(decide (v1794<((n1792:Nat):Int))))
  (let l1798:LI:=(y8 4 (y9 ((y6 v1794)*4) a0))
  cond ((decide (0≤v1795))&&(decide (v1795<((n1792:Nat):Int))))
   (let l1801:LI:=(y8 4 (y9 ((y6 v1795)*4) a0))
   let b1802:Bool:=((decide (0≤a16))&&(decide (a16<16)))
   cond b1802
    (let v1804:Int:=(y7 a14 (y6 a16) 0)
    cond (decide (0<a10))
     (cond b1802
      (let v1806:Int:=(y7 a15 (y6 a16) 0)
      cond (a13==1)
       ((q0k F F a0 a1 a2 a3 a4 a5 a6 a7 a8 a9 a10 a11 a12 a13 a14 a15 [0,0,0,0] l1798 l1801 v1806 a10 v1804 a9 [0,0,0,0] 0).bind fun r1831=>
       (q4p F (y7 r1831.2.2.2.2.2.2.2.2.2.2.2.2.2.2.2.2.2.1 3 0) (y7 r1831.2.2.2.2.2.2.2.2.2.2.2.2.2.2.2.2.2.2.1 3 0) r1831.2.2.2.2.2.2.2.2.2.2.2.2.2.2.2.2.2.2.2.1 r1831.2.2.2.2.2.2.2.2.2.2.2.2.2.2.2.2.2.2.2.2.1).bind fun r1835=>
       let l1836:LI:=(yy r1831.2.2.2.2.2.2.2.2.2.2.2.2.2.2.2.2.2.2.2.2.2.1 3 r1835.1)
       cond (decide (0<r1831.2.2.2.2.2.2.2.2.2.2.2.2.1))
        (let v1838:Int:=(y0 .i64 (r1831.2.2.2.2.2.2.2.2.2.2.2.2.1-1))
        let b1839:Bool:=((decide (0≤v1838))&&(decide (v1838<4)))
        cond b1839
         (cond b1839
          (some ((yy (yy l1836 3 (y7 l1836 (y6 v1838) 0)) (y6 v1838) (y7 l1836 3 0)),()))
           none)
          none)
        (some (l1836,())))
       ((q0k F F a0 a1 a2 a3 a4 a5 a6 a7 a8 a9 a10 a11 a12 a13 a14 a15 [0,0,0,0] l1798 l1801 v1804 a9 v1806 a10 [0,0,0,0] 0).bind fun r1854=>
       (q4p F (y7 r1854.2.2.2.2.2.2.2.2.2.2.2.2.2.2.2.2.2.1 3 0) (y7 r1854.2.2.2.2.2.2.2.2.2.2.2.2.2.2.2.2.2.2.1 3 0) r1854.2.2.2.2.2.2.2.2.2.2.2.2.2.2.2.2.2.2.2.1 r1854.2.2.2.2.2.2.2.2.2.2.2.2.2.2.2.2.2.2.2.2.1).bind fun r1858=>
       let l1859:LI:=(yy r1854.2.2.2.2.2.2.2.2.2.2.2.2.2.2.2.2.2.2.2.2.2.1 3 r1858.1)
       cond (decide (0<r1854.2.2.2.2.2.2.2.2.2.2.2.2.1))
        (let v1861:Int:=(y0 .i64 (r1854.2.2.2.2.2.2.2.2.2.2.2.2.1-1))
        let b1862:Bool:=((decide (0≤v1861))&&(decide (v1861<4)))
        cond b1862
         (cond b1862
          (some ((yy (yy l1859 3 (y7 l1859 (y6 v1861) 0)) (y6 v1861) (y7 l1859 3 0)),()))
           none)
          none)
        (some (l1859,()))))
       none)
     (cond (a13==1)
      ((q0k F F a0 a1 a2 a3 a4 a5 a6 a7 a8 a9 a10 a11 a12 a13 a14 a15 [0,0,0,0] l1798 l1801 v1804 a9 v1804 a9 [0,0,0,0] 0).bind fun r1878=>
      (q4p F (y7 r1878.2.2.2.2.2.2.2.2.2.2.2.2.2.2.2.2.2.1 3 0) (y7 r1878.2.2.2.2.2.2.2.2.2.2.2.2.2.2.2.2.2.2.1 3 0) r1878.2.2.2.2.2.2.2.2.2.2.2.2.2.2.2.2.2.2.2.1 r1878.2.2.2.2.2.2.2.2.2.2.2.2.2.2.2.2.2.2.2.2.1).bind fun r1882=>
      let l1883:LI:=(yy r1878.2.2.2.2.2.2.2.2.2.2.2.2.2.2.2.2.2.2.2.2.2.1 3 r1882.1)
      cond (decide (0<r1878.2.2.2.2.2.2.2.2.2.2.2.2.1))
       (let v1885:Int:=(y0 .i64 (r1878.2.2.2.2.2.2.2.2.2.2.2.2.1-1))
       let b1886:Bool:=((decide (0≤v1885))&&(decide (v1885<4)))
       cond b1886
        (cond b1886
         (some ((yy (yy l1883 3 (y7 l1883 (y6 v1885) 0)) (y6 v1885) (y7 l1883 3 0)),()))
          none)
         none)
       (some (l1883,())))
      ((q0k F F a0 a1 a2 a3 a4 a5 a6 a7 a8 a9 a10 a11 a12 a13 a14 a15 [0,0,0,0] l1798 l1801 v1804 a9 v1804 a9 [0,0,0,0] 0).bind fun r1901=>
      (q4p F (y7 r1901.2.2.2.2.2.2.2.2.2.2.2.2.2.2.2.2.2.1 3 0) (y7 r1901.2.2.2.2.2.2.2.2.2.2.2.2.2.2.2.2.2.2.1 3 0) r1901.2.2.2.2.2.2.2.2.2.2.2.2.2.2.2.2.2.2.2.1 r1901.2.2.2.2.2.2.2.2.2.2.2.2.2.2.2.2.2.2.2.2.1).bind fun r1905=>
      let l1906:LI:=(yy r1901.2.2.2.2.2.2.2.2.2.2.2.2.2.2.2.2.2.2.2.2.2.1 3 r1905.1)
      cond (decide (0<r1901.2.2.2.2.2.2.2.2.2.2.2.2.1))
       (let v1908:Int:=(y0 .i64 (r1901.2.2.2.2.2.2.2.2.2.2.2.2.1-1))
       let b1909:Bool:=((decide (0≤v1908))&&(decide (v1908<4)))
       cond b1909
        (cond b1909
         (some ((yy (yy l1906 3 (y7 l1906 (y6 v1908) 0)) (y6 v1908) (y7 l1906 3 0)),()))
          none)
         none)
       (some (l1906,())))))
     none)
    none)
   none
def qa4(F:Nat)(rec:LI→LI→LI→Int→Int→Int→Int→Int→Int→Int→Int→Int→Int→Int→Int→Int→LI→LI→Int→Option (LI×LI×Unit))(x0:LI)(x1:LI)(x2:LI)(x3:Int)(x4:Int)(x5:Int)(x6:Int)(x7:Int)(x8:Int)(x9:Int)(x10:Int)(x11:Int)(x12:Int)(x13:Int)(x14:Int)(x15:Int)(x16:LI)(x17:LI)(x18:Int):Option (LI×LI×Unit):=
 cond (decide (x18<16))
  ((q7a F x2 x3 x4 x5 x6 x7 x8 x9 x10 x11 x12 x13 x14 x15 x16 x17 x18).bind fun r1926=>
  cond ((decide (0≤x18))&&(decide (x18<16)))
   (let n1928:Nat:=((y6 x18)*4)
   rec x0 (((y8 n1928 x1)++r1926.1)++(y9 (n1928+4) x1)) x2 x3 x4 x5 x6 x7 x8 x9 x10 x11 x12 x13 x14 x15 x16 x17 (y0 .i64 (x18+1)))
    none)
  (some (x0,x1,()))
def q3c(F:Nat):Nat→LI→LI→LI→Int→Int→Int→Int→Int→Int→Int→Int→Int→Int→Int→Int→Int→LI→LI→Int→Option (LI×LI×Unit)
 |0,_,_,_,_,_,_,_,_,_,_,_,_,_,_,_,_,_,_,_=>none
 |k+1,x0,x1,x2,x3,x4,x5,x6,x7,x8,x9,x10,x11,x12,x13,x14,x15,x16,x17,x18=>qa4 F (q3c F k) x0 x1 x2 x3 x4 x5 x6 x7 x8 x9 x10 x11 x12 x13 x14 x15 x16 x17 x18
def qbq(F:Nat)(a0:LI):Option (LI×Int×Unit):=
 cond ((((ya a0):Nat):Int) !=16)
  (some (q03,1,()))
  ((qn9 F a0).bind fun r295=>
  cond (r295.1==8)
   (some (q03,0,()))
   ((qna F a0 r295.1).bind fun r1620=>
   (q3c F F q03 q03 r1620.2.2.2.2.2.2.2.2.2.2.2.2.2.1 r1620.1 r1620.2.1 r1620.2.2.1 r1620.2.2.2.1 r1620.2.2.2.2.1 r1620.2.2.2.2.2.1 r1620.2.2.2.2.2.2.1 r1620.2.2.2.2.2.2.2.1 r1620.2.2.2.2.2.2.2.2.1 r1620.2.2.2.2.2.2.2.2.2.1 r1620.2.2.2.2.2.2.2.2.2.2.1 r1620.2.2.2.2.2.2.2.2.2.2.2.1 r1620.2.2.2.2.2.2.2.2.2.2.2.2.1 r1620.2.2.2.2.2.2.2.2.2.2.2.2.2.2.1 r1620.2.2.2.2.2.2.2.2.2.2.2.2.2.2.2.1 0).bind fun r1931=>
   some (r1931.2.1,0,())))
def qgw(F:Nat)(rec:LI→Int→Option ((Int×Unit)⊕Unit))(x0:LI)(x1:Int):Option ((Int×Unit)⊕Unit):=
 cond (decide (x1<8))
  ((q2m F x0 x1 1).bind fun r2052=>
  cond (r2052.1==1)
   (some (.inl (x1,())))
   (rec x0 (y0 .i64 (x1+1))))
  (some (.inr ()))
def q6g(F:Nat):Nat→LI→Int→Option ((Int×Unit)⊕Unit)
 |0,_,_=>none
 |k+1,x0,x1=>qgw F (q6g F k) x0 x1
def z0o(F:Nat)(a0:LI):Option (Int×Unit):=
 cond ((((ya a0):Nat):Int) !=16)
  (some (8,()))
  ((q6g F F a0 0).bind fun r2055=>match r2055 with
   | .inl r2055=>(some (r2055.1,()))
   | .inr r2055=>(some (8,())))
def z4i(F:Nat):Option (LI×Unit):=
 some (bctable_ModesT298,())
def q0o(F:Nat)(a0:LI)(a1:Int)(a2:Int):Option (Int×LI×Int×Unit):=
 (q2m F a0 a1 a2).bind fun r2081=>
 some (r2081.1,a0,(y0 .i64 (a1+a2)),())
def q8x(F:Nat)(a0:Int)(a1:Int)(a2:Int)(a3:Int):Option (Int×Unit):=
 (qjs F a3).bind fun r3032=>
 let n3033:Nat:=(ya r3032.1)
 cond ((decide (0≤a2))&&(decide (a2<((n3033:Nat):Int))))
  ((qhg F a0 a1 (y7 r3032.1 (y6 a2) 0) 64 32).bind fun r3047=>
  some (r3047.1,()))
   none
def qcc(F:Nat)(rec:LI→LI→Int→Int→Int→Int→Int→Int→Int→Int→Int→Int→LI→Int→Int→Int→Int→LI→Int→Int→Int→Option (LI×LI×Int×Int×Int×Int×Int×Int×Int×Int×Int×Int×LI×Int×Int×Int×Int×LI×Int×Unit))(x0:LI)(x1:LI)(x2:Int)(x3:Int)(x4:Int)(x5:Int)(x6:Int)(x7:Int)(x8:Int)(x9:Int)(x10:Int)(x11:Int)(x12:LI)(x13:Int)(x14:Int)(x15:Int)(x16:Int)(x17:LI)(x18:Int)(x19:Int)(x20:Int):Option (LI×LI×Int×Int×Int×Int×Int×Int×Int×Int×Int×Int×LI×Int×Int×Int×Int×LI×Int×Unit):=
 let n4319:Nat:=((ya x17)/4)
 let v4321:Int:=((n4319:Nat):Int)
 cond (decide (x20<v4321))
  (cond ((decide (0≤x20))&&(decide (x20<((n4319:Nat):Int))))
   ((q0o F x12 x13 x19).bind fun r4325=>
   cond ((decide (0≤x18))&&(decide (x18<4)))
    (rec x0 x1 x2 x3 x4 x5 x6 x7 x8 x9 x10 x11 r4325.2.1 r4325.2.2.1 x14 x15 x16 (yy x17 (((y6 x20)*4)+(y6 x18)) r4325.1) x18 x19 (y0 .i64 (x20+1)))
     none)
    none)
  (some (x0,x1,x2,x3,x4,x5,x6,x7,x8,x9,x10,x11,x12,x13,x14,x15,x16,x17,x18,()))
def q43(F:Nat):Nat→LI→LI→Int→Int→Int→Int→Int→Int→Int→Int→Int→Int→LI→Int→Int→Int→Int→LI→Int→Int→Int→Option (LI×LI×Int×Int×Int×Int×Int×Int×Int×Int×Int×Int×LI×Int×Int×Int×Int×LI×Int×Unit)
 |0,_,_,_,_,_,_,_,_,_,_,_,_,_,_,_,_,_,_,_,_,_=>none
 |k+1,x0,x1,x2,x3,x4,x5,x6,x7,x8,x9,x10,x11,x12,x13,x14,x15,x16,x17,x18,x19,x20=>qcc F (q43 F k) x0 x1 x2 x3 x4 x5 x6 x7 x8 x9 x10 x11 x12 x13 x14 x15 x16 x17 x18 x19 x20
def qcd(F:Nat)(rec:LI→LI→Int→Int→Int→Int→Int→Int→Int→Int→Int→Int→LI→Int→Int→Int→Int→LI→Int→Option (LI×LI×Int×Int×Int×Int×Int×Int×Int×Int×Int×Int×LI×Int×Int×Int×Int×LI×Unit))(x0:LI)(x1:LI)(x2:Int)(x3:Int)(x4:Int)(x5:Int)(x6:Int)(x7:Int)(x8:Int)(x9:Int)(x10:Int)(x11:Int)(x12:LI)(x13:Int)(x14:Int)(x15:Int)(x16:Int)(x17:LI)(x18:Int):Option (LI×LI×Int×Int×Int×Int×Int×Int×Int×Int×Int×Int×LI×Int×Int×Int×Int×LI×Unit):=
 cond (decide (x18<4))
  (cond (x18==3)
   ((q43 F F x0 x1 x2 x3 x4 x5 x6 x7 x8 x9 x10 x11 x12 x13 x14 x15 x16 x17 x18 x7 0).bind fun r4331=>
   rec r4331.1 r4331.2.1 r4331.2.2.1 r4331.2.2.2.1 r4331.2.2.2.2.1 r4331.2.2.2.2.2.1 r4331.2.2.2.2.2.2.1 r4331.2.2.2.2.2.2.2.1 r4331.2.2.2.2.2.2.2.2.1 r4331.2.2.2.2.2.2.2.2.2.1 r4331.2.2.2.2.2.2.2.2.2.2.1 r4331.2.2.2.2.2.2.2.2.2.2.2.1 r4331.2.2.2.2.2.2.2.2.2.2.2.2.1 r4331.2.2.2.2.2.2.2.2.2.2.2.2.2.1 r4331.2.2.2.2.2.2.2.2.2.2.2.2.2.2.1 r4331.2.2.2.2.2.2.2.2.2.2.2.2.2.2.2.1 r4331.2.2.2.2.2.2.2.2.2.2.2.2.2.2.2.2.1 r4331.2.2.2.2.2.2.2.2.2.2.2.2.2.2.2.2.2.1 (y0 .i64 (r4331.2.2.2.2.2.2.2.2.2.2.2.2.2.2.2.2.2.2.1+1)))
   ((q43 F F x0 x1 x2 x3 x4 x5 x6 x7 x8 x9 x10 x11 x12 x13 x14 x15 x16 x17 x18 x6 0).bind fun r4347=>
   rec r4347.1 r4347.2.1 r4347.2.2.1 r4347.2.2.2.1 r4347.2.2.2.2.1 r4347.2.2.2.2.2.1 r4347.2.2.2.2.2.2.1 r4347.2.2.2.2.2.2.2.1 r4347.2.2.2.2.2.2.2.2.1 r4347.2.2.2.2.2.2.2.2.2.1 r4347.2.2.2.2.2.2.2.2.2.2.1 r4347.2.2.2.2.2.2.2.2.2.2.2.1 r4347.2.2.2.2.2.2.2.2.2.2.2.2.1 r4347.2.2.2.2.2.2.2.2.2.2.2.2.2.1 r4347.2.2.2.2.2.2.2.2.2.2.2.2.2.2.1 r4347.2.2.2.2.2.2.2.2.2.2.2.2.2.2.2.1 r4347.2.2.2.2.2.2.2.2.2.2.2.2.2.2.2.2.1 r4347.2.2.2.2.2.2.2.2.2.2.2.2.2.2.2.2.2.1 (y0 .i64 (r4347.2.2.2.2.2.2.2.2.2.2.2.2.2.2.2.2.2.2.1+1))))
  (some (x0,x1,x2,x3,x4,x5,x6,x7,x8,x9,x10,x11,x12,x13,x14,x15,x16,x17,()))
def q2p(F:Nat):Nat→LI→LI→Int→Int→Int→Int→Int→Int→Int→Int→Int→Int→LI→Int→Int→Int→Int→LI→Int→Option (LI×LI×Int×Int×Int×Int×Int×Int×Int×Int×Int×Int×LI×Int×Int×Int×Int×LI×Unit)
 |0,_,_,_,_,_,_,_,_,_,_,_,_,_,_,_,_,_,_,_=>none
 |k+1,x0,x1,x2,x3,x4,x5,x6,x7,x8,x9,x10,x11,x12,x13,x14,x15,x16,x17,x18=>qcd F (q2p F k) x0 x1 x2 x3 x4 x5 x6 x7 x8 x9 x10 x11 x12 x13 x14 x15 x16 x17 x18
def qce(F:Nat)(rec:LI→LI→Int→Int→Int→Int→Int→Int→Int→Int→Int→Int→LI→Int→Int→Int→Int→LI→Int→Int→Int→Option (LI×LI×Int×Int×Int×Int×Int×Int×Int×Int×Int×Int×LI×Int×Int×Int×Int×LI×Int×Unit))(x0:LI)(x1:LI)(x2:Int)(x3:Int)(x4:Int)(x5:Int)(x6:Int)(x7:Int)(x8:Int)(x9:Int)(x10:Int)(x11:Int)(x12:LI)(x13:Int)(x14:Int)(x15:Int)(x16:Int)(x17:LI)(x18:Int)(x19:Int)(x20:Int):Option (LI×LI×Int×Int×Int×Int×Int×Int×Int×Int×Int×Int×LI×Int×Int×Int×Int×LI×Int×Unit):=
 let n4407:Nat:=((ya x17)/4)
 cond (decide (x20<4))
  (let b4410:Bool:=((decide (0≤x18))&&(decide (x18<((n4407:Nat):Int))))
  cond b4410
   (let b4412:Bool:=((decide (0≤x20))&&(decide (x20<4)))
   cond b4412
    (let n4413:Nat:=(((y6 x18)*4)+(y6 x20))
    cond b4410
     (cond b4412
      (rec x0 x1 x2 x3 x4 x5 x6 x7 x8 x9 x10 x11 x12 x13 x14 x15 x16 (yy x17 n4413 (y0 .i64 ((y0 .i64 (2*(y7 x17 n4413 0)))+x19))) x18 x19 (y0 .i64 (x20+1)))
       none)
      none)
     none)
    none)
  (some (x0,x1,x2,x3,x4,x5,x6,x7,x8,x9,x10,x11,x12,x13,x14,x15,x16,x17,x18,()))
def q44(F:Nat):Nat→LI→LI→Int→Int→Int→Int→Int→Int→Int→Int→Int→Int→LI→Int→Int→Int→Int→LI→Int→Int→Int→Option (LI×LI×Int×Int×Int×Int×Int×Int×Int×Int×Int×Int×LI×Int×Int×Int×Int×LI×Int×Unit)
 |0,_,_,_,_,_,_,_,_,_,_,_,_,_,_,_,_,_,_,_,_,_=>none
 |k+1,x0,x1,x2,x3,x4,x5,x6,x7,x8,x9,x10,x11,x12,x13,x14,x15,x16,x17,x18,x19,x20=>qce F (q44 F k) x0 x1 x2 x3 x4 x5 x6 x7 x8 x9 x10 x11 x12 x13 x14 x15 x16 x17 x18 x19 x20
def qcf(F:Nat)(rec:LI→LI→Int→Int→Int→Int→Int→Int→Int→Int→Int→Int→LI→Int→Int→Int→Int→LI→Int→Option (LI×LI×Int×Int×Int×Int×Int×Int×Int×Int×Int×Int×LI×Int×Int×Int×Int×LI×Unit))(x0:LI)(x1:LI)(x2:Int)(x3:Int)(x4:Int)(x5:Int)(x6:Int)(x7:Int)(x8:Int)(x9:Int)(x10:Int)(x11:Int)(x12:LI)(x13:Int)(x14:Int)(x15:Int)(x16:Int)(x17:LI)(x18:Int):Option (LI×LI×Int×Int×Int×Int×Int×Int×Int×Int×Int×Int×LI×Int×Int×Int×Int×LI×Unit):=
 let v4391:Int:=((((ya x17)/4):Nat):Int)
 cond (decide (x18<v4391))
  ((q0o F x12 x13 1).bind fun r4393=>
  (q44 F F x0 x1 x2 x3 x4 x5 x6 x7 x8 x9 x10 x11 r4393.2.1 r4393.2.2.1 x14 x15 x16 x17 x18 r4393.1 0).bind fun r4419=>
  rec r4419.1 r4419.2.1 r4419.2.2.1 r4419.2.2.2.1 r4419.2.2.2.2.1 r4419.2.2.2.2.2.1 r4419.2.2.2.2.2.2.1 r4419.2.2.2.2.2.2.2.1 r4419.2.2.2.2.2.2.2.2.1 r4419.2.2.2.2.2.2.2.2.2.1 r4419.2.2.2.2.2.2.2.2.2.2.1 r4419.2.2.2.2.2.2.2.2.2.2.2.1 r4419.2.2.2.2.2.2.2.2.2.2.2.2.1 r4419.2.2.2.2.2.2.2.2.2.2.2.2.2.1 r4419.2.2.2.2.2.2.2.2.2.2.2.2.2.2.1 r4419.2.2.2.2.2.2.2.2.2.2.2.2.2.2.2.1 r4419.2.2.2.2.2.2.2.2.2.2.2.2.2.2.2.2.1 r4419.2.2.2.2.2.2.2.2.2.2.2.2.2.2.2.2.2.1 (y0 .i64 (r4419.2.2.2.2.2.2.2.2.2.2.2.2.2.2.2.2.2.2.1+1)))
  (some (x0,x1,x2,x3,x4,x5,x6,x7,x8,x9,x10,x11,x12,x13,x14,x15,x16,x17,()))
def q5o(F:Nat):Nat→LI→LI→Int→Int→Int→Int→Int→Int→Int→Int→Int→Int→LI→Int→Int→Int→Int→LI→Int→Option (LI×LI×Int×Int×Int×Int×Int×Int×Int×Int×Int×Int×LI×Int×Int×Int×Int×LI×Unit)
 |0,_,_,_,_,_,_,_,_,_,_,_,_,_,_,_,_,_,_,_=>none
 |k+1,x0,x1,x2,x3,x4,x5,x6,x7,x8,x9,x10,x11,x12,x13,x14,x15,x16,x17,x18=>qcf F (q5o F k) x0 x1 x2 x3 x4 x5 x6 x7 x8 x9 x10 x11 x12 x13 x14 x15 x16 x17 x18
def qb2(F:Nat)(rec:LI→LI→Int→Int→Int→Int→Int→Int→Int→Int→Int→Int→LI→Int→Int→Int→Int→LI→Int→Int→Int→Option (LI×LI×Int×Int×Int×Int×Int×Int×Int×Int×Int×Int×LI×Int×Int×Int×Int×LI×Int×Unit))(x0:LI)(x1:LI)(x2:Int)(x3:Int)(x4:Int)(x5:Int)(x6:Int)(x7:Int)(x8:Int)(x9:Int)(x10:Int)(x11:Int)(x12:LI)(x13:Int)(x14:Int)(x15:Int)(x16:Int)(x17:LI)(x18:Int)(x19:Int)(x20:Int):Option (LI×LI×Int×Int×Int×Int×Int×Int×Int×Int×Int×Int×LI×Int×Int×Int×Int×LI×Int×Unit):=
 let n4503:Nat:=((ya x17)/4)
 cond (decide (x20<4))
  (let b4506:Bool:=((decide (0≤x18))&&(decide (x18<((n4503:Nat):Int))))
  cond b4506
   (let b4508:Bool:=((decide (0≤x20))&&(decide (x20<4)))
   cond b4508
    (let n4509:Nat:=(((y6 x18)*4)+(y6 x20))
    cond b4506
     (cond b4508
      (let l4513:LI:=(yy x17 n4509 (y0 .i64 ((y0 .i64 (2*(y7 x17 n4509 0)))+x19)))
      let v4514:Int:=(y0 .i64 (x18+1))
      let b4515:Bool:=((decide (0≤v4514))&&(decide (v4514<((n4503:Nat):Int))))
      cond b4515
       (cond b4508
        (let n4517:Nat:=(((y6 v4514)*4)+(y6 x20))
        cond b4515
         (cond b4508
          (rec x0 x1 x2 x3 x4 x5 x6 x7 x8 x9 x10 x11 x12 x13 x14 x15 x16 (yy l4513 n4517 (y0 .i64 ((y0 .i64 (2*(y7 l4513 n4517 0)))+x19))) x18 x19 (y0 .i64 (x20+1)))
           none)
          none)
         none)
        none)
       none)
      none)
     none)
    none)
  (some (x0,x1,x2,x3,x4,x5,x6,x7,x8,x9,x10,x11,x12,x13,x14,x15,x16,x17,x18,()))
def q2x(F:Nat):Nat→LI→LI→Int→Int→Int→Int→Int→Int→Int→Int→Int→Int→LI→Int→Int→Int→Int→LI→Int→Int→Int→Option (LI×LI×Int×Int×Int×Int×Int×Int×Int×Int×Int×Int×LI×Int×Int×Int×Int×LI×Int×Unit)
 |0,_,_,_,_,_,_,_,_,_,_,_,_,_,_,_,_,_,_,_,_,_=>none
 |k+1,x0,x1,x2,x3,x4,x5,x6,x7,x8,x9,x10,x11,x12,x13,x14,x15,x16,x17,x18,x19,x20=>qb2 F (q2x F k) x0 x1 x2 x3 x4 x5 x6 x7 x8 x9 x10 x11 x12 x13 x14 x15 x16 x17 x18 x19 x20
def qcg(F:Nat)(rec:LI→LI→Int→Int→Int→Int→Int→Int→Int→Int→Int→Int→LI→Int→Int→Int→Int→LI→Int→Option (LI×LI×Int×Int×Int×Int×Int×Int×Int×Int×Int×Int×LI×Int×Int×Int×Int×LI×Unit))(x0:LI)(x1:LI)(x2:Int)(x3:Int)(x4:Int)(x5:Int)(x6:Int)(x7:Int)(x8:Int)(x9:Int)(x10:Int)(x11:Int)(x12:LI)(x13:Int)(x14:Int)(x15:Int)(x16:Int)(x17:LI)(x18:Int):Option (LI×LI×Int×Int×Int×Int×Int×Int×Int×Int×Int×Int×LI×Int×Int×Int×Int×LI×Unit):=
 let v4479:Int:=((((ya x17)/4):Nat):Int)
 cond (decide (x18<v4479))
  ((q0o F x12 x13 1).bind fun r4481=>
  (q2x F F x0 x1 x2 x3 x4 x5 x6 x7 x8 x9 x10 x11 r4481.2.1 r4481.2.2.1 x14 x15 x16 x17 x18 r4481.1 0).bind fun r4523=>
  rec r4523.1 r4523.2.1 r4523.2.2.1 r4523.2.2.2.1 r4523.2.2.2.2.1 r4523.2.2.2.2.2.1 r4523.2.2.2.2.2.2.1 r4523.2.2.2.2.2.2.2.1 r4523.2.2.2.2.2.2.2.2.1 r4523.2.2.2.2.2.2.2.2.2.1 r4523.2.2.2.2.2.2.2.2.2.2.1 r4523.2.2.2.2.2.2.2.2.2.2.2.1 r4523.2.2.2.2.2.2.2.2.2.2.2.2.1 r4523.2.2.2.2.2.2.2.2.2.2.2.2.2.1 r4523.2.2.2.2.2.2.2.2.2.2.2.2.2.2.1 r4523.2.2.2.2.2.2.2.2.2.2.2.2.2.2.2.1 r4523.2.2.2.2.2.2.2.2.2.2.2.2.2.2.2.2.1 r4523.2.2.2.2.2.2.2.2.2.2.2.2.2.2.2.2.2.1 (y0 .i64 (r4523.2.2.2.2.2.2.2.2.2.2.2.2.2.2.2.2.2.2.1+2)))
  (some (x0,x1,x2,x3,x4,x5,x6,x7,x8,x9,x10,x11,x12,x13,x14,x15,x16,x17,()))
def q45(F:Nat):Nat→LI→LI→Int→Int→Int→Int→Int→Int→Int→Int→Int→Int→LI→Int→Int→Int→Int→LI→Int→Option (LI×LI×Int×Int×Int×Int×Int×Int×Int×Int×Int×Int×LI×Int×Int×Int×Int×LI×Unit)
 |0,_,_,_,_,_,_,_,_,_,_,_,_,_,_,_,_,_,_,_=>none
 |k+1,x0,x1,x2,x3,x4,x5,x6,x7,x8,x9,x10,x11,x12,x13,x14,x15,x16,x17,x18=>qcg F (q45 F k) x0 x1 x2 x3 x4 x5 x6 x7 x8 x9 x10 x11 x12 x13 x14 x15 x16 x17 x18
def qb3(F:Nat)(rec:LI→LI→Int→Int→Int→Int→Int→Int→Int→Int→Int→Int→LI→Int→Int→Int→Int→LI→Int→Int→Int→Option (LI×LI×Int×Int×Int×Int×Int×Int×Int×Int×Int×Int×LI×Int×Int×Int×Int×LI×Int×Int×Unit))(x0:LI)(x1:LI)(x2:Int)(x3:Int)(x4:Int)(x5:Int)(x6:Int)(x7:Int)(x8:Int)(x9:Int)(x10:Int)(x11:Int)(x12:LI)(x13:Int)(x14:Int)(x15:Int)(x16:Int)(x17:LI)(x18:Int)(x19:Int)(x20:Int):Option (LI×LI×Int×Int×Int×Int×Int×Int×Int×Int×Int×Int×LI×Int×Int×Int×Int×LI×Int×Int×Unit):=
 let n4591:Nat:=((ya x17)/4)
 cond (decide (x20<3))
  (let b4594:Bool:=((decide (0≤x19))&&(decide (x19<((n4591:Nat):Int))))
  cond b4594
   (let b4596:Bool:=((decide (0≤x20))&&(decide (x20<4)))
   cond b4596
    (let n4597:Nat:=(((y6 x19)*4)+(y6 x20))
    (q0e F (y7 x17 n4597 0) (y0 .i64 (x6+x18))).bind fun r4600=>
    cond b4594
     (cond b4596
      (rec x0 x1 x2 x3 x4 x5 x6 x7 x8 x9 x10 x11 x12 x13 x14 x15 x16 (yy x17 n4597 r4600.1) x18 x19 (y0 .i64 (x20+1)))
       none)
      none)
     none)
    none)
  (some (x0,x1,x2,x3,x4,x5,x6,x7,x8,x9,x10,x11,x12,x13,x14,x15,x16,x17,x18,x19,()))
def q2y(F:Nat):Nat→LI→LI→Int→Int→Int→Int→Int→Int→Int→Int→Int→Int→LI→Int→Int→Int→Int→LI→Int→Int→Int→Option (LI×LI×Int×Int×Int×Int×Int×Int×Int×Int×Int×Int×LI×Int×Int×Int×Int×LI×Int×Int×Unit)
 |0,_,_,_,_,_,_,_,_,_,_,_,_,_,_,_,_,_,_,_,_,_=>none
 |k+1,x0,x1,x2,x3,x4,x5,x6,x7,x8,x9,x10,x11,x12,x13,x14,x15,x16,x17,x18,x19,x20=>qb3 F (q2y F k) x0 x1 x2 x3 x4 x5 x6 x7 x8 x9 x10 x11 x12 x13 x14 x15 x16 x17 x18 x19 x20
def qb4(F:Nat)(rec:LI→LI→Int→Int→Int→Int→Int→Int→Int→Int→Int→Int→LI→Int→Int→Int→Int→LI→Int→Int→Option (LI×LI×Int×Int×Int×Int×Int×Int×Int×Int×Int×Int×LI×Int×Int×Int×Int×LI×Unit))(x0:LI)(x1:LI)(x2:Int)(x3:Int)(x4:Int)(x5:Int)(x6:Int)(x7:Int)(x8:Int)(x9:Int)(x10:Int)(x11:Int)(x12:LI)(x13:Int)(x14:Int)(x15:Int)(x16:Int)(x17:LI)(x18:Int)(x19:Int):Option (LI×LI×Int×Int×Int×Int×Int×Int×Int×Int×Int×Int×LI×Int×Int×Int×Int×LI×Unit):=
 let v4577:Int:=((((ya x17)/4):Nat):Int)
 cond (decide (x19<v4577))
  ((q2y F F x0 x1 x2 x3 x4 x5 x6 x7 x8 x9 x10 x11 x12 x13 x14 x15 x16 x17 x18 x19 0).bind fun r4603=>
  let n4604:Nat:=((ya r4603.2.2.2.2.2.2.2.2.2.2.2.2.2.2.2.2.2.1)/4)
  cond (r4603.2.2.2.2.2.2.2.1==0)
   (cond ((decide (0≤r4603.2.2.2.2.2.2.2.2.2.2.2.2.2.2.2.2.2.2.2.1))&&(decide (r4603.2.2.2.2.2.2.2.2.2.2.2.2.2.2.2.2.2.2.2.1<((n4604:Nat):Int))))
    (rec r4603.1 r4603.2.1 r4603.2.2.1 r4603.2.2.2.1 r4603.2.2.2.2.1 r4603.2.2.2.2.2.1 r4603.2.2.2.2.2.2.1 r4603.2.2.2.2.2.2.2.1 r4603.2.2.2.2.2.2.2.2.1 r4603.2.2.2.2.2.2.2.2.2.1 r4603.2.2.2.2.2.2.2.2.2.2.1 r4603.2.2.2.2.2.2.2.2.2.2.2.1 r4603.2.2.2.2.2.2.2.2.2.2.2.2.1 r4603.2.2.2.2.2.2.2.2.2.2.2.2.2.1 r4603.2.2.2.2.2.2.2.2.2.2.2.2.2.2.1 r4603.2.2.2.2.2.2.2.2.2.2.2.2.2.2.2.1 r4603.2.2.2.2.2.2.2.2.2.2.2.2.2.2.2.2.1 (yy r4603.2.2.2.2.2.2.2.2.2.2.2.2.2.2.2.2.2.1 (3+((y6 r4603.2.2.2.2.2.2.2.2.2.2.2.2.2.2.2.2.2.2.2.1)*4)) 255) r4603.2.2.2.2.2.2.2.2.2.2.2.2.2.2.2.2.2.2.1 (y0 .i64 (r4603.2.2.2.2.2.2.2.2.2.2.2.2.2.2.2.2.2.2.2.1+1)))
     none)
   (let b4612:Bool:=((decide (0≤r4603.2.2.2.2.2.2.2.2.2.2.2.2.2.2.2.2.2.2.2.1))&&(decide (r4603.2.2.2.2.2.2.2.2.2.2.2.2.2.2.2.2.2.2.2.1<((n4604:Nat):Int))))
   cond b4612
    (let n4614:Nat:=(3+((y6 r4603.2.2.2.2.2.2.2.2.2.2.2.2.2.2.2.2.2.2.2.1)*4))
    (q0e F (y7 r4603.2.2.2.2.2.2.2.2.2.2.2.2.2.2.2.2.2.1 n4614 0) (y0 .i64 (r4603.2.2.2.2.2.2.2.1+r4603.2.2.2.2.2.2.2.2.2.2.2.2.2.2.2.2.2.2.1))).bind fun r4617=>
    cond b4612
     (rec r4603.1 r4603.2.1 r4603.2.2.1 r4603.2.2.2.1 r4603.2.2.2.2.1 r4603.2.2.2.2.2.1 r4603.2.2.2.2.2.2.1 r4603.2.2.2.2.2.2.2.1 r4603.2.2.2.2.2.2.2.2.1 r4603.2.2.2.2.2.2.2.2.2.1 r4603.2.2.2.2.2.2.2.2.2.2.1 r4603.2.2.2.2.2.2.2.2.2.2.2.1 r4603.2.2.2.2.2.2.2.2.2.2.2.2.1 r4603.2.2.2.2.2.2.2.2.2.2.2.2.2.1 r4603.2.2.2.2.2.2.2.2.2.2.2.2.2.2.1 r4603.2.2.2.2.2.2.2.2.2.2.2.2.2.2.2.1 r4603.2.2.2.2.2.2.2.2.2.2.2.2.2.2.2.2.1 (yy r4603.2.2.2.2.2.2.2.2.2.2.2.2.2.2.2.2.2.1 n4614 r4617.1) r4603.2.2.2.2.2.2.2.2.2.2.2.2.2.2.2.2.2.2.1 (y0 .i64 (r4603.2.2.2.2.2.2.2.2.2.2.2.2.2.2.2.2.2.2.2.1+1)))
      none)
     none))
  (some (x0,x1,x2,x3,x4,x5,x6,x7,x8,x9,x10,x11,x12,x13,x14,x15,x16,x17,()))
def q1t(F:Nat):Nat→LI→LI→Int→Int→Int→Int→Int→Int→Int→Int→Int→Int→LI→Int→Int→Int→Int→LI→Int→Int→Option (LI×LI×Int×Int×Int×Int×Int×Int×Int×Int×Int×Int×LI×Int×Int×Int×Int×LI×Unit)
 |0,_,_,_,_,_,_,_,_,_,_,_,_,_,_,_,_,_,_,_,_=>none
 |k+1,x0,x1,x2,x3,x4,x5,x6,x7,x8,x9,x10,x11,x12,x13,x14,x15,x16,x17,x18,x19=>qb4 F (q1t F k) x0 x1 x2 x3 x4 x5 x6 x7 x8 x9 x10 x11 x12 x13 x14 x15 x16 x17 x18 x19
def qb5(F:Nat)(rec:LI→LI→Int→Int→Int→Int→Int→Int→Int→Int→Int→Int→LI→Int→Int→Int→Int→LI→LI→LI→Int→Int→Int→Option (LI×LI×Int×Int×Int×Int×Int×Int×Int×Int×Int×Int×LI×Int×Int×Int×Int×LI×LI×LI×Int×Int×Unit))(x0:LI)(x1:LI)(x2:Int)(x3:Int)(x4:Int)(x5:Int)(x6:Int)(x7:Int)(x8:Int)(x9:Int)(x10:Int)(x11:Int)(x12:LI)(x13:Int)(x14:Int)(x15:Int)(x16:Int)(x17:LI)(x18:LI)(x19:LI)(x20:Int)(x21:Int)(x22:Int):Option (LI×LI×Int×Int×Int×Int×Int×Int×Int×Int×Int×Int×LI×Int×Int×Int×Int×LI×LI×LI×Int×Int×Unit):=
 cond (decide (x22<x2))
  ((qhi F x2 x14 x22).bind fun r4682=>
  cond (r4682.1==x20)
   (rec x0 x1 x2 x3 x4 x5 x6 x7 x8 x9 x10 x11 x12 x13 x14 x15 x16 x17 x18 x19 x20 1 (y0 .i64 (x22+1)))
   (rec x0 x1 x2 x3 x4 x5 x6 x7 x8 x9 x10 x11 x12 x13 x14 x15 x16 x17 x18 x19 x20 x21 (y0 .i64 (x22+1))))
  (some (x0,x1,x2,x3,x4,x5,x6,x7,x8,x9,x10,x11,x12,x13,x14,x15,x16,x17,x18,x19,x20,x21,()))
def q1u(F:Nat):Nat→LI→LI→Int→Int→Int→Int→Int→Int→Int→Int→Int→Int→LI→Int→Int→Int→Int→LI→LI→LI→Int→Int→Int→Option (LI×LI×Int×Int×Int×Int×Int×Int×Int×Int×Int×Int×LI×Int×Int×Int×Int×LI×LI×LI×Int×Int×Unit)
 |0,_,_,_,_,_,_,_,_,_,_,_,_,_,_,_,_,_,_,_,_,_,_,_=>none
 |k+1,x0,x1,x2,x3,x4,x5,x6,x7,x8,x9,x10,x11,x12,x13,x14,x15,x16,x17,x18,x19,x20,x21,x22=>qb5 F (q1u F k) x0 x1 x2 x3 x4 x5 x6 x7 x8 x9 x10 x11 x12 x13 x14 x15 x16 x17 x18 x19 x20 x21 x22
def qb6(F:Nat)(rec:LI→LI→Int→Int→Int→Int→Int→Int→Int→Int→Int→Int→LI→Int→Int→Int→Int→LI→LI→LI→Int→Option (LI×LI×Int×Int×Int×Int×Int×Int×Int×Int×Int×Int×LI×Int×Int×Int×Int×LI×LI×LI×Unit))(x0:LI)(x1:LI)(x2:Int)(x3:Int)(x4:Int)(x5:Int)(x6:Int)(x7:Int)(x8:Int)(x9:Int)(x10:Int)(x11:Int)(x12:LI)(x13:Int)(x14:Int)(x15:Int)(x16:Int)(x17:LI)(x18:LI)(x19:LI)(x20:Int):Option (LI×LI×Int×Int×Int×Int×Int×Int×Int×Int×Int×Int×LI×Int×Int×Int×Int×LI×LI×LI×Unit):=
 cond (decide (x20<16))
  (cond (x20==0)
   ((q1u F F x0 x1 x2 x3 x4 x5 x6 x7 x8 x9 x10 x11 x12 x13 x14 x15 x16 x17 x18 x19 x20 1 1).bind fun r4686=>
   (q0o F r4686.2.2.2.2.2.2.2.2.2.2.2.2.1 r4686.2.2.2.2.2.2.2.2.2.2.2.2.2.1 (y0 .i64 (r4686.2.2.2.2.2.2.2.2.2.2.1-r4686.2.2.2.2.2.2.2.2.2.2.2.2.2.2.2.2.2.2.2.2.2.1))).bind fun r4690=>
   cond ((decide (0≤r4686.2.2.2.2.2.2.2.2.2.2.2.2.2.2.2.2.2.2.2.2.1))&&(decide (r4686.2.2.2.2.2.2.2.2.2.2.2.2.2.2.2.2.2.2.2.2.1<16)))
    (rec r4686.1 r4686.2.1 r4686.2.2.1 r4686.2.2.2.1 r4686.2.2.2.2.1 r4686.2.2.2.2.2.1 r4686.2.2.2.2.2.2.1 r4686.2.2.2.2.2.2.2.1 r4686.2.2.2.2.2.2.2.2.1 r4686.2.2.2.2.2.2.2.2.2.1 r4686.2.2.2.2.2.2.2.2.2.2.1 r4686.2.2.2.2.2.2.2.2.2.2.2.1 r4690.2.1 r4690.2.2.1 r4686.2.2.2.2.2.2.2.2.2.2.2.2.2.2.1 r4686.2.2.2.2.2.2.2.2.2.2.2.2.2.2.2.1 r4686.2.2.2.2.2.2.2.2.2.2.2.2.2.2.2.2.1 r4686.2.2.2.2.2.2.2.2.2.2.2.2.2.2.2.2.2.1 (yy r4686.2.2.2.2.2.2.2.2.2.2.2.2.2.2.2.2.2.2.1 (y6 r4686.2.2.2.2.2.2.2.2.2.2.2.2.2.2.2.2.2.2.2.2.1) r4690.1) r4686.2.2.2.2.2.2.2.2.2.2.2.2.2.2.2.2.2.2.2.1 (y0 .i64 (r4686.2.2.2.2.2.2.2.2.2.2.2.2.2.2.2.2.2.2.2.2.1+1)))
     none)
   ((q1u F F x0 x1 x2 x3 x4 x5 x6 x7 x8 x9 x10 x11 x12 x13 x14 x15 x16 x17 x18 x19 x20 0 1).bind fun r4703=>
   (q0o F r4703.2.2.2.2.2.2.2.2.2.2.2.2.1 r4703.2.2.2.2.2.2.2.2.2.2.2.2.2.1 (y0 .i64 (r4703.2.2.2.2.2.2.2.2.2.2.1-r4703.2.2.2.2.2.2.2.2.2.2.2.2.2.2.2.2.2.2.2.2.2.1))).bind fun r4707=>
   cond ((decide (0≤r4703.2.2.2.2.2.2.2.2.2.2.2.2.2.2.2.2.2.2.2.2.1))&&(decide (r4703.2.2.2.2.2.2.2.2.2.2.2.2.2.2.2.2.2.2.2.2.1<16)))
    (rec r4703.1 r4703.2.1 r4703.2.2.1 r4703.2.2.2.1 r4703.2.2.2.2.1 r4703.2.2.2.2.2.1 r4703.2.2.2.2.2.2.1 r4703.2.2.2.2.2.2.2.1 r4703.2.2.2.2.2.2.2.2.1 r4703.2.2.2.2.2.2.2.2.2.1 r4703.2.2.2.2.2.2.2.2.2.2.1 r4703.2.2.2.2.2.2.2.2.2.2.2.1 r4707.2.1 r4707.2.2.1 r4703.2.2.2.2.2.2.2.2.2.2.2.2.2.2.1 r4703.2.2.2.2.2.2.2.2.2.2.2.2.2.2.2.1 r4703.2.2.2.2.2.2.2.2.2.2.2.2.2.2.2.2.1 r4703.2.2.2.2.2.2.2.2.2.2.2.2.2.2.2.2.2.1 (yy r4703.2.2.2.2.2.2.2.2.2.2.2.2.2.2.2.2.2.2.1 (y6 r4703.2.2.2.2.2.2.2.2.2.2.2.2.2.2.2.2.2.2.2.2.1) r4707.1) r4703.2.2.2.2.2.2.2.2.2.2.2.2.2.2.2.2.2.2.2.1 (y0 .i64 (r4703.2.2.2.2.2.2.2.2.2.2.2.2.2.2.2.2.2.2.2.2.1+1)))
     none))
  (some (x0,x1,x2,x3,x4,x5,x6,x7,x8,x9,x10,x11,x12,x13,x14,x15,x16,x17,x18,x19,()))
def q1v(F:Nat):Nat→LI→LI→Int→Int→Int→Int→Int→Int→Int→Int→Int→Int→LI→Int→Int→Int→Int→LI→LI→LI→Int→Option (LI×LI×Int×Int×Int×Int×Int×Int×Int×Int×Int×Int×LI×Int×Int×Int×Int×LI×LI×LI×Unit)
 |0,_,_,_,_,_,_,_,_,_,_,_,_,_,_,_,_,_,_,_,_,_=>none
 |k+1,x0,x1,x2,x3,x4,x5,x6,x7,x8,x9,x10,x11,x12,x13,x14,x15,x16,x17,x18,x19,x20=>qb6 F (q1v F k) x0 x1 x2 x3 x4 x5 x6 x7 x8 x9 x10 x11 x12 x13 x14 x15 x16 x17 x18 x19 x20
def q7l(F:Nat)(rec:LI→LI→Int→Int→Int→Int→Int→Int→Int→Int→Int→Int→LI→Int→Int→Int→Int→LI→LI→LI→Int→Option (LI×LI×Int×Int×Int×Int×Int×Int×Int×Int×Int×Int×Int×Int×Int×LI×LI×LI×Unit))(x0:LI)(x1:LI)(x2:Int)(x3:Int)(x4:Int)(x5:Int)(x6:Int)(x7:Int)(x8:Int)(x9:Int)(x10:Int)(x11:Int)(x12:LI)(x13:Int)(x14:Int)(x15:Int)(x16:Int)(x17:LI)(x18:LI)(x19:LI)(x20:Int):Option (LI×LI×Int×Int×Int×Int×Int×Int×Int×Int×Int×Int×Int×Int×Int×LI×LI×LI×Unit):=
 cond (decide (x20<16))
  (cond (decide (0<x11))
   (cond (x20==0)
    ((q0o F x12 x13 (y0 .i64 (x11-1))).bind fun r4741=>
    cond ((decide (0≤x20))&&(decide (x20<16)))
     (rec x0 x1 x2 x3 x4 x5 x6 x7 x8 x9 x10 x11 r4741.2.1 r4741.2.2.1 x14 x15 x16 x17 x18 (yy x19 (y6 x20) r4741.1) (y0 .i64 (x20+1)))
      none)
    ((q0o F x12 x13 (y0 .i64 (x11-0))).bind fun r4748=>
    cond ((decide (0≤x20))&&(decide (x20<16)))
     (rec x0 x1 x2 x3 x4 x5 x6 x7 x8 x9 x10 x11 r4748.2.1 r4748.2.2.1 x14 x15 x16 x17 x18 (yy x19 (y6 x20) r4748.1) (y0 .i64 (x20+1)))
      none))
   (some (x0,x1,x2,x3,x4,x5,x6,x7,x8,x9,x10,x11,x14,x15,x16,x17,x18,x19,())))
  (some (x0,x1,x2,x3,x4,x5,x6,x7,x8,x9,x10,x11,x14,x15,x16,x17,x18,x19,()))
def q0w(F:Nat):Nat→LI→LI→Int→Int→Int→Int→Int→Int→Int→Int→Int→Int→LI→Int→Int→Int→Int→LI→LI→LI→Int→Option (LI×LI×Int×Int×Int×Int×Int×Int×Int×Int×Int×Int×Int×Int×Int×LI×LI×LI×Unit)
 |0,_,_,_,_,_,_,_,_,_,_,_,_,_,_,_,_,_,_,_,_,_=>none
 |k+1,x0,x1,x2,x3,x4,x5,x6,x7,x8,x9,x10,x11,x12,x13,x14,x15,x16,x17,x18,x19,x20=>q7l F (q0w F k) x0 x1 x2 x3 x4 x5 x6 x7 x8 x9 x10 x11 x12 x13 x14 x15 x16 x17 x18 x19 x20
def qb7(F:Nat)(rec:LI→LI→Int→Int→Int→Int→Int→Int→Int→Int→Int→Int→Int→Int→Int→LI→LI→LI→Int→LI→LI→Int→Int→Int→Int→Int→Option (LI×LI×Int×Int×Int×Int×Int×Int×Int×Int×Int×Int×Int×Int×Int×LI×LI×LI×Int×LI×LI×Int×Int×Unit))(x0:LI)(x1:LI)(x2:Int)(x3:Int)(x4:Int)(x5:Int)(x6:Int)(x7:Int)(x8:Int)(x9:Int)(x10:Int)(x11:Int)(x12:Int)(x13:Int)(x14:Int)(x15:LI)(x16:LI)(x17:LI)(x18:Int)(x19:LI)(x20:LI)(x21:Int)(x22:Int)(x23:Int)(x24:Int)(x25:Int):Option (LI×LI×Int×Int×Int×Int×Int×Int×Int×Int×Int×Int×Int×Int×Int×LI×LI×LI×Int×LI×LI×Int×Int×Unit):=
 cond (decide (x25<3))
  (let b4942:Bool:=((decide (0≤x25))&&(decide (x25<4)))
  cond b4942
   (cond b4942
    ((q8x F (y7 x19 (y6 x25) 0) (y7 x20 (y6 x25) 0) x21 x22).bind fun r4946=>
    cond ((decide (0≤x18))&&(decide (x18<16)))
     (cond b4942
      (rec x0 (yy x1 (((y6 x18)*4)+(y6 x25)) r4946.1) x2 x3 x4 x5 x6 x7 x8 x9 x10 x11 x12 x13 x14 x15 x16 x17 x18 x19 x20 x21 x22 x23 x24 (y0 .i64 (x25+1)))
       none)
      none)
     none)
    none)
  (some (x0,x1,x2,x3,x4,x5,x6,x7,x8,x9,x10,x11,x12,x13,x14,x15,x16,x17,x18,x19,x20,x23,x24,()))
def q0x(F:Nat):Nat→LI→LI→Int→Int→Int→Int→Int→Int→Int→Int→Int→Int→Int→Int→Int→LI→LI→LI→Int→LI→LI→Int→Int→Int→Int→Int→Option (LI×LI×Int×Int×Int×Int×Int×Int×Int×Int×Int×Int×Int×Int×Int×LI×LI×LI×Int×LI×LI×Int×Int×Unit)
 |0,_,_,_,_,_,_,_,_,_,_,_,_,_,_,_,_,_,_,_,_,_,_,_,_,_,_=>none
 |k+1,x0,x1,x2,x3,x4,x5,x6,x7,x8,x9,x10,x11,x12,x13,x14,x15,x16,x17,x18,x19,x20,x21,x22,x23,x24,x25=>qb7 F (q0x F k) x0 x1 x2 x3 x4 x5 x6 x7 x8 x9 x10 x11 x12 x13 x14 x15 x16 x17 x18 x19 x20 x21 x22 x23 x24 x25
def qb8(F:Nat)(rec:LI→LI→Int→Int→Int→Int→Int→Int→Int→Int→Int→Int→Int→Int→Int→LI→LI→LI→Int→Option (LI×LI×Unit))(x0:LI)(x1:LI)(x2:Int)(x3:Int)(x4:Int)(x5:Int)(x6:Int)(x7:Int)(x8:Int)(x9:Int)(x10:Int)(x11:Int)(x12:Int)(x13:Int)(x14:Int)(x15:LI)(x16:LI)(x17:LI)(x18:Int):Option (LI×LI×Unit):=
 let n4911:Nat:=((ya x15)/4)
 cond (decide (x18<16))
  ((qpi F x2 x12 x18).bind fun r4913=>
  let v4914:Int:=(y0 .i64 (2*r4913.1))
  cond ((decide (0≤v4914))&&(decide (v4914<((n4911:Nat):Int))))
   (let l4917:LI:=(y8 4 (y9 ((y6 v4914)*4) x15))
   let v4918:Int:=(y0 .i64 (v4914+1))
   cond ((decide (0≤v4918))&&(decide (v4918<((n4911:Nat):Int))))
    (let l4921:LI:=(y8 4 (y9 ((y6 v4918)*4) x15))
    let b4922:Bool:=((decide (0≤x18))&&(decide (x18<16)))
    cond b4922
     (let v4924:Int:=(y7 x16 (y6 x18) 0)
     cond b4922
      (cond (decide (0<x11))
       (cond b4922
        (let v4926:Int:=(y7 x17 (y6 x18) 0)
        cond (x14==1)
         (cond b4922
          (cond b4922
           ((q0x F F x0 x1 x2 x3 x4 x5 x6 x7 x8 x9 x10 x11 x12 x13 x14 x15 x16 x17 x18 l4917 l4921 v4926 x11 v4924 x10 0).bind fun r4952=>
           (q8x F (y7 r4952.2.2.2.2.2.2.2.2.2.2.2.2.2.2.2.2.2.2.2.1 3 0) (y7 r4952.2.2.2.2.2.2.2.2.2.2.2.2.2.2.2.2.2.2.2.2.1 3 0) r4952.2.2.2.2.2.2.2.2.2.2.2.2.2.2.2.2.2.2.2.2.2.1 r4952.2.2.2.2.2.2.2.2.2.2.2.2.2.2.2.2.2.2.2.2.2.2.1).bind fun r4956=>
           let b4957:Bool:=((decide (0≤r4952.2.2.2.2.2.2.2.2.2.2.2.2.2.2.2.2.2.2.1))&&(decide (r4952.2.2.2.2.2.2.2.2.2.2.2.2.2.2.2.2.2.2.1<16)))
           cond b4957
            (let n4958:Nat:=((y6 r4952.2.2.2.2.2.2.2.2.2.2.2.2.2.2.2.2.2.2.1)*4)
            let n4959:Nat:=(3+n4958)
            let l4960:LI:=(yy r4952.2.1 n4959 r4956.1)
            cond (decide (0<r4952.2.2.2.2.2.2.2.2.2.2.2.2.2.1))
             (cond b4957
              (let v4963:Int:=(y0 .i64 (r4952.2.2.2.2.2.2.2.2.2.2.2.2.2.1-1))
              cond b4957
               (let b4964:Bool:=((decide (0≤v4963))&&(decide (v4963<4)))
               cond b4964
                (let n4965:Nat:=(n4958+(y6 v4963))
                cond b4957
                 (cond b4957
                  (cond b4964
                   (rec r4952.1 (yy (yy l4960 n4959 (y7 l4960 n4965 0)) n4965 (y7 l4960 n4959 0)) r4952.2.2.1 r4952.2.2.2.1 r4952.2.2.2.2.1 r4952.2.2.2.2.2.1 r4952.2.2.2.2.2.2.1 r4952.2.2.2.2.2.2.2.1 r4952.2.2.2.2.2.2.2.2.1 r4952.2.2.2.2.2.2.2.2.2.1 r4952.2.2.2.2.2.2.2.2.2.2.1 r4952.2.2.2.2.2.2.2.2.2.2.2.1 r4952.2.2.2.2.2.2.2.2.2.2.2.2.1 r4952.2.2.2.2.2.2.2.2.2.2.2.2.2.1 r4952.2.2.2.2.2.2.2.2.2.2.2.2.2.2.1 r4952.2.2.2.2.2.2.2.2.2.2.2.2.2.2.2.1 r4952.2.2.2.2.2.2.2.2.2.2.2.2.2.2.2.2.1 r4952.2.2.2.2.2.2.2.2.2.2.2.2.2.2.2.2.2.1 (y0 .i64 (r4952.2.2.2.2.2.2.2.2.2.2.2.2.2.2.2.2.2.2.1+1)))
                    none)
                   none)
                  none)
                 none)
                none)
               none)
             (rec r4952.1 l4960 r4952.2.2.1 r4952.2.2.2.1 r4952.2.2.2.2.1 r4952.2.2.2.2.2.1 r4952.2.2.2.2.2.2.1 r4952.2.2.2.2.2.2.2.1 r4952.2.2.2.2.2.2.2.2.1 r4952.2.2.2.2.2.2.2.2.2.1 r4952.2.2.2.2.2.2.2.2.2.2.1 r4952.2.2.2.2.2.2.2.2.2.2.2.1 r4952.2.2.2.2.2.2.2.2.2.2.2.2.1 r4952.2.2.2.2.2.2.2.2.2.2.2.2.2.1 r4952.2.2.2.2.2.2.2.2.2.2.2.2.2.2.1 r4952.2.2.2.2.2.2.2.2.2.2.2.2.2.2.2.1 r4952.2.2.2.2.2.2.2.2.2.2.2.2.2.2.2.2.1 r4952.2.2.2.2.2.2.2.2.2.2.2.2.2.2.2.2.2.1 (y0 .i64 (r4952.2.2.2.2.2.2.2.2.2.2.2.2.2.2.2.2.2.2.1+1))))
             none)
            none)
           none)
         ((q0x F F x0 x1 x2 x3 x4 x5 x6 x7 x8 x9 x10 x11 x12 x13 x14 x15 x16 x17 x18 l4917 l4921 v4924 x10 v4926 x11 0).bind fun r4983=>
         (q8x F (y7 r4983.2.2.2.2.2.2.2.2.2.2.2.2.2.2.2.2.2.2.2.1 3 0) (y7 r4983.2.2.2.2.2.2.2.2.2.2.2.2.2.2.2.2.2.2.2.2.1 3 0) r4983.2.2.2.2.2.2.2.2.2.2.2.2.2.2.2.2.2.2.2.2.2.1 r4983.2.2.2.2.2.2.2.2.2.2.2.2.2.2.2.2.2.2.2.2.2.2.1).bind fun r4987=>
         let b4988:Bool:=((decide (0≤r4983.2.2.2.2.2.2.2.2.2.2.2.2.2.2.2.2.2.2.1))&&(decide (r4983.2.2.2.2.2.2.2.2.2.2.2.2.2.2.2.2.2.2.1<16)))
         cond b4988
          (let n4989:Nat:=((y6 r4983.2.2.2.2.2.2.2.2.2.2.2.2.2.2.2.2.2.2.1)*4)
          let n4990:Nat:=(3+n4989)
          let l4991:LI:=(yy r4983.2.1 n4990 r4987.1)
          cond (decide (0<r4983.2.2.2.2.2.2.2.2.2.2.2.2.2.1))
           (cond b4988
            (let v4994:Int:=(y0 .i64 (r4983.2.2.2.2.2.2.2.2.2.2.2.2.2.1-1))
            cond b4988
             (let b4995:Bool:=((decide (0≤v4994))&&(decide (v4994<4)))
             cond b4995
              (let n4996:Nat:=(n4989+(y6 v4994))
              cond b4988
               (cond b4988
                (cond b4995
                 (rec r4983.1 (yy (yy l4991 n4990 (y7 l4991 n4996 0)) n4996 (y7 l4991 n4990 0)) r4983.2.2.1 r4983.2.2.2.1 r4983.2.2.2.2.1 r4983.2.2.2.2.2.1 r4983.2.2.2.2.2.2.1 r4983.2.2.2.2.2.2.2.1 r4983.2.2.2.2.2.2.2.2.1 r4983.2.2.2.2.2.2.2.2.2.1 r4983.2.2.2.2.2.2.2.2.2.2.1 r4983.2.2.2.2.2.2.2.2.2.2.2.1 r4983.2.2.2.2.2.2.2.2.2.2.2.2.1 r4983.2.2.2.2.2.2.2.2.2.2.2.2.2.1 r4983.2.2.2.2.2.2.2.2.2.2.2.2.2.2.1 r4983.2.2.2.2.2.2.2.2.2.2.2.2.2.2.2.1 r4983.2.2.2.2.2.2.2.2.2.2.2.2.2.2.2.2.1 r4983.2.2.2.2.2.2.2.2.2.2.2.2.2.2.2.2.2.1 (y0 .i64 (r4983.2.2.2.2.2.2.2.2.2.2.2.2.2.2.2.2.2.2.1+1)))
                  none)
                 none)
                none)
               none)
              none)
             none)
           (rec r4983.1 l4991 r4983.2.2.1 r4983.2.2.2.1 r4983.2.2.2.2.1 r4983.2.2.2.2.2.1 r4983.2.2.2.2.2.2.1 r4983.2.2.2.2.2.2.2.1 r4983.2.2.2.2.2.2.2.2.1 r4983.2.2.2.2.2.2.2.2.2.1 r4983.2.2.2.2.2.2.2.2.2.2.1 r4983.2.2.2.2.2.2.2.2.2.2.2.1 r4983.2.2.2.2.2.2.2.2.2.2.2.2.1 r4983.2.2.2.2.2.2.2.2.2.2.2.2.2.1 r4983.2.2.2.2.2.2.2.2.2.2.2.2.2.2.1 r4983.2.2.2.2.2.2.2.2.2.2.2.2.2.2.2.1 r4983.2.2.2.2.2.2.2.2.2.2.2.2.2.2.2.2.1 r4983.2.2.2.2.2.2.2.2.2.2.2.2.2.2.2.2.2.1 (y0 .i64 (r4983.2.2.2.2.2.2.2.2.2.2.2.2.2.2.2.2.2.2.1+1))))
           none))
         none)
       (cond (x14==1)
        (cond b4922
         (cond b4922
          ((q0x F F x0 x1 x2 x3 x4 x5 x6 x7 x8 x9 x10 x11 x12 x13 x14 x15 x16 x17 x18 l4917 l4921 (y7 x17 (y6 x18) 0) x11 v4924 x10 0).bind fun r5016=>
          (q8x F (y7 r5016.2.2.2.2.2.2.2.2.2.2.2.2.2.2.2.2.2.2.2.1 3 0) (y7 r5016.2.2.2.2.2.2.2.2.2.2.2.2.2.2.2.2.2.2.2.2.1 3 0) r5016.2.2.2.2.2.2.2.2.2.2.2.2.2.2.2.2.2.2.2.2.2.1 r5016.2.2.2.2.2.2.2.2.2.2.2.2.2.2.2.2.2.2.2.2.2.2.1).bind fun r5020=>
          let b5021:Bool:=((decide (0≤r5016.2.2.2.2.2.2.2.2.2.2.2.2.2.2.2.2.2.2.1))&&(decide (r5016.2.2.2.2.2.2.2.2.2.2.2.2.2.2.2.2.2.2.1<16)))
          cond b5021
           (let n5022:Nat:=((y6 r5016.2.2.2.2.2.2.2.2.2.2.2.2.2.2.2.2.2.2.1)*4)
           let n5023:Nat:=(3+n5022)
           let l5024:LI:=(yy r5016.2.1 n5023 r5020.1)
           cond (decide (0<r5016.2.2.2.2.2.2.2.2.2.2.2.2.2.1))
            (cond b5021
             (let v5027:Int:=(y0 .i64 (r5016.2.2.2.2.2.2.2.2.2.2.2.2.2.1-1))
             cond b5021
              (let b5028:Bool:=((decide (0≤v5027))&&(decide (v5027<4)))
              cond b5028
               (let n5029:Nat:=(n5022+(y6 v5027))
               cond b5021
                (cond b5021
                 (cond b5028
                  (rec r5016.1 (yy (yy l5024 n5023 (y7 l5024 n5029 0)) n5029 (y7 l5024 n5023 0)) r5016.2.2.1 r5016.2.2.2.1 r5016.2.2.2.2.1 r5016.2.2.2.2.2.1 r5016.2.2.2.2.2.2.1 r5016.2.2.2.2.2.2.2.1 r5016.2.2.2.2.2.2.2.2.1 r5016.2.2.2.2.2.2.2.2.2.1 r5016.2.2.2.2.2.2.2.2.2.2.1 r5016.2.2.2.2.2.2.2.2.2.2.2.1 r5016.2.2.2.2.2.2.2.2.2.2.2.2.1 r5016.2.2.2.2.2.2.2.2.2.2.2.2.2.1 r5016.2.2.2.2.2.2.2.2.2.2.2.2.2.2.1 r5016.2.2.2.2.2.2.2.2.2.2.2.2.2.2.2.1 r5016.2.2.2.2.2.2.2.2.2.2.2.2.2.2.2.2.1 r5016.2.2.2.2.2.2.2.2.2.2.2.2.2.2.2.2.2.1 (y0 .i64 (r5016.2.2.2.2.2.2.2.2.2.2.2.2.2.2.2.2.2.2.1+1)))
                   none)
                  none)
                 none)
                none)
               none)
              none)
            (rec r5016.1 l5024 r5016.2.2.1 r5016.2.2.2.1 r5016.2.2.2.2.1 r5016.2.2.2.2.2.1 r5016.2.2.2.2.2.2.1 r5016.2.2.2.2.2.2.2.1 r5016.2.2.2.2.2.2.2.2.1 r5016.2.2.2.2.2.2.2.2.2.1 r5016.2.2.2.2.2.2.2.2.2.2.1 r5016.2.2.2.2.2.2.2.2.2.2.2.1 r5016.2.2.2.2.2.2.2.2.2.2.2.2.1 r5016.2.2.2.2.2.2.2.2.2.2.2.2.2.1 r5016.2.2.2.2.2.2.2.2.2.2.2.2.2.2.1 r5016.2.2.2.2.2.2.2.2.2.2.2.2.2.2.2.1 r5016.2.2.2.2.2.2.2.2.2.2.2.2.2.2.2.2.1 r5016.2.2.2.2.2.2.2.2.2.2.2.2.2.2.2.2.2.1 (y0 .i64 (r5016.2.2.2.2.2.2.2.2.2.2.2.2.2.2.2.2.2.2.1+1))))
            none)
           none)
          none)
        ((q0x F F x0 x1 x2 x3 x4 x5 x6 x7 x8 x9 x10 x11 x12 x13 x14 x15 x16 x17 x18 l4917 l4921 v4924 x10 v4924 x10 0).bind fun r5047=>
        (q8x F (y7 r5047.2.2.2.2.2.2.2.2.2.2.2.2.2.2.2.2.2.2.2.1 3 0) (y7 r5047.2.2.2.2.2.2.2.2.2.2.2.2.2.2.2.2.2.2.2.2.1 3 0) r5047.2.2.2.2.2.2.2.2.2.2.2.2.2.2.2.2.2.2.2.2.2.1 r5047.2.2.2.2.2.2.2.2.2.2.2.2.2.2.2.2.2.2.2.2.2.2.1).bind fun r5051=>
        let b5052:Bool:=((decide (0≤r5047.2.2.2.2.2.2.2.2.2.2.2.2.2.2.2.2.2.2.1))&&(decide (r5047.2.2.2.2.2.2.2.2.2.2.2.2.2.2.2.2.2.2.1<16)))
        cond b5052
         (let n5053:Nat:=((y6 r5047.2.2.2.2.2.2.2.2.2.2.2.2.2.2.2.2.2.2.1)*4)
         let n5054:Nat:=(3+n5053)
         let l5055:LI:=(yy r5047.2.1 n5054 r5051.1)
         cond (decide (0<r5047.2.2.2.2.2.2.2.2.2.2.2.2.2.1))
          (cond b5052
           (let v5058:Int:=(y0 .i64 (r5047.2.2.2.2.2.2.2.2.2.2.2.2.2.1-1))
           cond b5052
            (let b5059:Bool:=((decide (0≤v5058))&&(decide (v5058<4)))
            cond b5059
             (let n5060:Nat:=(n5053+(y6 v5058))
             cond b5052
              (cond b5052
               (cond b5059
                (rec r5047.1 (yy (yy l5055 n5054 (y7 l5055 n5060 0)) n5060 (y7 l5055 n5054 0)) r5047.2.2.1 r5047.2.2.2.1 r5047.2.2.2.2.1 r5047.2.2.2.2.2.1 r5047.2.2.2.2.2.2.1 r5047.2.2.2.2.2.2.2.1 r5047.2.2.2.2.2.2.2.2.1 r5047.2.2.2.2.2.2.2.2.2.1 r5047.2.2.2.2.2.2.2.2.2.2.1 r5047.2.2.2.2.2.2.2.2.2.2.2.1 r5047.2.2.2.2.2.2.2.2.2.2.2.2.1 r5047.2.2.2.2.2.2.2.2.2.2.2.2.2.1 r5047.2.2.2.2.2.2.2.2.2.2.2.2.2.2.1 r5047.2.2.2.2.2.2.2.2.2.2.2.2.2.2.2.1 r5047.2.2.2.2.2.2.2.2.2.2.2.2.2.2.2.2.1 r5047.2.2.2.2.2.2.2.2.2.2.2.2.2.2.2.2.2.1 (y0 .i64 (r5047.2.2.2.2.2.2.2.2.2.2.2.2.2.2.2.2.2.2.1+1)))
                 none)
                none)
               none)
              none)
             none)
            none)
          (rec r5047.1 l5055 r5047.2.2.1 r5047.2.2.2.1 r5047.2.2.2.2.1 r5047.2.2.2.2.2.1 r5047.2.2.2.2.2.2.1 r5047.2.2.2.2.2.2.2.1 r5047.2.2.2.2.2.2.2.2.1 r5047.2.2.2.2.2.2.2.2.2.1 r5047.2.2.2.2.2.2.2.2.2.2.1 r5047.2.2.2.2.2.2.2.2.2.2.2.1 r5047.2.2.2.2.2.2.2.2.2.2.2.2.1 r5047.2.2.2.2.2.2.2.2.2.2.2.2.2.1 r5047.2.2.2.2.2.2.2.2.2.2.2.2.2.2.1 r5047.2.2.2.2.2.2.2.2.2.2.2.2.2.2.2.1 r5047.2.2.2.2.2.2.2.2.2.2.2.2.2.2.2.2.1 r5047.2.2.2.2.2.2.2.2.2.2.2.2.2.2.2.2.2.1 (y0 .i64 (r5047.2.2.2.2.2.2.2.2.2.2.2.2.2.2.2.2.2.2.1+1))))
          none)))
       none)
      none)
     none)
    none)
  (some (x0,x1,()))
def q1w(F:Nat):Nat→LI→LI→Int→Int→Int→Int→Int→Int→Int→Int→Int→Int→Int→Int→Int→LI→LI→LI→Int→Option (LI×LI×Unit)
 |0,_,_,_,_,_,_,_,_,_,_,_,_,_,_,_,_,_,_,_=>none
 |k+1,x0,x1,x2,x3,x4,x5,x6,x7,x8,x9,x10,x11,x12,x13,x14,x15,x16,x17,x18=>qb8 F (q1w F k) x0 x1 x2 x3 x4 x5 x6 x7 x8 x9 x10 x11 x12 x13 x14 x15 x16 x17 x18
def qhp(F:Nat)(a0:LI):Option (LI×Int×Unit):=
 cond ((((ya a0):Nat):Int) !=16)
  (some (q03,1,()))
  ((z0o F a0).bind fun r4227=>
  cond (r4227.1==8)
   (some (q03,0,()))
   ((z4i F).bind fun r4229=>
   let n4230:Nat:=((ya r4229.1)/10)
   cond ((decide (0≤r4227.1))&&(decide (r4227.1<((n4230:Nat):Int))))
    (let l4233:LI:=(y8 10 (y9 ((y6 r4227.1)*10) r4229.1))
    let v4234:Int:=(y7 l4233 0 0)
    let v4235:Int:=(y7 l4233 1 0)
    let v4236:Int:=(y7 l4233 2 0)
    let v4237:Int:=(y7 l4233 3 0)
    (q0o F a0 (y0 .i64 (r4227.1+1)) v4235).bind fun r4245=>
    (q0o F r4245.2.1 r4245.2.2.1 v4236).bind fun r4247=>
    (q0o F r4247.2.1 r4247.2.2.1 v4237).bind fun r4249=>
    let v4251:Int:=(y0 .i64 (2*v4234))
    cond ((decide (0≤v4251))&&((decide (v4251≤1099511627776))&&(decide (v4251=v4251))))
     ((q2p F F q03 q03 v4234 v4235 v4236 v4237 (y7 l4233 4 0) (y7 l4233 5 0) (y7 l4233 6 0) (y7 l4233 7 0) (y7 l4233 8 0) (y7 l4233 9 0) r4249.2.1 r4249.2.2.1 r4245.1 r4247.1 r4249.1 (yz ((y6 v4251)*4) 0) 0).bind fun r4351=>
     cond (r4351.2.2.2.2.2.2.2.2.1==1)
      ((q5o F F r4351.1 r4351.2.1 r4351.2.2.1 r4351.2.2.2.1 r4351.2.2.2.2.1 r4351.2.2.2.2.2.1 r4351.2.2.2.2.2.2.1 r4351.2.2.2.2.2.2.2.1 r4351.2.2.2.2.2.2.2.2.1 r4351.2.2.2.2.2.2.2.2.2.1 r4351.2.2.2.2.2.2.2.2.2.2.1 r4351.2.2.2.2.2.2.2.2.2.2.2.1 r4351.2.2.2.2.2.2.2.2.2.2.2.2.1 r4351.2.2.2.2.2.2.2.2.2.2.2.2.2.1 r4351.2.2.2.2.2.2.2.2.2.2.2.2.2.2.1 r4351.2.2.2.2.2.2.2.2.2.2.2.2.2.2.2.1 r4351.2.2.2.2.2.2.2.2.2.2.2.2.2.2.2.2.1 r4351.2.2.2.2.2.2.2.2.2.2.2.2.2.2.2.2.2.1 0).bind fun r4423=>
      cond (r4423.2.2.2.2.2.2.2.2.2.1==1)
       ((q45 F F r4423.1 r4423.2.1 r4423.2.2.1 r4423.2.2.2.1 r4423.2.2.2.2.1 r4423.2.2.2.2.2.1 r4423.2.2.2.2.2.2.1 r4423.2.2.2.2.2.2.2.1 r4423.2.2.2.2.2.2.2.2.1 r4423.2.2.2.2.2.2.2.2.2.1 r4423.2.2.2.2.2.2.2.2.2.2.1 r4423.2.2.2.2.2.2.2.2.2.2.2.1 r4423.2.2.2.2.2.2.2.2.2.2.2.2.1 r4423.2.2.2.2.2.2.2.2.2.2.2.2.2.1 r4423.2.2.2.2.2.2.2.2.2.2.2.2.2.2.1 r4423.2.2.2.2.2.2.2.2.2.2.2.2.2.2.2.1 r4423.2.2.2.2.2.2.2.2.2.2.2.2.2.2.2.2.1 r4423.2.2.2.2.2.2.2.2.2.2.2.2.2.2.2.2.2.1 0).bind fun r4527=>
       (q1t F F r4527.1 r4527.2.1 r4527.2.2.1 r4527.2.2.2.1 r4527.2.2.2.2.1 r4527.2.2.2.2.2.1 r4527.2.2.2.2.2.2.1 r4527.2.2.2.2.2.2.2.1 r4527.2.2.2.2.2.2.2.2.1 r4527.2.2.2.2.2.2.2.2.2.1 r4527.2.2.2.2.2.2.2.2.2.2.1 r4527.2.2.2.2.2.2.2.2.2.2.2.1 r4527.2.2.2.2.2.2.2.2.2.2.2.2.1 r4527.2.2.2.2.2.2.2.2.2.2.2.2.2.1 r4527.2.2.2.2.2.2.2.2.2.2.2.2.2.2.1 r4527.2.2.2.2.2.2.2.2.2.2.2.2.2.2.2.1 r4527.2.2.2.2.2.2.2.2.2.2.2.2.2.2.2.2.1 r4527.2.2.2.2.2.2.2.2.2.2.2.2.2.2.2.2.2.1 1 0).bind fun r4620=>
       (q1v F F r4620.1 r4620.2.1 r4620.2.2.1 r4620.2.2.2.1 r4620.2.2.2.2.1 r4620.2.2.2.2.2.1 r4620.2.2.2.2.2.2.1 r4620.2.2.2.2.2.2.2.1 r4620.2.2.2.2.2.2.2.2.1 r4620.2.2.2.2.2.2.2.2.2.1 r4620.2.2.2.2.2.2.2.2.2.2.1 r4620.2.2.2.2.2.2.2.2.2.2.2.1 r4620.2.2.2.2.2.2.2.2.2.2.2.2.1 r4620.2.2.2.2.2.2.2.2.2.2.2.2.2.1 r4620.2.2.2.2.2.2.2.2.2.2.2.2.2.2.1 r4620.2.2.2.2.2.2.2.2.2.2.2.2.2.2.2.1 r4620.2.2.2.2.2.2.2.2.2.2.2.2.2.2.2.2.1 r4620.2.2.2.2.2.2.2.2.2.2.2.2.2.2.2.2.2.1 q09 q09 0).bind fun r4713=>
       (q0w F F r4713.1 r4713.2.1 r4713.2.2.1 r4713.2.2.2.1 r4713.2.2.2.2.1 r4713.2.2.2.2.2.1 r4713.2.2.2.2.2.2.1 r4713.2.2.2.2.2.2.2.1 r4713.2.2.2.2.2.2.2.2.1 r4713.2.2.2.2.2.2.2.2.2.1 r4713.2.2.2.2.2.2.2.2.2.2.1 r4713.2.2.2.2.2.2.2.2.2.2.2.1 r4713.2.2.2.2.2.2.2.2.2.2.2.2.1 r4713.2.2.2.2.2.2.2.2.2.2.2.2.2.1 r4713.2.2.2.2.2.2.2.2.2.2.2.2.2.2.1 r4713.2.2.2.2.2.2.2.2.2.2.2.2.2.2.2.1 r4713.2.2.2.2.2.2.2.2.2.2.2.2.2.2.2.2.1 r4713.2.2.2.2.2.2.2.2.2.2.2.2.2.2.2.2.2.1 r4713.2.2.2.2.2.2.2.2.2.2.2.2.2.2.2.2.2.2.1 r4713.2.2.2.2.2.2.2.2.2.2.2.2.2.2.2.2.2.2.2.1 0).bind fun r4754=>
       (q1w F F r4754.1 r4754.2.1 r4754.2.2.1 r4754.2.2.2.1 r4754.2.2.2.2.1 r4754.2.2.2.2.2.1 r4754.2.2.2.2.2.2.1 r4754.2.2.2.2.2.2.2.1 r4754.2.2.2.2.2.2.2.2.1 r4754.2.2.2.2.2.2.2.2.2.1 r4754.2.2.2.2.2.2.2.2.2.2.1 r4754.2.2.2.2.2.2.2.2.2.2.2.1 r4754.2.2.2.2.2.2.2.2.2.2.2.2.1 r4754.2.2.2.2.2.2.2.2.2.2.2.2.2.1 r4754.2.2.2.2.2.2.2.2.2.2.2.2.2.2.1 r4754.2.2.2.2.2.2.2.2.2.2.2.2.2.2.2.1 r4754.2.2.2.2.2.2.2.2.2.2.2.2.2.2.2.2.1 r4754.2.2.2.2.2.2.2.2.2.2.2.2.2.2.2.2.2.1 0).bind fun r5066=>
       some (r5066.2.1,0,()))
       ((q1t F F r4423.1 r4423.2.1 r4423.2.2.1 r4423.2.2.2.1 r4423.2.2.2.2.1 r4423.2.2.2.2.2.1 r4423.2.2.2.2.2.2.1 r4423.2.2.2.2.2.2.2.1 r4423.2.2.2.2.2.2.2.2.1 r4423.2.2.2.2.2.2.2.2.2.1 r4423.2.2.2.2.2.2.2.2.2.2.1 r4423.2.2.2.2.2.2.2.2.2.2.2.1 r4423.2.2.2.2.2.2.2.2.2.2.2.2.1 r4423.2.2.2.2.2.2.2.2.2.2.2.2.2.1 r4423.2.2.2.2.2.2.2.2.2.2.2.2.2.2.1 r4423.2.2.2.2.2.2.2.2.2.2.2.2.2.2.2.1 r4423.2.2.2.2.2.2.2.2.2.2.2.2.2.2.2.2.1 r4423.2.2.2.2.2.2.2.2.2.2.2.2.2.2.2.2.2.1 1 0).bind fun r5100=>
       (q1v F F r5100.1 r5100.2.1 r5100.2.2.1 r5100.2.2.2.1 r5100.2.2.2.2.1 r5100.2.2.2.2.2.1 r5100.2.2.2.2.2.2.1 r5100.2.2.2.2.2.2.2.1 r5100.2.2.2.2.2.2.2.2.1 r5100.2.2.2.2.2.2.2.2.2.1 r5100.2.2.2.2.2.2.2.2.2.2.1 r5100.2.2.2.2.2.2.2.2.2.2.2.1 r5100.2.2.2.2.2.2.2.2.2.2.2.2.1 r5100.2.2.2.2.2.2.2.2.2.2.2.2.2.1 r5100.2.2.2.2.2.2.2.2.2.2.2.2.2.2.1 r5100.2.2.2.2.2.2.2.2.2.2.2.2.2.2.2.1 r5100.2.2.2.2.2.2.2.2.2.2.2.2.2.2.2.2.1 r5100.2.2.2.2.2.2.2.2.2.2.2.2.2.2.2.2.2.1 q09 q09 0).bind fun r5141=>
       (q0w F F r5141.1 r5141.2.1 r5141.2.2.1 r5141.2.2.2.1 r5141.2.2.2.2.1 r5141.2.2.2.2.2.1 r5141.2.2.2.2.2.2.1 r5141.2.2.2.2.2.2.2.1 r5141.2.2.2.2.2.2.2.2.1 r5141.2.2.2.2.2.2.2.2.2.1 r5141.2.2.2.2.2.2.2.2.2.2.1 r5141.2.2.2.2.2.2.2.2.2.2.2.1 r5141.2.2.2.2.2.2.2.2.2.2.2.2.1 r5141.2.2.2.2.2.2.2.2.2.2.2.2.2.1 r5141.2.2.2.2.2.2.2.2.2.2.2.2.2.2.1 r5141.2.2.2.2.2.2.2.2.2.2.2.2.2.2.2.1 r5141.2.2.2.2.2.2.2.2.2.2.2.2.2.2.2.2.1 r5141.2.2.2.2.2.2.2.2.2.2.2.2.2.2.2.2.2.1 r5141.2.2.2.2.2.2.2.2.2.2.2.2.2.2.2.2.2.2.1 r5141.2.2.2.2.2.2.2.2.2.2.2.2.2.2.2.2.2.2.2.1 0).bind fun r5163=>
       (q1w F F r5163.1 r5163.2.1 r5163.2.2.1 r5163.2.2.2.1 r5163.2.2.2.2.1 r5163.2.2.2.2.2.1 r5163.2.2.2.2.2.2.1 r5163.2.2.2.2.2.2.2.1 r5163.2.2.2.2.2.2.2.2.1 r5163.2.2.2.2.2.2.2.2.2.1 r5163.2.2.2.2.2.2.2.2.2.2.1 r5163.2.2.2.2.2.2.2.2.2.2.2.1 r5163.2.2.2.2.2.2.2.2.2.2.2.2.1 r5163.2.2.2.2.2.2.2.2.2.2.2.2.2.1 r5163.2.2.2.2.2.2.2.2.2.2.2.2.2.2.1 r5163.2.2.2.2.2.2.2.2.2.2.2.2.2.2.2.1 r5163.2.2.2.2.2.2.2.2.2.2.2.2.2.2.2.2.1 r5163.2.2.2.2.2.2.2.2.2.2.2.2.2.2.2.2.2.1 0).bind fun r5308=>
       some (r5308.2.1,0,())))
      (cond (r4351.2.2.2.2.2.2.2.2.2.1==1)
       ((q45 F F r4351.1 r4351.2.1 r4351.2.2.1 r4351.2.2.2.1 r4351.2.2.2.2.1 r4351.2.2.2.2.2.1 r4351.2.2.2.2.2.2.1 r4351.2.2.2.2.2.2.2.1 r4351.2.2.2.2.2.2.2.2.1 r4351.2.2.2.2.2.2.2.2.2.1 r4351.2.2.2.2.2.2.2.2.2.2.1 r4351.2.2.2.2.2.2.2.2.2.2.2.1 r4351.2.2.2.2.2.2.2.2.2.2.2.2.1 r4351.2.2.2.2.2.2.2.2.2.2.2.2.2.1 r4351.2.2.2.2.2.2.2.2.2.2.2.2.2.2.1 r4351.2.2.2.2.2.2.2.2.2.2.2.2.2.2.2.1 r4351.2.2.2.2.2.2.2.2.2.2.2.2.2.2.2.2.1 r4351.2.2.2.2.2.2.2.2.2.2.2.2.2.2.2.2.2.1 0).bind fun r5340=>
       (q1t F F r5340.1 r5340.2.1 r5340.2.2.1 r5340.2.2.2.1 r5340.2.2.2.2.1 r5340.2.2.2.2.2.1 r5340.2.2.2.2.2.2.1 r5340.2.2.2.2.2.2.2.1 r5340.2.2.2.2.2.2.2.2.1 r5340.2.2.2.2.2.2.2.2.2.1 r5340.2.2.2.2.2.2.2.2.2.2.1 r5340.2.2.2.2.2.2.2.2.2.2.2.1 r5340.2.2.2.2.2.2.2.2.2.2.2.2.1 r5340.2.2.2.2.2.2.2.2.2.2.2.2.2.1 r5340.2.2.2.2.2.2.2.2.2.2.2.2.2.2.1 r5340.2.2.2.2.2.2.2.2.2.2.2.2.2.2.2.1 r5340.2.2.2.2.2.2.2.2.2.2.2.2.2.2.2.2.1 r5340.2.2.2.2.2.2.2.2.2.2.2.2.2.2.2.2.2.1 1 0).bind fun r5376=>
       (q1v F F r5376.1 r5376.2.1 r5376.2.2.1 r5376.2.2.2.1 r5376.2.2.2.2.1 r5376.2.2.2.2.2.1 r5376.2.2.2.2.2.2.1 r5376.2.2.2.2.2.2.2.1 r5376.2.2.2.2.2.2.2.2.1 r5376.2.2.2.2.2.2.2.2.2.1 r5376.2.2.2.2.2.2.2.2.2.2.1 r5376.2.2.2.2.2.2.2.2.2.2.2.1 r5376.2.2.2.2.2.2.2.2.2.2.2.2.1 r5376.2.2.2.2.2.2.2.2.2.2.2.2.2.1 r5376.2.2.2.2.2.2.2.2.2.2.2.2.2.2.1 r5376.2.2.2.2.2.2.2.2.2.2.2.2.2.2.2.1 r5376.2.2.2.2.2.2.2.2.2.2.2.2.2.2.2.2.1 r5376.2.2.2.2.2.2.2.2.2.2.2.2.2.2.2.2.2.1 q09 q09 0).bind fun r5417=>
       (q0w F F r5417.1 r5417.2.1 r5417.2.2.1 r5417.2.2.2.1 r5417.2.2.2.2.1 r5417.2.2.2.2.2.1 r5417.2.2.2.2.2.2.1 r5417.2.2.2.2.2.2.2.1 r5417.2.2.2.2.2.2.2.2.1 r5417.2.2.2.2.2.2.2.2.2.1 r5417.2.2.2.2.2.2.2.2.2.2.1 r5417.2.2.2.2.2.2.2.2.2.2.2.1 r5417.2.2.2.2.2.2.2.2.2.2.2.2.1 r5417.2.2.2.2.2.2.2.2.2.2.2.2.2.1 r5417.2.2.2.2.2.2.2.2.2.2.2.2.2.2.1 r5417.2.2.2.2.2.2.2.2.2.2.2.2.2.2.2.1 r5417.2.2.2.2.2.2.2.2.2.2.2.2.2.2.2.2.1 r5417.2.2.2.2.2.2.2.2.2.2.2.2.2.2.2.2.2.1 r5417.2.2.2.2.2.2.2.2.2.2.2.2.2.2.2.2.2.2.1 r5417.2.2.2.2.2.2.2.2.2.2.2.2.2.2.2.2.2.2.2.1 0).bind fun r5439=>
       (q1w F F r5439.1 r5439.2.1 r5439.2.2.1 r5439.2.2.2.1 r5439.2.2.2.2.1 r5439.2.2.2.2.2.1 r5439.2.2.2.2.2.2.1 r5439.2.2.2.2.2.2.2.1 r5439.2.2.2.2.2.2.2.2.1 r5439.2.2.2.2.2.2.2.2.2.1 r5439.2.2.2.2.2.2.2.2.2.2.1 r5439.2.2.2.2.2.2.2.2.2.2.2.1 r5439.2.2.2.2.2.2.2.2.2.2.2.2.1 r5439.2.2.2.2.2.2.2.2.2.2.2.2.2.1 r5439.2.2.2.2.2.2.2.2.2.2.2.2.2.2.1 r5439.2.2.2.2.2.2.2.2.2.2.2.2.2.2.2.1 r5439.2.2.2.2.2.2.2.2.2.2.2.2.2.2.2.2.1 r5439.2.2.2.2.2.2.2.2.2.2.2.2.2.2.2.2.2.1 0).bind fun r5584=>
       some (r5584.2.1,0,()))
       ((q1t F F r4351.1 r4351.2.1 r4351.2.2.1 r4351.2.2.2.1 r4351.2.2.2.2.1 r4351.2.2.2.2.2.1 r4351.2.2.2.2.2.2.1 r4351.2.2.2.2.2.2.2.1 r4351.2.2.2.2.2.2.2.2.1 r4351.2.2.2.2.2.2.2.2.2.1 r4351.2.2.2.2.2.2.2.2.2.2.1 r4351.2.2.2.2.2.2.2.2.2.2.2.1 r4351.2.2.2.2.2.2.2.2.2.2.2.2.1 r4351.2.2.2.2.2.2.2.2.2.2.2.2.2.1 r4351.2.2.2.2.2.2.2.2.2.2.2.2.2.2.1 r4351.2.2.2.2.2.2.2.2.2.2.2.2.2.2.2.1 r4351.2.2.2.2.2.2.2.2.2.2.2.2.2.2.2.2.1 r4351.2.2.2.2.2.2.2.2.2.2.2.2.2.2.2.2.2.1 0 0).bind fun r5618=>
       (q1v F F r5618.1 r5618.2.1 r5618.2.2.1 r5618.2.2.2.1 r5618.2.2.2.2.1 r5618.2.2.2.2.2.1 r5618.2.2.2.2.2.2.1 r5618.2.2.2.2.2.2.2.1 r5618.2.2.2.2.2.2.2.2.1 r5618.2.2.2.2.2.2.2.2.2.1 r5618.2.2.2.2.2.2.2.2.2.2.1 r5618.2.2.2.2.2.2.2.2.2.2.2.1 r5618.2.2.2.2.2.2.2.2.2.2.2.2.1 r5618.2.2.2.2.2.2.2.2.2.2.2.2.2.1 r5618.2.2.2.2.2.2.2.2.2.2.2.2.2.2.1 r5618.2.2.2.2.2.2.2.2.2.2.2.2.2.2.2.1 r5618.2.2.2.2.2.2.2.2.2.2.2.2.2.2.2.2.1 r5618.2.2.2.2.2.2.2.2.2.2.2.2.2.2.2.2.2.1 q09 q09 0).bind fun r5659=>
       (q0w F F r5659.1 r5659.2.1 r5659.2.2.1 r5659.2.2.2.1 r5659.2.2.2.2.1 r5659.2.2.2.2.2.1 r5659.2.2.2.2.2.2.1 r5659.2.2.2.2.2.2.2.1 r5659.2.2.2.2.2.2.2.2.1 r5659.2.2.2.2.2.2.2.2.2.1 r5659.2.2.2.2.2.2.2.2.2.2.1 r5659.2.2.2.2.2.2.2.2.2.2.2.1 r5659.2.2.2.2.2.2.2.2.2.2.2.2.1 r5659.2.2.2.2.2.2.2.2.2.2.2.2.2.1 r5659.2.2.2.2.2.2.2.2.2.2.2.2.2.2.1 r5659.2.2.2.2.2.2.2.2.2.2.2.2.2.2.2.1 r5659.2.2.2.2.2.2.2.2.2.2.2.2.2.2.2.2.1 r5659.2.2.2.2.2.2.2.2.2.2.2.2.2.2.2.2.2.1 r5659.2.2.2.2.2.2.2.2.2.2.2.2.2.2.2.2.2.2.1 r5659.2.2.2.2.2.2.2.2.2.2.2.2.2.2.2.2.2.2.2.1 0).bind fun r5681=>
       (q1w F F r5681.1 r5681.2.1 r5681.2.2.1 r5681.2.2.2.1 r5681.2.2.2.2.1 r5681.2.2.2.2.2.1 r5681.2.2.2.2.2.2.1 r5681.2.2.2.2.2.2.2.1 r5681.2.2.2.2.2.2.2.2.1 r5681.2.2.2.2.2.2.2.2.2.1 r5681.2.2.2.2.2.2.2.2.2.2.1 r5681.2.2.2.2.2.2.2.2.2.2.2.1 r5681.2.2.2.2.2.2.2.2.2.2.2.2.1 r5681.2.2.2.2.2.2.2.2.2.2.2.2.2.1 r5681.2.2.2.2.2.2.2.2.2.2.2.2.2.2.1 r5681.2.2.2.2.2.2.2.2.2.2.2.2.2.2.2.1 r5681.2.2.2.2.2.2.2.2.2.2.2.2.2.2.2.2.1 r5681.2.2.2.2.2.2.2.2.2.2.2.2.2.2.2.2.2.1 0).bind fun r5826=>
       some (r5826.2.1,0,()))))
      none)
     none))
def ref09_SixT5836:LI:=[64,0,0,0,0,0,0,0,0,0,0,0,0,0,0,0]
def qk2(F:Nat)(rec:LI→LI→LI→LI→Int→Int→Int→Option (Unit⊕(LI×LI×LI×LI×Int×Int×Unit)))(x0:LI)(x1:LI)(x2:LI)(x3:LI)(x4:Int)(x5:Int)(x6:Int):Option (Unit⊕(LI×LI×LI×LI×Int×Int×Unit)):=
 cond (decide (x6<2))
  (let b6738:Bool:=((decide (0≤x6))&&(decide (x6<2)))
  cond b6738
   (let b6740:Bool:=((decide (0≤x5))&&(decide (x5<4)))
   cond b6740
    (let v6742:Int:=(y7 x0 (((y6 x6)*4)+(y6 x5)) 0)
    cond (decide (v6742<0))
     (some (.inl ()))
     (cond b6738
      (cond b6740
       (cond (decide (127<v6742))
        (some (.inl ()))
        (cond b6738
         (cond b6740
          ((q2b F x3 x4 7 false (y0 .u64 v6742)).bind fun r6746=>
          rec x0 x1 x2 r6746.1 (y0 .i64 (x4+7)) x5 (y0 .i64 (x6+1)))
           none)
          none))
        none)
       none))
     none)
    none)
  (some (.inr (x0,x1,x2,x3,x4,x5,())))
def q80(F:Nat):Nat→LI→LI→LI→LI→Int→Int→Int→Option (Unit⊕(LI×LI×LI×LI×Int×Int×Unit))
 |0,_,_,_,_,_,_,_=>none
 |k+1,x0,x1,x2,x3,x4,x5,x6=>qk2 F (q80 F k) x0 x1 x2 x3 x4 x5 x6
def qk3(F:Nat)(rec:LI→LI→LI→LI→Int→Int→Option (Unit⊕(LI×LI×LI×Int×Unit)))(x0:LI)(x1:LI)(x2:LI)(x3:LI)(x4:Int)(x5:Int):Option (Unit⊕(LI×LI×LI×Int×Unit)):=
 cond (decide (x5<4))
  ((q80 F F x0 x1 x2 x3 x4 x5 0).bind fun r6750=>match r6750 with
   | .inl r6750=>(some (.inl ()))
   | .inr r6750=>(rec r6750.1 r6750.2.1 r6750.2.2.1 r6750.2.2.2.1 r6750.2.2.2.2.1 (y0 .i64 (r6750.2.2.2.2.2.1+1))))
  (some (.inr (x1,x2,x3,x4,())))
def q81(F:Nat):Nat→LI→LI→LI→LI→Int→Int→Option (Unit⊕(LI×LI×LI×Int×Unit))
 |0,_,_,_,_,_,_=>none
 |k+1,x0,x1,x2,x3,x4,x5=>qk3 F (q81 F k) x0 x1 x2 x3 x4 x5
def qk4(F:Nat)(rec:LI→LI→LI→Int→Int→Option (Unit⊕(LI×LI×Int×Unit)))(x0:LI)(x1:LI)(x2:LI)(x3:Int)(x4:Int):Option (Unit⊕(LI×LI×Int×Unit)):=
 cond (decide (x4<2))
  (let b6777:Bool:=((decide (0≤x4))&&(decide (x4<2)))
  cond b6777
   (let v6779:Int:=(y7 x0 (y6 x4) 0)
   cond (decide (v6779<0))
    (some (.inl ()))
    (cond b6777
     (cond (decide (1<v6779))
      (some (.inl ()))
      (cond b6777
       ((q2b F x2 x3 1 false (y0 .u64 v6779)).bind fun r6783=>
       rec x0 x1 r6783.1 (y0 .i64 (x3+1)) (y0 .i64 (x4+1)))
        none))
      none))
    none)
  (some (.inr (x1,x2,x3,())))
def q82(F:Nat):Nat→LI→LI→LI→Int→Int→Option (Unit⊕(LI×LI×Int×Unit))
 |0,_,_,_,_,_=>none
 |k+1,x0,x1,x2,x3,x4=>qk4 F (q82 F k) x0 x1 x2 x3 x4
def qk5(F:Nat)(rec:LI→LI→Int→Int→Option (Unit⊕(LI×Unit)))(x0:LI)(x1:LI)(x2:Int)(x3:Int):Option (Unit⊕(LI×Unit)):=
 cond (decide (x3<16))
  (cond (x3==0)
   (let b6823:Bool:=((decide (0≤x3))&&(decide (x3<16)))
   cond b6823
    (let v6825:Int:=(y7 x0 (y6 x3) 0)
    cond (decide (v6825<0))
     (some (.inl ()))
     (cond b6823
      (cond (decide (7<v6825))
       (some (.inl ()))
       (cond b6823
        ((q2b F x1 x2 3 false (y0 .u64 v6825)).bind fun r6829=>
        rec x0 r6829.1 (y0 .i64 (x2+3)) (y0 .i64 (x3+1)))
         none))
       none))
     none)
   (let b6833:Bool:=((decide (0≤x3))&&(decide (x3<16)))
   cond b6833
    (let v6835:Int:=(y7 x0 (y6 x3) 0)
    cond (decide (v6835<0))
     (some (.inl ()))
     (cond b6833
      (cond (decide (15<v6835))
       (some (.inl ()))
       (cond b6833
        ((q2b F x1 x2 4 false (y0 .u64 v6835)).bind fun r6839=>
        rec x0 r6839.1 (y0 .i64 (x2+4)) (y0 .i64 (x3+1)))
         none))
       none))
     none))
  (some (.inr (x1,())))
def q83(F:Nat):Nat→LI→LI→Int→Int→Option (Unit⊕(LI×Unit))
 |0,_,_,_,_=>none
 |k+1,x0,x1,x2,x3=>qk5 F (q83 F k) x0 x1 x2 x3
def qws(F:Nat)(a0:LI)(a1:LI)(a2:LI):Option (LI×Int×Unit):=
 (q81 F F a0 a1 a2 ref09_SixT5836 7 0).bind fun r6753=>match r6753 with
  | .inl r6753=>(some ([],1,()))
  | .inr r6753=>((q82 F F r6753.1 r6753.2.1 r6753.2.2.1 r6753.2.2.2.1 0).bind fun r6787=>match r6787 with
    | .inl r6787=>(some ([],1,()))
    | .inr r6787=>((q83 F F r6787.1 r6787.2.1 r6787.2.2.1 0).bind fun r6843=>match r6843 with
      | .inl r6843=>(some ([],1,()))
      | .inr r6843=>(some (r6843.1,0,()))))
def qsa:LI:=[0,0,0,0,0,0,0,0]
def q3n(F:Nat)(a0:Int)(a1:Int)(a2:Int)(a3:LI):Option (LI×Unit):=
 (q2t F a3 a1 (y0 .i64 ((y0 .i64 (a2-a1))+1)) (y0 .u64 a0)).bind fun r187=>
 some (r187.1,())
def q9a:LI:=[7,9,10,11,12,13,14]
def qb9(F:Nat)(rec:Int→LI→LI→Int→Int→Option (LI×Unit))(x0:Int)(x1:LI)(x2:LI)(x3:Int)(x4:Int):Option (LI×Unit):=
 cond (decide (x4<x3))
  (cond ((decide (0≤x4))&&(decide (x4<(((ya x1):Nat):Int))))
   (let v302:Int:=(y0 .i64 ((y0 .i64 ((((ya x1):Nat):Int)-1))-x4))
   cond (decide (0≤v302))
    ((q2t F x2 (y7 x1 (y6 x4) 0) 1 (y0 .u64 (iand .i64 (ishr .i64 x0 v302) 1))).bind fun r307=>
    rec x0 x1 r307.1 x3 (y0 .i64 (x4+1)))
     none)
    none)
  (some (x2,()))
def q2z(F:Nat):Nat→Int→LI→LI→Int→Int→Option (LI×Unit)
 |0,_,_,_,_,_=>none
 |k+1,x0,x1,x2,x3,x4=>qb9 F (q2z F k) x0 x1 x2 x3 x4
def q3o(F:Nat)(a0:Int)(a1:LI)(a2:LI):Option (LI×Unit):=
 (q2z F F a0 a1 a2 (((ya a1):Nat):Int) 0).bind fun r310=>
 some (r310.1,())
def q9b:LI:=[15,19,20,22,23,24]
def q9c:LI:=[25,26,27,28,29,31]
def q6v:LI:=[0,0,0,0,0,0,0,0,0,0,0,0,0,0,0,0]
def q0c(F:Nat)(a0:LI)(a1:Bool)(a2:Bool)(a3:LI)(a4:LI)(a5:LI)(a6:LI)(a7:Bool)(a8:Int)(a9:Int):Option (Int×Unit):=
 (qdu F a0 a8 (y0 .i64 ((y0 .i64 (a9-a8))+1))).bind fun r577=>
 some ((y0 .i64 r577.1),())
def qgx(F:Nat)(rec:LI→LI→LI→LI→Int→Option (Unit⊕(LI×LI×LI×Unit)))(x0:LI)(x1:LI)(x2:LI)(x3:LI)(x4:Int):Option (Unit⊕(LI×LI×LI×Unit)):=
 cond (decide (x4<3))
  (cond ((decide (0≤x4))&&(decide (x4<3)))
   (let l611:LI:=(y8 3 (y9 ((y6 x4)*3) x3))
   cond ((z5m .i64 (ior .i64 (y7 l611 0 0) (y7 l611 2 0)) 63) !=0)
    (some (.inl ()))
    (cond ((z5m .i64 (y7 l611 1 0) 127) !=0)
     (some (.inl ()))
     (rec x0 x1 x2 x3 (y0 .i64 (x4+1)))))
    none)
  (some (.inr (x0,x1,x2,())))
def q3p(F:Nat):Nat→LI→LI→LI→LI→Int→Option (Unit⊕(LI×LI×LI×Unit))
 |0,_,_,_,_,_=>none
 |k+1,x0,x1,x2,x3,x4=>qgx F (q3p F k) x0 x1 x2 x3 x4
def qgy(F:Nat)(rec:LI→Bool→Bool→LI→LI→LI→LI→Int→Option (LI×Unit))(x0:LI)(x1:Bool)(x2:Bool)(x3:LI)(x4:LI)(x5:LI)(x6:LI)(x7:Int):Option (LI×Unit):=
 cond (decide (x7<2))
  (let b682:Bool:=((decide (0≤x7))&&(decide (x7<3)))
  cond b682
   (cond b682
    (let v686:Int:=(y0 .i64 ((y7 x3 (y6 x7) 0)+(y7 x4 (y6 x7) 0)))
    cond (decide (v686<0))
     ((q3o F 1 [(y0 .i64 (8*x7))] x0).bind fun r689=>
     rec r689.1 x1 x2 x3 x4 x5 x6 (y0 .i64 (x7+1)))
     (cond (decide (31<v686))
      ((q3o F 1 [(y0 .i64 (8*x7))] x0).bind fun r694=>
      rec r694.1 x1 x2 x3 x4 x5 x6 (y0 .i64 (x7+1)))
      (rec x0 x1 x2 x3 x4 x5 x6 (y0 .i64 (x7+1)))))
     none)
    none)
  (some (x0,()))
def q4u(F:Nat):Nat→LI→Bool→Bool→LI→LI→LI→LI→Int→Option (LI×Unit)
 |0,_,_,_,_,_,_,_,_=>none
 |k+1,x0,x1,x2,x3,x4,x5,x6,x7=>qgy F (q4u F k) x0 x1 x2 x3 x4 x5 x6 x7
def qpo(F:Nat)(a0:LI)(a1:LI)(a2:LI):Option (LI×Int×Unit):=
 (q3p F F a0 a1 a2 (a0++(a1++a2)) 0).bind fun r621=>match r621 with
  | .inl r621=>(some ([],1,()))
  | .inr r621=>((q3n F (y7 r621.1 0 0) 1 6 qsa).bind fun r623=>
   (q3o F (y7 r621.1 1 0) q9a r623.1).bind fun r626=>
   (q3o F (y7 r621.1 2 0) q9b r626.1).bind fun r629=>
   (q3o F (y7 r621.2.1 0 0) q9c r629.1).bind fun r632=>
   (q3n F (y7 r621.2.1 1 0) 32 38 r632.1).bind fun r635=>
   (q3n F (y7 r621.2.1 2 0) 39 44 r635.1).bind fun r638=>
   (q3n F (y7 r621.2.2.1 0 0) 45 50 r638.1).bind fun r641=>
   (q3n F (y7 r621.2.2.1 1 0) 51 57 r641.1).bind fun r644=>
   (q3n F (y7 r621.2.2.1 2 0) 58 63 r644.1).bind fun r647=>
   (q3o F 1 [30] r647.1).bind fun r649=>
   (q40 F r649.1).bind fun r651=>
   (q4u F F r649.1 r651.1.1 r651.1.2.1 r651.1.2.2.1 r651.1.2.2.2.1 r651.1.2.2.2.2.1 r651.1.2.2.2.2.2.1 0).bind fun r698=>
   (q0c F r698.1 false false [0,0,0] [0,0,0] [0,0] q6v false 19 20).bind fun r700=>
   (q0c F r698.1 false false [0,0,0] [0,0,0] [0,0] q6v false 22 23).bind fun r701=>
   let v702:Int:=(y0 .i64 (r700.1+r701.1))
   cond (decide (4≤v702))
    ((q3n F 7 16 18 r698.1).bind fun r704=>
    some (r704.1,0,()))
    ((q3o F 1 [21] r698.1).bind fun r706=>
    some (r706.1,0,())))
def q04:LI:=[0,0,0,0,0,0,0,0,0,0,0,0,0,0,0,0,0,0,0,0,0,0,0,0,0,0,0,0,0,0,0,0,0,0,0,0,0,0,0,0,0,0,0,0,0,0,0,0,0,0,0,0,0,0,0,0,0,0,0,0,0,0,0,0]
def q7b(F:Nat)(rec:LI→Bool→Bool→LI→LI→LI→LI→Bool→Int→LI→Int→Int→Option (Int×Unit))(x0:LI)(x1:Bool)(x2:Bool)(x3:LI)(x4:LI)(x5:LI)(x6:LI)(x7:Bool)(x8:Int)(x9:LI)(x10:Int)(x11:Int):Option (Int×Unit):=
 cond (decide (x11<x10))
  (cond ((decide (0≤x11))&&(decide (x11<(((ya x9):Nat):Int))))
   ((qdu F x0 (y7 x9 (y6 x11) 0) 1).bind fun r782=>
   rec x0 x1 x2 x3 x4 x5 x6 x7 (ior .i64 (ishl .i64 x8 1) (y0 .i64 r782.1)) x9 x10 (y0 .i64 (x11+1)))
    none)
  (some (x8,()))
def q2e(F:Nat):Nat→LI→Bool→Bool→LI→LI→LI→LI→Bool→Int→LI→Int→Int→Option (Int×Unit)
 |0,_,_,_,_,_,_,_,_,_,_,_,_=>none
 |k+1,x0,x1,x2,x3,x4,x5,x6,x7,x8,x9,x10,x11=>q7b F (q2e F k) x0 x1 x2 x3 x4 x5 x6 x7 x8 x9 x10 x11
def q0f(F:Nat)(a0:LI)(a1:Bool)(a2:Bool)(a3:LI)(a4:LI)(a5:LI)(a6:LI)(a7:Bool)(a8:LI):Option (Int×Unit):=
 (q2e F F a0 a1 a2 a3 a4 a5 a6 a7 0 a8 (((ya a8):Nat):Int) 0).bind fun r787=>
 some (r787.1,())
def qlh(F:Nat)(a0:LI)(a1:Bool):Option (LI×Bool×Bool×LI×LI×LI×LI×Bool×Unit):=
 cond (!a1)
  (cond a1
   ((q2t F a0 30 1 1).bind fun r796=>
   (q40 F r796.1).bind fun r798=>
   some (a0,r798.1.1,r798.1.2.1,r798.1.2.2.1,r798.1.2.2.2.1,r798.1.2.2.2.2.1,r798.1.2.2.2.2.2.1,true,()))
   ((q40 F a0).bind fun r799=>
   some (a0,r799.1.1,r799.1.2.1,r799.1.2.2.1,r799.1.2.2.2.1,r799.1.2.2.2.2.1,r799.1.2.2.2.2.2.1,true,())))
  ((q0f F a0 false false [0,0,0] [0,0,0] [0,0] q6v false [30]).bind fun r800=>
  let b801:Bool:=(r800.1==1)
  cond a1
   ((q2t F a0 30 1 1).bind fun r802=>
   (q40 F r802.1).bind fun r804=>
   some (a0,r804.1.1,r804.1.2.1,r804.1.2.2.1,r804.1.2.2.2.1,r804.1.2.2.2.2.1,r804.1.2.2.2.2.2.1,b801,()))
   ((q40 F a0).bind fun r805=>
   some (a0,r805.1.1,r805.1.2.1,r805.1.2.2.1,r805.1.2.2.2.1,r805.1.2.2.2.2.1,r805.1.2.2.2.2.2.1,b801,())))
def q7m(F:Nat)(a0:LI)(a1:Bool)(a2:Bool)(a3:LI)(a4:LI)(a5:LI)(a6:LI)(a7:Bool):Option (Int×Unit):=
 (qda F (a1,a2,a3,a4,a5,a6,())).bind fun r946=>
 cond (r946.2.1==3)
  (some (0,()))
  (some ((y0 .i64 (1+r946.2.1)),()))
def q4v(F:Nat)(rec:LI→Bool→Bool→LI→LI→LI→LI→Bool→LI→LI→LI→LI→Int→Option (LI×LI×Unit))(x0:LI)(x1:Bool)(x2:Bool)(x3:LI)(x4:LI)(x5:LI)(x6:LI)(x7:Bool)(x8:LI)(x9:LI)(x10:LI)(x11:LI)(x12:Int):Option (LI×LI×Unit):=
 cond (decide (x12<16))
  (let b1178:Bool:=((decide (0≤x12))&&(decide (x12<16)))
  cond b1178
   (cond (!x7)
    (cond ((y7 x11 (y6 x12) 0)==0)
     ((qlg F x2 x12).bind fun r1182=>
     cond ((decide (0≤r1182.1))&&(decide (r1182.1<2)))
      (cond b1178
       (let n1186:Nat:=((y6 x12)*4)
       rec x0 x1 x2 x3 x4 x5 x6 x7 x8 (((y8 n1186 x9)++(y8 4 (y9 ((y6 r1182.1)*4) x10)))++(y9 (n1186+4) x9)) x10 x11 (y0 .i64 (x12+1)))
        none)
       none)
     (rec x0 x1 x2 x3 x4 x5 x6 x7 x8 x9 x10 x11 (y0 .i64 (x12+1))))
    (rec x0 x1 x2 x3 x4 x5 x6 x7 x8 x9 x10 x11 (y0 .i64 (x12+1))))
    none)
  (some (x8,x9,()))
def q1d(F:Nat):Nat→LI→Bool→Bool→LI→LI→LI→LI→Bool→LI→LI→LI→LI→Int→Option (LI×LI×Unit)
 |0,_,_,_,_,_,_,_,_,_,_,_,_,_=>none
 |k+1,x0,x1,x2,x3,x4,x5,x6,x7,x8,x9,x10,x11,x12=>q4v F (q1d F k) x0 x1 x2 x3 x4 x5 x6 x7 x8 x9 x10 x11 x12
def q8c(F:Nat)(a0:LI)(a1:Bool)(a2:Bool)(a3:LI)(a4:LI)(a5:LI)(a6:LI)(a7:Bool):Option (LI×Unit):=
 (qhm F (a1,a2,a3,a4,a5,a6,())).bind fun r1150=>
 (qda F (a1,a2,a3,a4,a5,a6,())).bind fun r1151=>
 (q1d F F a0 a1 a2 a3 a4 a5 a6 a7 q04 r1150.1 r1151.1 a6 0).bind fun r1191=>
 some (r1191.2.1,())
def q7n(F:Nat)(rec:LI→LI→LI→LI→Int→Option (LI×LI×Unit))(x0:LI)(x1:LI)(x2:LI)(x3:LI)(x4:Int):Option (LI×LI×Unit):=
 cond (decide (x4<3))
  (let b1245:Bool:=((decide (0≤x4))&&(decide (x4<3)))
  cond b1245
   (cond b1245
    ((q0n F (y7 x3 (y6 x4) 0) (y7 x0 (y6 x4) 0)).bind fun r1249=>
    cond ((decide (0≤x4))&&(decide (x4<4)))
     (rec x0 x1 (yy x2 (y6 x4) r1249.1) x3 (y0 .i64 (x4+1)))
      none)
     none)
    none)
  (some (x1,x2,()))
def q3q(F:Nat):Nat→LI→LI→LI→LI→Int→Option (LI×LI×Unit)
 |0,_,_,_,_,_=>none
 |k+1,x0,x1,x2,x3,x4=>q7n F (q3q F k) x0 x1 x2 x3 x4
def qli(F:Nat)(a0:LI)(a1:LI):Option (LI×Unit):=
 (q3q F F a1 [0,0,0,0] [0,0,0,255] a0 0).bind fun r1253=>
 some (r1253.2.1,())
def q6h(F:Nat)(a0:LI):Option (LI×Unit):=
 (qli F a0 [4,4,4]).bind fun r1254=>
 some (r1254.1,())
def etctwo_DistanceT1261:LI:=[3,6,11,16,23,32,41,64]
def q7o(F:Nat)(a0:Int):Option (Int×Unit):=
 let v1262:Int:=(iand .i64 a0 7)
 cond ((decide (0≤v1262))&&(decide (v1262<8)))
  (some ((y7 etctwo_DistanceT1261 (y6 v1262) 0),()))
   none
def q68(F:Nat)(rec:Int→LI→LI→Int→Option (LI×LI×Unit))(x0:Int)(x1:LI)(x2:LI)(x3:Int):Option (LI×LI×Unit):=
 cond (decide (x3<3))
  (let b1279:Bool:=((decide (0≤x3))&&(decide (x3<4)))
  cond b1279
   ((q6t F (y0 .i64 ((y7 x1 (y6 x3) 0)+x0)) 255).bind fun r1283=>
   cond b1279
    (rec x0 (yy x1 (y6 x3) r1283.1) x2 (y0 .i64 (x3+1)))
     none)
    none)
  (some (x1,x2,()))
def q2q(F:Nat):Nat→Int→LI→LI→Int→Option (LI×LI×Unit)
 |0,_,_,_,_=>none
 |k+1,x0,x1,x2,x3=>q68 F (q2q F k) x0 x1 x2 x3
def q0s(F:Nat)(a0:LI)(a1:Int):Option (LI×Unit):=
 (q2q F F a1 a0 [0,0,0,0] 0).bind fun r1286=>
 some (r1286.1,())
def q6i(F:Nat)(rec:LI→LI→LI→LI→Int→Option (LI×LI×Unit))(x0:LI)(x1:LI)(x2:LI)(x3:LI)(x4:Int):Option (LI×LI×Unit):=
 cond (decide (x4<16))
  (let b1332:Bool:=((decide (0≤x4))&&(decide (x4<16)))
  cond b1332
   (let v1333:Int:=(y7 x3 (y6 x4) 0)
   cond ((decide (0≤v1333))&&(decide (v1333<4)))
    (cond b1332
     (let n1337:Nat:=((y6 x4)*4)
     rec x0 x1 (((y8 n1337 x2)++(y8 4 (y9 ((y6 v1333)*4) x0)))++(y9 (n1337+4) x2)) x3 (y0 .i64 (x4+1)))
      none)
     none)
    none)
  (some (x1,x2,()))
def q24(F:Nat):Nat→LI→LI→LI→LI→Int→Option (LI×LI×Unit)
 |0,_,_,_,_,_=>none
 |k+1,x0,x1,x2,x3,x4=>q6i F (q24 F k) x0 x1 x2 x3 x4
def q5e(F:Nat)(a0:LI)(a1:Bool)(a2:Bool)(a3:LI)(a4:LI)(a5:LI)(a6:LI)(a7:Bool)(a8:LI):Option (LI×Unit):=
 (q24 F F a8 q04 q04 a6 0).bind fun r1340=>
 some (r1340.2.1,())
def qch(F:Nat)(a0:LI)(a1:Bool)(a2:Bool)(a3:LI)(a4:LI)(a5:LI)(a6:LI)(a7:Bool):Option (LI×Unit):=
 (q0f F a0 a1 a2 a3 a4 a5 a6 a7 [3,4,6,7]).bind fun r1343=>
 (q0c F a0 a1 a2 a3 a4 a5 a6 a7 8 11).bind fun r1344=>
 (q0c F a0 a1 a2 a3 a4 a5 a6 a7 12 15).bind fun r1345=>
 (q6h F [r1343.1,r1344.1,r1345.1]).bind fun r1346=>
 (q0c F a0 a1 a2 a3 a4 a5 a6 a7 16 19).bind fun r1347=>
 (q0c F a0 a1 a2 a3 a4 a5 a6 a7 20 23).bind fun r1348=>
 (q0c F a0 a1 a2 a3 a4 a5 a6 a7 24 27).bind fun r1349=>
 (q6h F [r1347.1,r1348.1,r1349.1]).bind fun r1350=>
 (q0f F a0 a1 a2 a3 a4 a5 a6 a7 [28,29,31]).bind fun r1351=>
 (q7o F r1351.1).bind fun r1352=>
 (q0s F r1350.1 r1352.1).bind fun r1353=>
 (q0s F r1350.1 (y0 .i64 (0-r1352.1))).bind fun r1355=>
 (q5e F a0 a1 a2 a3 a4 a5 a6 a7 (r1346.1++(r1353.1++(r1350.1++r1355.1)))).bind fun r1357=>
 some (r1357.1,())
def qhq:LI:=[1,2,3,4,5,6,7,11,12,14,15,16]
def qci(F:Nat)(a0:LI)(a1:Bool)(a2:Bool)(a3:LI)(a4:LI)(a5:LI)(a6:LI)(a7:Bool):Option (LI×Unit):=
 (q0c F a0 a1 a2 a3 a4 a5 a6 a7 1 4).bind fun r1409=>
 (q0f F a0 a1 a2 a3 a4 a5 a6 a7 [5,6,7,11]).bind fun r1410=>
 (q0f F a0 a1 a2 a3 a4 a5 a6 a7 [12,14,15,16]).bind fun r1411=>
 (q0c F a0 a1 a2 a3 a4 a5 a6 a7 17 20).bind fun r1412=>
 (q0c F a0 a1 a2 a3 a4 a5 a6 a7 21 24).bind fun r1413=>
 (q0c F a0 a1 a2 a3 a4 a5 a6 a7 25 28).bind fun r1414=>
 (q0f F a0 a1 a2 a3 a4 a5 a6 a7 [29,31]).bind fun r1415=>
 let v1416:Int:=(ishl .i64 r1415.1 1)
 (q0f F a0 a1 a2 a3 a4 a5 a6 a7 qhq).bind fun r1417=>
 (q0c F a0 a1 a2 a3 a4 a5 a6 a7 17 28).bind fun r1418=>
 cond (decide (r1418.1≤r1417.1))
  ((q6h F [r1409.1,r1410.1,r1411.1]).bind fun r1421=>
  (q6h F [r1412.1,r1413.1,r1414.1]).bind fun r1422=>
  (q7o F (y0 .i64 (v1416+1))).bind fun r1423=>
  (q0s F r1421.1 r1423.1).bind fun r1424=>
  let v1425:Int:=(y0 .i64 (0-r1423.1))
  (q0s F r1421.1 v1425).bind fun r1426=>
  (q0s F r1422.1 r1423.1).bind fun r1427=>
  (q0s F r1422.1 v1425).bind fun r1428=>
  (q5e F a0 a1 a2 a3 a4 a5 a6 a7 (r1424.1++(r1426.1++(r1427.1++r1428.1)))).bind fun r1430=>
  some (r1430.1,()))
  ((q6h F [r1409.1,r1410.1,r1411.1]).bind fun r1431=>
  (q6h F [r1412.1,r1413.1,r1414.1]).bind fun r1432=>
  (q7o F v1416).bind fun r1433=>
  (q0s F r1431.1 r1433.1).bind fun r1434=>
  let v1435:Int:=(y0 .i64 (0-r1433.1))
  (q0s F r1431.1 v1435).bind fun r1436=>
  (q0s F r1432.1 r1433.1).bind fun r1437=>
  (q0s F r1432.1 v1435).bind fun r1438=>
  (q5e F a0 a1 a2 a3 a4 a5 a6 a7 (r1434.1++(r1436.1++(r1437.1++r1438.1)))).bind fun r1440=>
  some (r1440.1,()))
def qdb(F:Nat)(a0:LI):Option (LI×Unit):=
 (qli F a0 [6,7,6]).bind fun r1467=>
 some (r1467.1,())
def qcj(F:Nat)(rec:LI→LI→LI→LI→LI→Int→Int→Int→Option (LI×LI×LI×LI×LI×Int×Unit))(x0:LI)(x1:LI)(x2:LI)(x3:LI)(x4:LI)(x5:Int)(x6:Int)(x7:Int):Option (LI×LI×LI×LI×LI×Int×Unit):=
 cond (decide (x7<3))
  (let b1606:Bool:=((decide (0≤x7))&&(decide (x7<4)))
  cond b1606
   (cond b1606
    (let v1609:Int:=(y7 x0 (y6 x7) 0)
    cond b1606
     (cond b1606
      (cond b1606
       ((q6t F (ishr .i64 (y0 .i64 ((y0 .i64 ((y0 .i64 ((y0 .i64 ((yw x5 4)*(y0 .i64 ((y7 x1 (y6 x7) 0)-v1609))))+(y0 .i64 ((y0 .i64 (yx x5 4))*(y0 .i64 ((y7 x2 (y6 x7) 0)-v1609))))))+(y0 .i64 (4*v1609))))+2)) 2) 255).bind fun r1621=>
       cond ((decide (0≤x5))&&(decide (x5<16)))
        (cond b1606
         (rec x0 x1 x2 x3 (yy x4 (((y6 x5)*4)+(y6 x7)) r1621.1) x5 x6 (y0 .i64 (x7+1)))
          none)
         none)
        none)
       none)
      none)
     none)
    none)
  (some (x0,x1,x2,x3,x4,x6,()))
def q5p(F:Nat):Nat→LI→LI→LI→LI→LI→Int→Int→Int→Option (LI×LI×LI×LI×LI×Int×Unit)
 |0,_,_,_,_,_,_,_,_=>none
 |k+1,x0,x1,x2,x3,x4,x5,x6,x7=>qcj F (q5p F k) x0 x1 x2 x3 x4 x5 x6 x7
def qck(F:Nat)(rec:LI→LI→LI→LI→LI→Int→Option (LI×LI×Unit))(x0:LI)(x1:LI)(x2:LI)(x3:LI)(x4:LI)(x5:Int):Option (LI×LI×Unit):=
 cond (decide (x5<16))
  (cond ((decide (0≤x5))&&(decide (x5<16)))
   ((q5p F F x0 x1 x2 x3 (yy x4 (3+((y6 x5)*4)) 255) x5 x5 0).bind fun r1627=>
   rec r1627.1 r1627.2.1 r1627.2.2.1 r1627.2.2.2.1 r1627.2.2.2.2.1 (y0 .i64 (r1627.2.2.2.2.2.1+1)))
    none)
  (some (x3,x4,()))
def q5q(F:Nat):Nat→LI→LI→LI→LI→LI→Int→Option (LI×LI×Unit)
 |0,_,_,_,_,_,_=>none
 |k+1,x0,x1,x2,x3,x4,x5=>qck F (q5q F k) x0 x1 x2 x3 x4 x5
def qnb(F:Nat)(a0:LI)(a1:LI)(a2:LI):Option (LI×Unit):=
 (q5q F F a0 a1 a2 q04 q04 0).bind fun r1629=>
 some (r1629.2.1,())
def q8d(F:Nat)(a0:LI)(a1:Bool)(a2:Bool)(a3:LI)(a4:LI)(a5:LI)(a6:LI)(a7:Bool):Option (LI×Unit):=
 (q0c F a0 a1 a2 a3 a4 a5 a6 a7 1 6).bind fun r1632=>
 (q0f F a0 a1 a2 a3 a4 a5 a6 a7 q9a).bind fun r1633=>
 (q0f F a0 a1 a2 a3 a4 a5 a6 a7 q9b).bind fun r1634=>
 (q0f F a0 a1 a2 a3 a4 a5 a6 a7 q9c).bind fun r1635=>
 (q0c F a0 a1 a2 a3 a4 a5 a6 a7 32 38).bind fun r1636=>
 (q0c F a0 a1 a2 a3 a4 a5 a6 a7 39 44).bind fun r1637=>
 (q0c F a0 a1 a2 a3 a4 a5 a6 a7 45 50).bind fun r1638=>
 (q0c F a0 a1 a2 a3 a4 a5 a6 a7 51 57).bind fun r1639=>
 (q0c F a0 a1 a2 a3 a4 a5 a6 a7 58 63).bind fun r1640=>
 (qdb F [r1632.1,r1633.1,r1634.1]).bind fun r1641=>
 (qdb F [r1635.1,r1636.1,r1637.1]).bind fun r1642=>
 (qdb F [r1638.1,r1639.1,r1640.1]).bind fun r1643=>
 (qnb F r1641.1 r1642.1 r1643.1).bind fun r1644=>
 some (r1644.1,())
def qba(F:Nat)(rec:LI→LI→Bool→Bool→LI→LI→LI→LI→Bool→Int→LI→LI→Int→Option (LI×LI×Unit))(x0:LI)(x1:LI)(x2:Bool)(x3:Bool)(x4:LI)(x5:LI)(x6:LI)(x7:LI)(x8:Bool)(x9:Int)(x10:LI)(x11:LI)(x12:Int):Option (LI×LI×Unit):=
 cond (decide (x12<16))
  (let b1214:Bool:=((decide (0≤x12))&&(decide (x12<16)))
  cond b1214
   (cond (!x8)
    (cond (x9 !=3)
     (cond ((y7 x11 (y6 x12) 0)==2)
      (cond b1214
       (let n1219:Nat:=((y6 x12)*4)
       rec x0 x1 x2 x3 x4 x5 x6 x7 x8 x9 (((y8 n1219 x10)++[0,0,0,0])++(y9 (n1219+4) x10)) x11 (y0 .i64 (x12+1)))
        none)
      (rec x0 x1 x2 x3 x4 x5 x6 x7 x8 x9 x10 x11 (y0 .i64 (x12+1))))
     (rec x0 x1 x2 x3 x4 x5 x6 x7 x8 x9 x10 x11 (y0 .i64 (x12+1))))
    (rec x0 x1 x2 x3 x4 x5 x6 x7 x8 x9 x10 x11 (y0 .i64 (x12+1))))
    none)
  (some (x0,x10,()))
def q1x(F:Nat):Nat→LI→LI→Bool→Bool→LI→LI→LI→LI→Bool→Int→LI→LI→Int→Option (LI×LI×Unit)
 |0,_,_,_,_,_,_,_,_,_,_,_,_,_=>none
 |k+1,x0,x1,x2,x3,x4,x5,x6,x7,x8,x9,x10,x11,x12=>qba F (q1x F k) x0 x1 x2 x3 x4 x5 x6 x7 x8 x9 x10 x11 x12
def qbb(F:Nat)(a0:LI)(a1:Bool):Option (LI×Int×Unit):=
 cond ((((ya a0):Nat):Int) !=8)
  (some (q04,1,()))
  ((qlh F a0 a1).bind fun r806=>
  (q7m F r806.1 r806.2.1 r806.2.2.1 r806.2.2.2.1 r806.2.2.2.2.1 r806.2.2.2.2.2.1 r806.2.2.2.2.2.2.1 r806.2.2.2.2.2.2.2.1).bind fun r949=>
  cond (r949.1==0)
   ((q8c F r806.1 r806.2.1 r806.2.2.1 r806.2.2.2.1 r806.2.2.2.2.1 r806.2.2.2.2.2.1 r806.2.2.2.2.2.2.1 r806.2.2.2.2.2.2.2.1).bind fun r1192=>
   (q1x F F q04 r806.1 r806.2.1 r806.2.2.1 r806.2.2.2.1 r806.2.2.2.2.1 r806.2.2.2.2.2.1 r806.2.2.2.2.2.2.1 r806.2.2.2.2.2.2.2.1 r949.1 r1192.1 r806.2.2.2.2.2.2.1 0).bind fun r1225=>
   some (r1225.2.1,0,()))
   (cond (r949.1==1)
    ((qch F r806.1 r806.2.1 r806.2.2.1 r806.2.2.2.1 r806.2.2.2.2.1 r806.2.2.2.2.2.1 r806.2.2.2.2.2.2.1 r806.2.2.2.2.2.2.2.1).bind fun r1358=>
    (q1x F F q04 r806.1 r806.2.1 r806.2.2.1 r806.2.2.2.1 r806.2.2.2.2.1 r806.2.2.2.2.2.1 r806.2.2.2.2.2.2.1 r806.2.2.2.2.2.2.2.1 r949.1 r1358.1 r806.2.2.2.2.2.2.1 0).bind fun r1372=>
    some (r1372.2.1,0,()))
    (cond (r949.1==2)
     ((qci F r806.1 r806.2.1 r806.2.2.1 r806.2.2.2.1 r806.2.2.2.2.1 r806.2.2.2.2.2.1 r806.2.2.2.2.2.2.1 r806.2.2.2.2.2.2.2.1).bind fun r1441=>
     (q1x F F q04 r806.1 r806.2.1 r806.2.2.1 r806.2.2.2.1 r806.2.2.2.2.1 r806.2.2.2.2.2.1 r806.2.2.2.2.2.2.1 r806.2.2.2.2.2.2.2.1 r949.1 r1441.1 r806.2.2.2.2.2.2.1 0).bind fun r1455=>
     some (r1455.2.1,0,()))
     (cond (r949.1==3)
      ((q8d F r806.1 r806.2.1 r806.2.2.1 r806.2.2.2.1 r806.2.2.2.2.1 r806.2.2.2.2.2.1 r806.2.2.2.2.2.2.1 r806.2.2.2.2.2.2.2.1).bind fun r1645=>
      (q1x F F q04 r806.1 r806.2.1 r806.2.2.1 r806.2.2.2.1 r806.2.2.2.2.1 r806.2.2.2.2.2.1 r806.2.2.2.2.2.2.1 r806.2.2.2.2.2.2.2.1 r949.1 r1645.1 r806.2.2.2.2.2.2.1 0).bind fun r1659=>
      some (r1659.2.1,0,()))
       none))))
def zhn(F:Nat)(a0:LI)(a1:Bool):Option (Int×Unit):=
 cond ((((ya a0):Nat):Int) !=8)
  (some (0,()))
  ((qlh F a0 a1).bind fun r1669=>
  (q7m F r1669.1 r1669.2.1 r1669.2.2.1 r1669.2.2.2.1 r1669.2.2.2.2.1 r1669.2.2.2.2.2.1 r1669.2.2.2.2.2.2.1 r1669.2.2.2.2.2.2.2.1).bind fun r1671=>
  some (r1671.1,()))
def qft(F:Nat)(a0:LI)(a1:Bool):Option ((Bool×Bool×LI×LI×LI×LI×Unit)×Unit):=
 cond a1
  ((q2b F a0 30 1 true 1).bind fun r2404=>
  (q6u F r2404.1).bind fun r2524=>
  some ((r2524.1.1,r2524.1.2.1,r2524.1.2.2.1,r2524.1.2.2.2.1,r2524.1.2.2.2.2.1,r2524.1.2.2.2.2.2.1,()),()))
  ((q6u F a0).bind fun r2525=>
  some ((r2525.1.1,r2525.1.2.1,r2525.1.2.2.1,r2525.1.2.2.2.1,r2525.1.2.2.2.2.1,r2525.1.2.2.2.2.2.1,()),()))
def z0p(F:Nat)(a0:LI)(a1:Bool):Option (Int×Unit):=
 cond ((((ya a0):Nat):Int) !=8)
  (some (0,()))
  ((qft F a0 a1).bind fun r2526=>
  (qag F (r2526.1.1,r2526.1.2.1,r2526.1.2.2.1,r2526.1.2.2.2.1,r2526.1.2.2.2.2.1,r2526.1.2.2.2.2.2.1,())).bind fun r2670=>
  cond (r2670.2.1==3)
   (some (0,()))
   (some ((y0 .i64 (r2670.2.1+1)),())))
def q2f(F:Nat)(a0:LI)(a1:Int)(a2:Int):Option (Int×Unit):=
 (q23 F a0 a1 (y0 .i64 ((y0 .i64 (a2-a1))+1))).bind fun r2679=>
 some (r2679.1,())
def qgz(F:Nat)(rec:LI→LI→Int→Int→Option (Int×Unit))(x0:LI)(x1:LI)(x2:Int)(x3:Int):Option (Int×Unit):=
 let v2704:Int:=(((ya x1):Nat):Int)
 cond (decide (x3<v2704))
  (cond ((decide (0≤x3))&&(decide (x3<(((ya x1):Nat):Int))))
   ((q23 F x0 (y7 x1 (y6 x3) 0) 1).bind fun r2710=>
   rec x0 x1 (y0 .i64 ((y0 .i64 (2*x2))+r2710.1)) (y0 .i64 (x3+1)))
    none)
  (some (x2,()))
def q8e(F:Nat):Nat→LI→LI→Int→Int→Option (Int×Unit)
 |0,_,_,_,_=>none
 |k+1,x0,x1,x2,x3=>qgz F (q8e F k) x0 x1 x2 x3
def q2r(F:Nat)(a0:LI)(a1:LI):Option (Int×Unit):=
 (q8e F F a0 a1 0 0).bind fun r2713=>
 some (r2713.1,())
def qfu(F:Nat)(a0:LI):Option (LI×Unit):=
 (q0e F (y7 a0 0 0) 6).bind fun r2723=>
 (q0e F (y7 a0 1 0) 7).bind fun r2725=>
 (q0e F (y7 a0 2 0) 6).bind fun r2727=>
 some ([r2723.1,r2725.1,r2727.1,255],())
def qe3(F:Nat)(rec:LI→LI→LI→LI→LI→Int→Int→Option (LI×LI×LI×LI×LI×Int×Unit))(x0:LI)(x1:LI)(x2:LI)(x3:LI)(x4:LI)(x5:Int)(x6:Int):Option (LI×LI×LI×LI×LI×Int×Unit):=
 cond (decide (x6<3))
  (let b2879:Bool:=((decide (0≤x6))&&(decide (x6<4)))
  cond b2879
   (cond b2879
    (let v2882:Int:=(y7 x0 (y6 x6) 0)
    cond b2879
     (cond b2879
      (cond b2879
       ((qhg F 0 (y0 .i64 ((y0 .i64 ((y0 .i64 ((y0 .i64 ((yw x5 4)*(y0 .i64 ((y7 x1 (y6 x6) 0)-v2882))))+(y0 .i64 ((y0 .i64 (yx x5 4))*(y0 .i64 ((y7 x2 (y6 x6) 0)-v2882))))))+(y0 .i64 (4*v2882))))+2)) 1 4 0).bind fun r2893=>
       (q5k F r2893.1 255).bind fun r2894=>
       cond ((decide (0≤x5))&&(decide (x5<16)))
        (cond b2879
         (rec x0 x1 x2 x3 (yy x4 (((y6 x5)*4)+(y6 x6)) r2894.1) x5 (y0 .i64 (x6+1)))
          none)
         none)
        none)
       none)
      none)
     none)
    none)
  (some (x0,x1,x2,x3,x4,x5,()))
def q6w(F:Nat):Nat→LI→LI→LI→LI→LI→Int→Int→Option (LI×LI×LI×LI×LI×Int×Unit)
 |0,_,_,_,_,_,_,_=>none
 |k+1,x0,x1,x2,x3,x4,x5,x6=>qe3 F (q6w F k) x0 x1 x2 x3 x4 x5 x6
def qe4(F:Nat)(rec:LI→LI→LI→LI→LI→Int→Option (LI×LI×Unit))(x0:LI)(x1:LI)(x2:LI)(x3:LI)(x4:LI)(x5:Int):Option (LI×LI×Unit):=
 cond (decide (x5<16))
  (cond ((decide (0≤x5))&&(decide (x5<16)))
   ((q6w F F x0 x1 x2 x3 (yy x4 (3+((y6 x5)*4)) 255) x5 0).bind fun r2900=>
   rec r2900.1 r2900.2.1 r2900.2.2.1 r2900.2.2.2.1 r2900.2.2.2.2.1 (y0 .i64 (r2900.2.2.2.2.2.1+1)))
    none)
  (some (x3,x4,()))
def q6x(F:Nat):Nat→LI→LI→LI→LI→LI→Int→Option (LI×LI×Unit)
 |0,_,_,_,_,_,_=>none
 |k+1,x0,x1,x2,x3,x4,x5=>qe4 F (q6x F k) x0 x1 x2 x3 x4 x5
def qsb(F:Nat)(a0:LI)(a1:LI)(a2:LI):Option (LI×Unit):=
 (q6x F F a0 a1 a2 q04 q04 0).bind fun r2902=>
 some (r2902.2.1,())
def qnc(F:Nat)(a0:LI):Option (LI×Unit):=
 (q2f F a0 1 6).bind fun r2680=>
 (q2r F a0 q9a).bind fun r2714=>
 (q2r F a0 q9b).bind fun r2715=>
 (q2r F a0 q9c).bind fun r2716=>
 (q2f F a0 32 38).bind fun r2717=>
 (q2f F a0 39 44).bind fun r2718=>
 (q2f F a0 45 50).bind fun r2719=>
 (q2f F a0 51 57).bind fun r2720=>
 (q2f F a0 58 63).bind fun r2721=>
 (qfu F [r2680.1,r2714.1,r2715.1]).bind fun r2728=>
 (qfu F [r2716.1,r2717.1,r2718.1]).bind fun r2729=>
 (qfu F [r2719.1,r2720.1,r2721.1]).bind fun r2730=>
 (qsb F r2728.1 r2729.1 r2730.1).bind fun r2903=>
 some (r2903.1,())
def q2g(F:Nat)(a0:LI):Option (LI×Unit):=
 (q0e F (y7 a0 0 0) 4).bind fun r2999=>
 (q0e F (y7 a0 1 0) 4).bind fun r3001=>
 (q0e F (y7 a0 2 0) 4).bind fun r3003=>
 some ([r2999.1,r3001.1,r3003.1,255],())
def q9d(F:Nat)(a0:Int):Option (Int×Unit):=
 let v3010:Int:=(yw a0 8)
 cond (decide (v3010<0))
  (let v3012:Int:=(y0 .i64 (v3010+8))
  cond ((decide (0≤v3012))&&(decide (v3012<8)))
   (some ((y7 etctwo_DistanceT1261 (y6 v3012) 0),()))
    none)
  (cond ((decide (0≤v3010))&&(decide (v3010<8)))
   (some ((y7 etctwo_DistanceT1261 (y6 v3010) 0),()))
    none)
def qhr(F:Nat)(a0:LI):Option (Int×Unit):=
 some ((y0 .i64 ((y0 .i64 ((y0 .i64 (256*(y7 a0 0 0)))+(y0 .i64 (16*(y7 a0 1 0)))))+(y7 a0 2 0))),())
def qfv(F:Nat)(a0:LI)(a1:Int):Option (LI×Unit):=
 cond (a1==1)
  ((q2r F a0 [3,4,6,7]).bind fun r2995=>
  (q2f F a0 8 11).bind fun r2996=>
  (q2f F a0 12 15).bind fun r2997=>
  (q2g F [r2995.1,r2996.1,r2997.1]).bind fun r3004=>
  (q2f F a0 16 19).bind fun r3005=>
  (q2f F a0 20 23).bind fun r3006=>
  (q2f F a0 24 27).bind fun r3007=>
  (q2g F [r3005.1,r3006.1,r3007.1]).bind fun r3008=>
  (q2r F a0 [28,29,31]).bind fun r3009=>
  (q9d F r3009.1).bind fun r3019=>
  (q1o F r3008.1 r3019.1).bind fun r3020=>
  (q1o F r3008.1 (y0 .i64 (0-r3019.1))).bind fun r3022=>
  some ((r3004.1++(r3020.1++(r3008.1++r3022.1))),()))
  ((q2f F a0 1 4).bind fun r3024=>
  (q2r F a0 [5,6,7,11]).bind fun r3025=>
  (q2r F a0 [12,14,15,16]).bind fun r3026=>
  (q2f F a0 17 20).bind fun r3027=>
  (q2f F a0 21 24).bind fun r3028=>
  (q2f F a0 25 28).bind fun r3029=>
  (q2r F a0 [29,31]).bind fun r3030=>
  let v3031:Int:=(y0 .i64 (2*r3030.1))
  (qhr F [r3024.1,r3025.1,r3026.1]).bind fun r3039=>
  (qhr F [r3027.1,r3028.1,r3029.1]).bind fun r3040=>
  cond (decide (r3040.1≤r3039.1))
   ((q9d F (y0 .i64 (v3031+1))).bind fun r3043=>
   (q2g F [r3024.1,r3025.1,r3026.1]).bind fun r3044=>
   (q1o F r3044.1 r3043.1).bind fun r3045=>
   (q2g F [r3024.1,r3025.1,r3026.1]).bind fun r3046=>
   let v3047:Int:=(y0 .i64 (0-r3043.1))
   (q1o F r3046.1 v3047).bind fun r3048=>
   (q2g F [r3027.1,r3028.1,r3029.1]).bind fun r3049=>
   (q1o F r3049.1 r3043.1).bind fun r3050=>
   (q2g F [r3027.1,r3028.1,r3029.1]).bind fun r3051=>
   (q1o F r3051.1 v3047).bind fun r3052=>
   some ((r3045.1++(r3048.1++(r3050.1++r3052.1))),()))
   ((q9d F v3031).bind fun r3054=>
   (q2g F [r3024.1,r3025.1,r3026.1]).bind fun r3055=>
   (q1o F r3055.1 r3054.1).bind fun r3056=>
   (q2g F [r3024.1,r3025.1,r3026.1]).bind fun r3057=>
   let v3058:Int:=(y0 .i64 (0-r3054.1))
   (q1o F r3057.1 v3058).bind fun r3059=>
   (q2g F [r3027.1,r3028.1,r3029.1]).bind fun r3060=>
   (q1o F r3060.1 r3054.1).bind fun r3061=>
   (q2g F [r3027.1,r3028.1,r3029.1]).bind fun r3062=>
   (q1o F r3062.1 v3058).bind fun r3063=>
   some ((r3056.1++(r3059.1++(r3061.1++r3063.1))),())))
def q30(F:Nat)(rec:LI→LI→Int→Bool→Bool→Bool→LI→LI→LI→LI→LI→LI→Int→Option (LI×LI×Unit))(x0:LI)(x1:LI)(x2:Int)(x3:Bool)(x4:Bool)(x5:Bool)(x6:LI)(x7:LI)(x8:LI)(x9:LI)(x10:LI)(x11:LI)(x12:Int):Option (LI×LI×Unit):=
 cond (decide (x12<16))
  (cond (x2==1)
   ((qfv F x0 x2).bind fun r3268=>
   let b3269:Bool:=((decide (0≤x12))&&(decide (x12<16)))
   cond b3269
    (let v3271:Int:=(y7 x9 (y6 x12) 0)
    cond ((decide (0≤v3271))&&(decide (v3271<4)))
     (cond b3269
      (let n3274:Nat:=((y6 x12)*4)
      let l3275:LI:=(((y8 n3274 x10)++(y8 4 (y9 ((y6 v3271)*4) r3268.1)))++(y9 (n3274+4) x10))
      cond (!x3)
       (cond b3269
        (cond (v3271==2)
         (cond b3269
          (rec x0 x1 x2 x3 x4 x5 x6 x7 x8 x9 (((y8 n3274 l3275)++[0,0,0,0])++(y9 (n3274+4) l3275)) x11 (y0 .i64 (x12+1)))
           none)
         (rec x0 x1 x2 x3 x4 x5 x6 x7 x8 x9 l3275 x11 (y0 .i64 (x12+1))))
         none)
       (rec x0 x1 x2 x3 x4 x5 x6 x7 x8 x9 l3275 x11 (y0 .i64 (x12+1))))
       none)
      none)
     none)
   (cond (x2==2)
    ((qfv F x0 x2).bind fun r3283=>
    let b3284:Bool:=((decide (0≤x12))&&(decide (x12<16)))
    cond b3284
     (let v3286:Int:=(y7 x9 (y6 x12) 0)
     cond ((decide (0≤v3286))&&(decide (v3286<4)))
      (cond b3284
       (let n3289:Nat:=((y6 x12)*4)
       let l3290:LI:=(((y8 n3289 x10)++(y8 4 (y9 ((y6 v3286)*4) r3283.1)))++(y9 (n3289+4) x10))
       cond (!x3)
        (cond b3284
         (cond (v3286==2)
          (cond b3284
           (rec x0 x1 x2 x3 x4 x5 x6 x7 x8 x9 (((y8 n3289 l3290)++[0,0,0,0])++(y9 (n3289+4) l3290)) x11 (y0 .i64 (x12+1)))
            none)
          (rec x0 x1 x2 x3 x4 x5 x6 x7 x8 x9 l3290 x11 (y0 .i64 (x12+1))))
          none)
        (rec x0 x1 x2 x3 x4 x5 x6 x7 x8 x9 l3290 x11 (y0 .i64 (x12+1))))
        none)
       none)
      none)
    (cond (!x3)
     (let b3298:Bool:=((decide (0≤x12))&&(decide (x12<16)))
     cond b3298
      (let v3300:Int:=(y7 x9 (y6 x12) 0)
      cond (v3300==0)
       ((qpm F x5 x12).bind fun r3302=>
       cond ((decide (0≤r3302.1))&&(decide (r3302.1<2)))
        (cond b3298
         (let n3306:Nat:=((y6 x12)*4)
         let l3307:LI:=(((y8 n3306 x10)++(y8 4 (y9 ((y6 r3302.1)*4) x11)))++(y9 (n3306+4) x10))
         cond (!x3)
          (cond b3298
           (cond (v3300==2)
            (cond b3298
             (rec x0 x1 x2 x3 x4 x5 x6 x7 x8 x9 (((y8 n3306 l3307)++[0,0,0,0])++(y9 (n3306+4) l3307)) x11 (y0 .i64 (x12+1)))
              none)
            (rec x0 x1 x2 x3 x4 x5 x6 x7 x8 x9 l3307 x11 (y0 .i64 (x12+1))))
            none)
          (rec x0 x1 x2 x3 x4 x5 x6 x7 x8 x9 l3307 x11 (y0 .i64 (x12+1))))
          none)
         none)
       (cond (!x3)
        (cond b3298
         (cond (v3300==2)
          (cond b3298
           (let n3314:Nat:=((y6 x12)*4)
           rec x0 x1 x2 x3 x4 x5 x6 x7 x8 x9 (((y8 n3314 x10)++[0,0,0,0])++(y9 (n3314+4) x10)) x11 (y0 .i64 (x12+1)))
            none)
          (rec x0 x1 x2 x3 x4 x5 x6 x7 x8 x9 x10 x11 (y0 .i64 (x12+1))))
          none)
        (rec x0 x1 x2 x3 x4 x5 x6 x7 x8 x9 x10 x11 (y0 .i64 (x12+1)))))
       none)
     (cond (!x3)
      (let b3319:Bool:=((decide (0≤x12))&&(decide (x12<16)))
      cond b3319
       (cond ((y7 x9 (y6 x12) 0)==2)
        (cond b3319
         (let n3323:Nat:=((y6 x12)*4)
         rec x0 x1 x2 x3 x4 x5 x6 x7 x8 x9 (((y8 n3323 x10)++[0,0,0,0])++(y9 (n3323+4) x10)) x11 (y0 .i64 (x12+1)))
          none)
        (rec x0 x1 x2 x3 x4 x5 x6 x7 x8 x9 x10 x11 (y0 .i64 (x12+1))))
        none)
      (rec x0 x1 x2 x3 x4 x5 x6 x7 x8 x9 x10 x11 (y0 .i64 (x12+1)))))))
  (some (x1,x10,()))
def q0m(F:Nat):Nat→LI→LI→Int→Bool→Bool→Bool→LI→LI→LI→LI→LI→LI→Int→Option (LI×LI×Unit)
 |0,_,_,_,_,_,_,_,_,_,_,_,_,_=>none
 |k+1,x0,x1,x2,x3,x4,x5,x6,x7,x8,x9,x10,x11,x12=>q30 F (q0m F k) x0 x1 x2 x3 x4 x5 x6 x7 x8 x9 x10 x11 x12
def q6j(F:Nat)(a0:LI)(a1:Bool):Option (LI×Int×Unit):=
 cond ((((ya a0):Nat):Int) !=8)
  (some (q04,1,()))
  ((z0p F a0 a1).bind fun r3195=>
  cond (r3195.1==3)
   ((qnc F a0).bind fun r3197=>
   some (r3197.1,0,()))
   (cond (!a1)
    ((qft F a0 a1).bind fun r3199=>
    (qcz F (r3199.1.1,r3199.1.2.1,r3199.1.2.2.1,r3199.1.2.2.2.1,r3199.1.2.2.2.2.1,r3199.1.2.2.2.2.2.1,())).bind fun r3200=>
    (qag F (r3199.1.1,r3199.1.2.1,r3199.1.2.2.1,r3199.1.2.2.2.1,r3199.1.2.2.2.2.1,r3199.1.2.2.2.2.2.1,())).bind fun r3201=>
    (q0m F F a0 q04 r3195.1 true r3199.1.1 r3199.1.2.1 r3199.1.2.2.1 r3199.1.2.2.2.1 r3199.1.2.2.2.2.1 r3199.1.2.2.2.2.2.1 r3200.1 r3201.1 0).bind fun r3328=>
    some (r3328.2.1,0,()))
    ((q23 F a0 30 1).bind fun r3329=>
    (qft F a0 a1).bind fun r3331=>
    (qcz F (r3331.1.1,r3331.1.2.1,r3331.1.2.2.1,r3331.1.2.2.2.1,r3331.1.2.2.2.2.1,r3331.1.2.2.2.2.2.1,())).bind fun r3332=>
    (qag F (r3331.1.1,r3331.1.2.1,r3331.1.2.2.1,r3331.1.2.2.2.1,r3331.1.2.2.2.2.1,r3331.1.2.2.2.2.2.1,())).bind fun r3333=>
    (q0m F F a0 q04 r3195.1 (r3329.1==1) r3331.1.1 r3331.1.2.1 r3331.1.2.2.1 r3331.1.2.2.2.1 r3331.1.2.2.2.2.1 r3331.1.2.2.2.2.2.1 r3332.1 r3333.1 0).bind fun r3397=>
    some (r3397.2.1,0,()))))
def z1y(F:Nat)(rec:Int→LI→Int→Option (LI×Unit))(x0:Int)(x1:LI)(x2:Int):Option (LI×Unit):=
 cond (decide (x2≤x0))
  (cond ((decide (((ya x1)+1)≤1099511627776))&&true)
   (rec x0 (x1++[x2]) (y0 .i64 (x2+1)))
    none)
  (some (x1,()))
def qk6(F:Nat):Nat→Int→LI→Int→Option (LI×Unit)
 |0,_,_,_=>none
 |k+1,x0,x1,x2=>z1y F (qk6 F k) x0 x1 x2
def q5f(F:Nat)(a0:Int)(a1:Int):Option (LI×Unit):=
 (qk6 F F a1 [] a0).bind fun r3491=>
 some (r3491.1,())
def qk7(F:Nat)(rec:LI→LI→Int→Int→Option (LI×Unit))(x0:LI)(x1:LI)(x2:Int)(x3:Int):Option (LI×Unit):=
 cond (decide (0≤x3))
  (cond ((decide (0≤x3))&&(decide (x3<(((ya x1):Nat):Int))))
   ((q2b F x0 (y7 x1 (y6 x3) 0) 1 true (y0 .u64 (yw x2 2))).bind fun r3561=>
   rec r3561.1 x1 (y0 .i64 (yx x2 2)) (y0 .i64 (x3-1)))
    none)
  (some (x0,()))
def q84(F:Nat):Nat→LI→LI→Int→Int→Option (LI×Unit)
 |0,_,_,_,_=>none
 |k+1,x0,x1,x2,x3=>qk7 F (q84 F k) x0 x1 x2 x3
def q46(F:Nat)(a0:LI)(a1:LI)(a2:Int):Option (LI×Unit):=
 (q84 F F a0 a1 a2 (y0 .i64 ((((ya a1):Nat):Int)-1))).bind fun r3565=>
 some (r3565.1,())
def qk8(F:Nat)(rec:LI→LI→LI→LI→Int→Option (Unit⊕(LI×LI×LI×Unit)))(x0:LI)(x1:LI)(x2:LI)(x3:LI)(x4:Int):Option (Unit⊕(LI×LI×LI×Unit)):=
 let n3692:Nat:=((ya x3)/3)
 cond (decide (x4<3))
  (let b3694:Bool:=((decide (0≤x4))&&(decide (x4<((n3692:Nat):Int))))
  cond b3694
   (let n3695:Nat:=((y6 x4)*3)
   (q78 F (y7 x3 n3695 0) 0 63).bind fun r3697=>
   cond (!r3697.1)
    (some (.inl ()))
    (cond b3694
     ((q78 F (y7 x3 (1+n3695) 0) 0 127).bind fun r3701=>
     cond (!r3701.1)
      (some (.inl ()))
      (cond b3694
       ((q78 F (y7 x3 (2+n3695) 0) 0 63).bind fun r3705=>
       cond (!r3705.1)
        (some (.inl ()))
        (rec x0 x1 x2 x3 (y0 .i64 (x4+1))))
        none))
      none))
    none)
  (some (.inr (x0,x1,x2,())))
def q58(F:Nat):Nat→LI→LI→LI→LI→Int→Option (Unit⊕(LI×LI×LI×Unit))
 |0,_,_,_,_,_=>none
 |k+1,x0,x1,x2,x3,x4=>qk8 F (q58 F k) x0 x1 x2 x3 x4
def qk9(F:Nat)(rec:LI→Int→Option (LI×Unit))(x0:LI)(x1:Int):Option (LI×Unit):=
 cond (decide (x1<2))
  ((q6u F x0).bind fun r3782=>
  let b3783:Bool:=((decide (0≤x1))&&(decide (x1<3)))
  cond b3783
   (cond b3783
    (let v3787:Int:=(y0 .i64 ((y7 r3782.1.2.2.1 (y6 x1) 0)+(y7 r3782.1.2.2.2.1 (y6 x1) 0)))
    cond (decide (v3787<0))
     ((q46 F x0 [(y0 .i64 (8*x1))] 1).bind fun r3790=>
     rec r3790.1 (y0 .i64 (x1+1)))
     (cond (decide (31<v3787))
      ((q46 F x0 [(y0 .i64 (8*x1))] 1).bind fun r3795=>
      rec r3795.1 (y0 .i64 (x1+1)))
      (rec x0 (y0 .i64 (x1+1)))))
     none)
    none)
  (some (x0,()))
def q6k(F:Nat):Nat→LI→Int→Option (LI×Unit)
 |0,_,_=>none
 |k+1,x0,x1=>qk9 F (q6k F k) x0 x1
def qwt(F:Nat)(a0:LI)(a1:LI)(a2:LI):Option (LI×Int×Unit):=
 (q58 F F a0 a1 a2 (a0++(a1++a2)) 0).bind fun r3708=>match r3708 with
  | .inl r3708=>(some ([],1,()))
  | .inr r3708=>((q5f F 1 6).bind fun r3710=>
   (q46 F qsa r3710.1 (y7 r3708.1 0 0)).bind fun r3712=>
   (q46 F r3712.1 q9a (y7 r3708.1 1 0)).bind fun r3715=>
   (q46 F r3715.1 q9b (y7 r3708.1 2 0)).bind fun r3718=>
   (q46 F r3718.1 q9c (y7 r3708.2.1 0 0)).bind fun r3721=>
   (q5f F 32 38).bind fun r3724=>
   (q46 F r3721.1 r3724.1 (y7 r3708.2.1 1 0)).bind fun r3726=>
   (q5f F 39 44).bind fun r3729=>
   (q46 F r3726.1 r3729.1 (y7 r3708.2.1 2 0)).bind fun r3731=>
   (q5f F 45 50).bind fun r3734=>
   (q46 F r3731.1 r3734.1 (y7 r3708.2.2.1 0 0)).bind fun r3736=>
   (q5f F 51 57).bind fun r3739=>
   (q46 F r3736.1 r3739.1 (y7 r3708.2.2.1 1 0)).bind fun r3741=>
   (q5f F 58 63).bind fun r3744=>
   (q46 F r3741.1 r3744.1 (y7 r3708.2.2.1 2 0)).bind fun r3746=>
   (q46 F r3746.1 [30] 1).bind fun r3748=>
   (q6k F F r3748.1 0).bind fun r3799=>
   (q2f F r3799.1 19 20).bind fun r3801=>
   (q2f F r3799.1 22 23).bind fun r3802=>
   let v3803:Int:=(y0 .i64 (r3801.1+r3802.1))
   cond (decide (4≤v3803))
    ((q46 F r3799.1 [16,17,18] 7).bind fun r3805=>
    some (r3805.1,0,()))
    ((q46 F r3799.1 [21] 1).bind fun r3807=>
    some (r3807.1,0,())))
def zho(F:Nat)(a0:Int):Option (Int×Unit):=
 some ((y0 .i64 (16+(y0 .i64 (3*(y0 .i64 ((y0 .i64 (4*(yw a0 4)))+(y0 .i64 (yx a0 4)))))))),())
def qfw:LI:=[0,0,0,0,0,0,0,0]
def qwu(F:Nat)(rec:LI→LI→LI→Int→Option (LI×LI×Unit))(x0:LI)(x1:LI)(x2:LI)(x3:Int):Option (LI×LI×Unit):=
 let n25:Nat:=((ya x1)/3)
 cond (decide (x3<16))
  (cond ((decide (0≤x3))&&(decide (x3<16)))
   (let v28:Int:=(y7 x2 (y6 x3) 0)
   (zho F x3).bind fun r29=>
   cond ((decide ((n25+1)≤1099511627776))&&(if(false=true)then(decide (0<1))else true))
    (rec x0 (x1++[r29.1,3,v28]) x2 (y0 .i64 (x3+1)))
     none)
    none)
  (some (x0,x1,()))
def qfx(F:Nat):Nat→LI→LI→LI→Int→Option (LI×LI×Unit)
 |0,_,_,_,_=>none
 |k+1,x0,x1,x2,x3=>qwu F (qfx F k) x0 x1 x2 x3
def qwv(F:Nat)(rec:LI→LI→Int→Int→Option (LI×Bool×Unit))(x0:LI)(x1:LI)(x2:Int)(x3:Int):Option (LI×Bool×Unit):=
 let n67:Nat:=((ya x1)/3)
 cond (decide (x3<x2))
  (cond ((decide (0≤x3))&&(decide (x3<((n67:Nat):Int))))
   (let l71:LI:=(y8 3 (y9 ((y6 x3)*3) x1))
   let l72:LI:=(if((0=0)∧(3=3))then l71 else(((y8 0 [0,0,0])++l71)++(y9 3 [0,0,0])))
   (q2t F x0 (y7 l72 0 0) (y7 l72 1 0) (y0 .u64 (y7 l72 2 0))).bind fun r77=>
   cond (r77.2.1 !=0)
    (some (x0,false,()))
    (rec r77.1 x1 x2 (y0 .i64 (x3+1))))
    none)
  (some (x0,true,()))
def qfy(F:Nat):Nat→LI→LI→Int→Int→Option (LI×Bool×Unit)
 |0,_,_,_,_=>none
 |k+1,x0,x1,x2,x3=>qwv F (qfy F k) x0 x1 x2 x3
def z6a(F:Nat)(a0:Int)(a1:Int)(a2:Int)(a3:LI):Option (LI×Int×Unit):=
 (qfx F F qfw [0,8,a0,8,4,a1,12,4,a2] (if((0=0)∧(16=16))then a3 else(y8 16 (y9 0 a3))) 0).bind fun r34=>
 (qfy F F r34.1 r34.2.1 ((((ya r34.2.1)/3):Nat):Int) 0).bind fun r81=>
 cond (!r81.2.1)
  (some ([],1,()))
  (some (r81.1,0,()))
def qai(F:Nat)(a0:Int)(a1:Int)(a2:LI):Option (Int×Unit):=
 (qdu F a2 a0 a1).bind fun r85=>
 some ((y0 .i64 r85.1),())
def q8f:LI:=[0,0,0,0,0,0,0,0,0,0,0,0,0,0,0,0]
def qbc(F:Nat)(rec:LI→LI→LI→Int→Option (LI×LI×LI×Unit))(x0:LI)(x1:LI)(x2:LI)(x3:Int):Option (LI×LI×LI×Unit):=
 cond (decide (x3<16))
  ((zho F x3).bind fun r100=>
  (qai F r100.1 3 x2).bind fun r101=>
  cond ((decide (0≤x3))&&(decide (x3<16)))
   (rec x0 (yy x1 (y6 x3) r101.1) x2 (y0 .i64 (x3+1)))
    none)
  (some (x0,x1,x2,()))
def q85(F:Nat):Nat→LI→LI→LI→Int→Option (LI×LI×LI×Unit)
 |0,_,_,_,_=>none
 |k+1,x0,x1,x2,x3=>qbc F (q85 F k) x0 x1 x2 x3
def z6b(F:Nat)(a0:LI):Option (Int×Int×Int×LI×Int×Unit):=
 cond ((((ya a0):Nat):Int) !=8)
  (some (0,0,0,q8f,1,()))
  ((q85 F F q8f q8f a0 0).bind fun r106=>
  (qai F 0 8 r106.2.2.1).bind fun r108=>
  (qai F 8 4 r106.2.2.1).bind fun r109=>
  (qai F 12 4 r106.2.2.1).bind fun r110=>
  some (r108.1,r109.1,r110.1,r106.2.1,0,()))
def zxy:LI:=[-3,-6,-9,-15,2,5,8,14,-3,-7,-10,-13,2,6,9,12,-2,-5,-8,-13,1,4,7,12,-2,-4,-6,-13,1,3,5,12,-3,-6,-8,-12,2,5,7,11,-3,-7,-9,-11,2,6,8,10,-4,-7,-8,-11,3,6,7,10,-3,-5,-8,-11,2,4,7,10,-2,-6,-8,-10,1,5,7,9,-2,-5,-8,-10,1,4,7,9,-2,-4,-8,-10,1,3,7,9,-2,-5,-7,-10,1,4,6,9,-3,-4,-7,-10,2,3,6,9,-1,-2,-3,-10,0,1,2,9,-4,-6,-8,-9,3,5,7,8,-3,-5,-7,-9,2,4,6,8]
def q6l(F:Nat)(a0:Int):Option (LI×Unit):=
 let v118:Int:=(iand .i64 a0 15)
 cond ((decide (0≤v118))&&(decide (v118<16)))
  (let l121:LI:=(y8 8 (y9 ((y6 v118)*8) zxy))
  let l122:LI:=(if((0=0)∧(8=8))then l121 else(((y8 0 qfw)++l121)++(y9 8 qfw)))
  some ((if((0=0)∧(8=8))then l122 else(y8 8 (y9 0 l122))),()))
   none
def qww(F:Nat)(a0:Int)(a1:Int)(a2:Int)(a3:Bool):Option (Int×Unit):=
 cond (!a3)
  ((q6t F (y0 .i64 (a0+(y0 .i64 (a2*a1)))) 255).bind fun r129=>
  some (r129.1,()))
  (cond (a1==0)
   ((q6t F (y0 .i64 ((y0 .i64 ((y0 .i64 (8*a0))+4))+a2)) 2047).bind fun r134=>
   some (r134.1,()))
   ((q6t F (y0 .i64 ((y0 .i64 (8*(y0 .i64 (a0+(y0 .i64 (a2*a1))))))+4)) 2047).bind fun r139=>
   some (r139.1,())))
def q9e(F:Nat)(rec:Bool→LI→Int→Int→LI→LI→LI→Int→Option (LI×LI×Unit))(x0:Bool)(x1:LI)(x2:Int)(x3:Int)(x4:LI)(x5:LI)(x6:LI)(x7:Int):Option (LI×LI×Unit):=
 cond (decide (x7<16))
  (let b167:Bool:=((decide (0≤x7))&&(decide (x7<16)))
  cond b167
   (let v168:Int:=(y7 x6 (y6 x7) 0)
   cond ((decide (0≤v168))&&(decide (v168<8)))
    ((qww F x2 x3 (y7 x5 (y6 v168) 0) x0).bind fun r172=>
    cond b167
     (rec x0 x1 x2 x3 (yy x4 (y6 x7) r172.1) x5 x6 (y0 .i64 (x7+1)))
      none)
     none)
    none)
  (some (x1,x4,()))
def q6m(F:Nat):Nat→Bool→LI→Int→Int→LI→LI→LI→Int→Option (LI×LI×Unit)
 |0,_,_,_,_,_,_,_,_=>none
 |k+1,x0,x1,x2,x3,x4,x5,x6,x7=>q9e F (q6m F k) x0 x1 x2 x3 x4 x5 x6 x7
def qkx(F:Nat)(a0:LI)(a1:Bool):Option (LI×Int×Unit):=
 (z6b F a0).bind fun r141=>
 let l142:LI:=(if((0=0)∧(16=16))then r141.2.2.2.1 else(((y8 0 q8f)++r141.2.2.2.1)++(y9 16 q8f)))
 cond (r141.2.2.2.2.1 !=0)
  (let l144:LI:=(if((0=0)∧(16=16))then l142 else(y8 16 (y9 0 l142)))
  let l145:LI:=(if((0=0)∧(16=16))then l144 else(((y8 0 q8f)++l144)++(y9 16 q8f)))
  some ((if((0=0)∧(16=16))then l145 else(y8 16 (y9 0 l145))),r141.2.2.2.2.1,()))
  ((q6l F r141.2.2.1).bind fun r147=>
  (q6m F F a1 q8f r141.1 r141.2.1 l142 (if((0=0)∧(8=8))then r147.1 else(((y8 0 qfw)++r147.1)++(y9 8 qfw))) (if((0=0)∧(16=16))then l142 else(y8 16 (y9 0 l142))) 0).bind fun r176=>
  let l177:LI:=(if((0=0)∧(16=16))then r176.2.1 else(y8 16 (y9 0 r176.2.1)))
  let l178:LI:=(if((0=0)∧(16=16))then l177 else(((y8 0 r176.1)++l177)++(y9 16 r176.1)))
  some ((if((0=0)∧(16=16))then l178 else(y8 16 (y9 0 l178))),0,()))
def qaj(F:Nat)(a0:Int):Option ((Int×Int×Bool×Unit)×Int×Unit):=
 cond (a0==1)
  (some ((8,7,false,()),0,()))
  (cond (a0==7)
   (some ((8,7,false,()),0,()))
   (cond (a0==8)
    (some ((8,7,false,()),0,()))
    (cond (a0==2)
     (some ((16,15,false,()),0,()))
     (cond (a0==3)
      (some ((16,15,false,()),0,()))
      (cond (a0==6)
       (some ((16,15,false,()),0,()))
       (cond (a0==10)
        (some ((16,15,false,()),0,()))
        (cond (a0==9)
         (some ((8,15,false,()),0,()))
         (cond (a0==4)
          (some ((8,1,(a0==11),()),0,()))
          (let b12:Bool:=(a0==11)
          cond b12
           (some ((8,1,b12,()),0,()))
           (cond (a0==5)
            (some ((16,3,(a0==12),()),0,()))
            (let b15:Bool:=(a0==12)
            cond b15
             (some ((16,3,b15,()),0,()))
             (some ((0,0,false,()),5,())))))))))))))
def q31:LI:=[0,0,0,0,0,0,0,0,0,0,0,0,0,0,0,0,0,0,0,0,0,0,0,0,0,0,0,0,0,0,0,0,0,0,0,0,0,0,0,0,0,0,0,0,0,0,0,0,0,0,0,0,0,0,0,0,0,0,0,0,0,0,0,0]
def qak(F:Nat)(a0:LI)(a1:Int):Option (LI×Unit):=
 some (a0,())
def qe5(F:Nat)(rec:Int→LI→LI→LI→Int→Option (LI×LI×Unit))(x0:Int)(x1:LI)(x2:LI)(x3:LI)(x4:Int):Option (LI×LI×Unit):=
 cond (decide (x4<16))
  (let b344:Bool:=((decide (0≤x4))&&(decide (x4<16)))
  cond b344
   (cond b344
    (cond ((decide (0≤x0))&&(decide (x0<4)))
     (rec x0 (yy x1 (((y6 x4)*4)+(y6 x0)) (y7 x3 (y6 x4) 0)) x2 x3 (y0 .i64 (x4+1)))
      none)
     none)
    none)
  (some (x1,x2,()))
def q9f(F:Nat):Nat→Int→LI→LI→LI→Int→Option (LI×LI×Unit)
 |0,_,_,_,_,_=>none
 |k+1,x0,x1,x2,x3,x4=>qe5 F (q9f F k) x0 x1 x2 x3 x4
def qfz(F:Nat)(a0:LI)(a1:Int)(a2:LI)(a3:Int):Option (LI×Unit):=
 (q9f F F a1 a0 q31 a2 0).bind fun r351=>
 some (r351.1,())
def qcl(F:Nat)(a0:LI)(a1:Int)(a2:Int)(a3:Bool):Option (LI×Int×Unit):=
 cond a3
  ((qkx F a0 true).bind fun r598=>
  some (r598.1,r598.2.1,()))
  ((qjp F a0).bind fun r599=>
  some (r599.1,r599.2.1,()))
def q13(F:Nat)(a0:LI)(a1:Int)(a2:LI)(a3:Int)(a4:Int)(a5:Bool):Option (LI×Unit):=
 (qcl F a2 a3 a4 a5).bind fun r603=>
 (qfz F a0 a1 r603.1 r603.2.1).bind fun r604=>
 some (r604.1,())
def qtn(F:Nat)(rec:Bool→LI→LI→Int→Option (LI×LI×Unit))(x0:Bool)(x1:LI)(x2:LI)(x3:Int):Option (LI×LI×Unit):=
 cond (decide (x3<16))
  (let b618:Bool:=((decide (0≤x3))&&(decide (x3<16)))
  cond b618
   (let n620:Nat:=(3+((y6 x3)*4))
   let l621:LI:=(yy x2 n620 255)
   cond x0
    (cond b618
     (rec x0 x1 (yy l621 n620 2047) (y0 .i64 (x3+1)))
      none)
    (rec x0 x1 l621 (y0 .i64 (x3+1))))
    none)
  (some (x1,x2,()))
def qe6(F:Nat):Nat→Bool→LI→LI→Int→Option (LI×LI×Unit)
 |0,_,_,_,_=>none
 |k+1,x0,x1,x2,x3=>qtn F (qe6 F k) x0 x1 x2 x3
def qal(F:Nat)(a0:Bool):Option (LI×Unit):=
 (qe6 F F a0 q31 q31 0).bind fun r625=>
 some (r625.2.1,())
def q0b(F:Nat)(a0:Int)(a1:(Int×Int×Bool×Unit))(a2:LI)(a3:LI)(a4:LI):Option (LI×Int×Unit):=
 cond (a0==2)
  ((qn6 F a2).bind fun r238=>
  (q7x F a3 true).bind fun r329=>
  (qak F r329.1 r329.2.1).bind fun r330=>
  (qfz F r330.1 3 r238.1 r238.2.1).bind fun r352=>
  some (r352.1,r238.2.1,()))
  (cond (a0==3)
   ((q7x F a3 true).bind fun r354=>
   (qak F r354.1 r354.2.1).bind fun r355=>
   (q13 F r355.1 3 a2 a1.1 a1.2.1 a1.2.2.1).bind fun r605=>
   some (r605.1,0,()))
   (cond (a0==4)
    ((qal F a1.2.2.1).bind fun r626=>
    (q13 F r626.1 0 a2 a1.1 a1.2.1 a1.2.2.1).bind fun r627=>
    some (r627.1,0,()))
    (cond (a0==11)
     ((qal F a1.2.2.1).bind fun r629=>
     (q13 F r629.1 0 a2 a1.1 a1.2.1 a1.2.2.1).bind fun r630=>
     some (r630.1,0,()))
     (cond (a0==5)
      ((qal F a1.2.2.1).bind fun r632=>
      (q13 F r632.1 0 a2 a1.1 a1.2.1 a1.2.2.1).bind fun r633=>
      (q13 F r633.1 1 a3 a1.1 a1.2.1 a1.2.2.1).bind fun r634=>
      some (r634.1,0,()))
      (cond (a0==12)
       ((qal F a1.2.2.1).bind fun r636=>
       (q13 F r636.1 0 a2 a1.1 a1.2.1 a1.2.2.1).bind fun r637=>
       (q13 F r637.1 1 a3 a1.1 a1.2.1 a1.2.2.1).bind fun r638=>
       some (r638.1,0,()))
       (cond (a0==6)
        ((qbq F a4).bind fun r2195=>
        some (r2195.1,r2195.2.1,()))
        (cond (a0==7)
         ((qjx F a4).bind fun r2588=>
         some (r2588.1,r2588.2.1,()))
         (cond (a0==8)
          ((qbb F a4 (a0==9)).bind fun r3387=>
          some (r3387.1,r3387.2.1,()))
          (let b3388:Bool:=(a0==9)
          cond b3388
           ((qbb F a4 b3388).bind fun r3389=>
           some (r3389.1,r3389.2.1,()))
           (cond (a0==10)
            ((qkx F a2 false).bind fun r3391=>
            (qbb F a3 false).bind fun r3392=>
            (qak F r3392.1 r3392.2.1).bind fun r3393=>
            (qfz F r3393.1 3 r3391.1 r3391.2.1).bind fun r3394=>
            some (r3394.1,r3391.2.1,()))
            ((q7x F a4 false).bind fun r3395=>
            some (r3395.1,r3395.2.1,()))))))))))))
def q8g(F:Nat)(a0:Int)(a1:LI):Option (LI×Int×Unit):=
 (qaj F a0).bind fun r20=>
 cond (r20.2.1 !=0)
  (some (q31,r20.2.1,()))
  (let v22:Int:=(((ya a1):Nat):Int)
  cond (v22 !=r20.1.1)
   (some (q31,1,()))
   (cond (decide (8≤(ya a1)))
    (let v25:Int:=(y0 .i64 (v22-8))
    cond ((decide (0≤v25))&&((decide ((y6 v25)≤(ya a1)))&&true))
     ((q0b F a0 (r20.1.1,r20.1.2.1,r20.1.2.2.1,()) (y8 8 a1) (y8 (psub (ya a1) (y6 v25)) (y9 (y6 v25) a1)) a1).bind fun r3398=>
     some (r3398.1,r3398.2.1,()))
      none)
     none))
def qcm(F:Nat)(rec:LI→LI→Int→Int→LI→Int→Option (LI×LI×Int×Unit))(x0:LI)(x1:LI)(x2:Int)(x3:Int)(x4:LI)(x5:Int):Option (LI×LI×Int×Unit):=
 cond (decide (x5<4))
  (let b3503:Bool:=((decide (0≤x5))&&(decide (x5<4)))
  cond b3503
   (let v3504:Int:=(y7 x4 (y6 x5) 0)
   cond ((decide (0≤x2))&&(decide (x2<16)))
    (cond b3503
     (rec (yy x0 (((y6 x2)*4)+(y6 x5)) (y0 .i64 ((y0 .i64 (8*v3504))+(y0 .i64 (yx v3504 32))))) x1 x2 x3 x4 (y0 .i64 (x5+1)))
      none)
     none)
    none)
  (some (x0,x1,x3,()))
def q7p(F:Nat):Nat→LI→LI→Int→Int→LI→Int→Option (LI×LI×Int×Unit)
 |0,_,_,_,_,_,_=>none
 |k+1,x0,x1,x2,x3,x4,x5=>qcm F (q7p F k) x0 x1 x2 x3 x4 x5
def qcn(F:Nat)(rec:LI→LI→Int→Option (LI×LI×Unit))(x0:LI)(x1:LI)(x2:Int):Option (LI×LI×Unit):=
 cond (decide (x2<16))
  (cond ((decide (0≤x2))&&(decide (x2<16)))
   ((q7p F F x0 x1 x2 x2 (y8 4 (y9 ((y6 x2)*4) x0)) 0).bind fun r3513=>
   rec r3513.1 r3513.2.1 (y0 .i64 (r3513.2.2.1+1)))
    none)
  (some (x0,x1,()))
def q7q(F:Nat):Nat→LI→LI→Int→Option (LI×LI×Unit)
 |0,_,_,_=>none
 |k+1,x0,x1,x2=>qcn F (q7q F k) x0 x1 x2
def qhs(F:Nat)(a0:Int)(a1:LI):Option (LI×Unit):=
 (qaj F a0).bind fun r3432=>
 cond (!r3432.1.2.2.1)
  (some (a1,()))
  ((q7q F F a1 q31 0).bind fun r3515=>
  some (r3515.1,()))
def qe7(F:Nat)(rec:Int→LI→LI→Int→Int→Int→Int→Option (Int×LI×LI×Int×Int×Unit))(x0:Int)(x1:LI)(x2:LI)(x3:Int)(x4:Int)(x5:Int)(x6:Int):Option (Int×LI×LI×Int×Int×Unit):=
 cond (decide (x6<4))
  (cond (decide (0≤x6))
   (cond ((iand .i64 (ishr .i64 x0 x6) 1)==1)
    (let b3612:Bool:=((decide (0≤x4))&&(decide (x4<16)))
    cond b3612
     (let b3614:Bool:=((decide (0≤x6))&&(decide (x6<4)))
     cond b3614
      (let n3615:Nat:=(((y6 x4)*4)+(y6 x6))
      cond b3612
       (cond b3614
        ((qaf F (y0 .i64 ((y7 x1 n3615 0)-(y7 x2 n3615 0)))).bind fun r3619=>
        rec x0 x1 x2 (y0 .i64 (x3+r3619.1)) x4 x5 (y0 .i64 (x6+1)))
         none)
        none)
       none)
      none)
    (rec x0 x1 x2 x3 x4 x5 (y0 .i64 (x6+1))))
    none)
  (some (x0,x1,x2,x3,x5,()))
def q9g(F:Nat):Nat→Int→LI→LI→Int→Int→Int→Int→Option (Int×LI×LI×Int×Int×Unit)
 |0,_,_,_,_,_,_,_=>none
 |k+1,x0,x1,x2,x3,x4,x5,x6=>qe7 F (q9g F k) x0 x1 x2 x3 x4 x5 x6
def qe8(F:Nat)(rec:Int→LI→LI→Int→Int→Option (Int×Unit))(x0:Int)(x1:LI)(x2:LI)(x3:Int)(x4:Int):Option (Int×Unit):=
 cond (decide (x4<16))
  ((q9g F F x0 x1 x2 x3 x4 x4 0).bind fun r3623=>
  rec r3623.1 r3623.2.1 r3623.2.2.1 r3623.2.2.2.1 (y0 .i64 (r3623.2.2.2.2.1+1)))
  (some (x3,()))
def q9h(F:Nat):Nat→Int→LI→LI→Int→Int→Option (Int×Unit)
 |0,_,_,_,_,_=>none
 |k+1,x0,x1,x2,x3,x4=>qe8 F (q9h F k) x0 x1 x2 x3 x4
def qsc(F:Nat)(a0:LI)(a1:LI)(a2:Int):Option (Int×Unit):=
 (q9h F F a2 a0 a1 0 0).bind fun r3625=>
 some (r3625.1,())
def qdc(F:Nat)(a0:Int)(a1:LI)(a2:LI):Option (Int×Int×Unit):=
 (q8g F a0 a1).bind fun r3429=>
 cond (r3429.2.1 !=0)
  (some (0,r3429.2.1,()))
  ((qaj F a0).bind fun r3431=>
  (qhs F a0 a2).bind fun r3516=>
  (qsc F r3516.1 r3429.1 r3431.1.2.1).bind fun r3626=>
  some (r3626.1,0,()))
def q4m(F:Nat)(rec:LI→Int→Int→Option (Unit⊕(LI×Int×Unit)))(x0:LI)(x1:Int)(x2:Int):Option (Unit⊕(LI×Int×Unit)):=
 cond (decide (x2<4))
  (let b3697:Bool:=((decide (0≤x1))&&(decide (x1<16)))
  cond b3697
   (let b3699:Bool:=((decide (0≤x2))&&(decide (x2<4)))
   cond b3699
    (let v3701:Int:=(y7 x0 (((y6 x1)*4)+(y6 x2)) 0)
    cond (decide (v3701<0))
     (some (.inl ()))
     (cond b3697
      (cond b3699
       (cond (decide (255<v3701))
        (some (.inl ()))
        (rec x0 x1 (y0 .i64 (x2+1))))
        none)
       none))
     none)
    none)
  (some (.inr (x0,x1,())))
def q1b(F:Nat):Nat→LI→Int→Int→Option (Unit⊕(LI×Int×Unit))
 |0,_,_,_=>none
 |k+1,x0,x1,x2=>q4m F (q1b F k) x0 x1 x2
def q4n(F:Nat)(rec:LI→Int→Option (Unit⊕Unit))(x0:LI)(x1:Int):Option (Unit⊕Unit):=
 cond (decide (x1<16))
  ((q1b F F x0 x1 0).bind fun r3705=>match r3705 with
   | .inl r3705=>(some (.inl ()))
   | .inr r3705=>(rec r3705.1 (y0 .i64 (r3705.2.1+1))))
  (some (.inr ()))
def q1c(F:Nat):Nat→LI→Int→Option (Unit⊕Unit)
 |0,_,_=>none
 |k+1,x0,x1=>q4n F (q1c F k) x0 x1
def q59(F:Nat)(a0:LI):Option (Bool×Unit):=
 (q1c F F a0 0).bind fun r3707=>match r3707 with
  | .inl r3707=>(some (false,()))
  | .inr r3707=>(some (true,()))
def qka(F:Nat)(a0:Int):Option ((Int×Int×Bool×Unit)×Int×Unit):=
 cond (decide (a0<1))
  (some ((0,0,false,()),5,()))
  (cond (decide (12<a0))
   (some ((0,0,false,()),5,()))
   (cond (a0==0)
    (some ((0,0,false,()),0,()))
    (cond (a0==1)
     (some ((8,7,false,()),0,()))
     (cond (a0==2)
      (some ((16,15,false,()),0,()))
      (cond (a0==3)
       (some ((16,15,false,()),0,()))
       (cond (a0==4)
        (some ((8,1,false,()),0,()))
        (cond (a0==5)
         (some ((16,3,false,()),0,()))
         (cond (a0==6)
          (some ((16,15,false,()),0,()))
          (cond (a0==7)
           (some ((8,7,false,()),0,()))
           (cond (a0==8)
            (some ((8,7,false,()),0,()))
            (cond (a0==9)
             (some ((8,15,false,()),0,()))
             (cond (a0==10)
              (some ((16,15,false,()),0,()))
              (cond (a0==11)
               (some ((8,1,true,()),0,()))
               (cond (a0==12)
                (some ((16,3,true,()),0,()))
                 none))))))))))))))
def q0l:LI:=[0,0,0,0,0,0,0,0,0,0,0,0,0,0,0,0,0,0,0,0,0,0,0,0,0,0,0,0,0,0,0,0,0,0,0,0,0,0,0,0,0,0,0,0,0,0,0,0,0,0,0,0,0,0,0,0,0,0,0,0,0,0,0,0]
def qe9(F:Nat)(rec:LI→LI→LI→Int→Option (LI×LI×Unit))(x0:LI)(x1:LI)(x2:LI)(x3:Int):Option (LI×LI×Unit):=
 cond (decide (x3<16))
  (cond ((decide (0≤x3))&&(decide (x3<16)))
   (let n9:Nat:=((y6 x3)*4)
   rec x0 x1 (((y8 n9 x2)++x0)++(y9 (n9+4) x2)) (y0 .i64 (x3+1)))
    none)
  (some (x1,x2,()))
def q9i(F:Nat):Nat→LI→LI→LI→Int→Option (LI×LI×Unit)
 |0,_,_,_,_=>none
 |k+1,x0,x1,x2,x3=>qe9 F (q9i F k) x0 x1 x2 x3
def qg0(F:Nat)(a0:LI):Option (LI×Unit):=
 (q9i F F a0 q0l q0l 0).bind fun r12=>
 some (r12.2.1,())
def q9j(F:Nat)(rec:LI→Int→LI→Int→Option (Unit⊕(LI×Int×Unit)))(x0:LI)(x1:Int)(x2:LI)(x3:Int):Option (Unit⊕(LI×Int×Unit)):=
 cond (decide (x3<4))
  (cond ((decide (0≤x3))&&(decide (x3<4)))
   (let v75:Int:=(y7 x2 (y6 x3) 0)
   cond (decide (v75<0))
    (some (.inl ()))
    (cond (decide (255<v75))
     (some (.inl ()))
     (rec x0 x1 x2 (y0 .i64 (x3+1)))))
    none)
  (some (.inr (x0,x1,())))
def q3r(F:Nat):Nat→LI→Int→LI→Int→Option (Unit⊕(LI×Int×Unit))
 |0,_,_,_,_=>none
 |k+1,x0,x1,x2,x3=>q9j F (q3r F k) x0 x1 x2 x3
def q9k(F:Nat)(rec:LI→Int→Option (Unit⊕Unit))(x0:LI)(x1:Int):Option (Unit⊕Unit):=
 cond (decide (x1<16))
  (cond ((decide (0≤x1))&&(decide (x1<16)))
   ((q3r F F x0 x1 (y8 4 (y9 ((y6 x1)*4) x0)) 0).bind fun r79=>match r79 with
    | .inl r79=>(some (.inl ()))
    | .inr r79=>(rec r79.1 (y0 .i64 (r79.2.1+1))))
    none)
  (some (.inr ()))
def q3s(F:Nat):Nat→LI→Int→Option (Unit⊕Unit)
 |0,_,_=>none
 |k+1,x0,x1=>q9k F (q3s F k) x0 x1
def q69(F:Nat)(a0:LI):Option (Bool×Unit):=
 (q3s F F a0 0).bind fun r81=>match r81 with
  | .inl r81=>(some (false,()))
  | .inr r81=>(some (true,()))
def qwx(F:Nat)(a0:Int)(a1:Int):Option (Int×Unit):=
 (q0n F a0 a1).bind fun r229=>
 some (r229.1,())
def q5g(F:Nat)(rec:Int→LI→Int→LI→Int→Int→Option (Int×Unit))(x0:Int)(x1:LI)(x2:Int)(x3:LI)(x4:Int)(x5:Int):Option (Int×Unit):=
 cond (decide (x5<x4))
  (cond ((decide (0≤x5))&&(decide (x5<(((ya x3):Nat):Int))))
   (cond ((decide (0≤x0))&&(decide (x0<(((ya x1):Nat):Int))))
    ((qaf F (y0 .i64 ((y7 x3 (y6 x5) 0)-(y7 x1 (y6 x0) 0)))).bind fun r338=>
    rec x0 x1 (y0 .i64 (x2+r338.1)) x3 x4 (y0 .i64 (x5+1)))
     none)
    none)
  (some (x2,()))
def q4q(F:Nat):Nat→Int→LI→Int→LI→Int→Int→Option (Int×Unit)
 |0,_,_,_,_,_,_=>none
 |k+1,x0,x1,x2,x3,x4,x5=>q5g F (q4q F k) x0 x1 x2 x3 x4 x5
def qkb(F:Nat)(a0:Int)(a1:LI)(a2:LI):Option (Int×Unit):=
 (q4q F F a0 a2 0 a1 (((ya a1):Nat):Int) 0).bind fun r341=>
 some (r341.1,())
def q0y(F:Nat)(rec:LI→LI→Int→Int→Int→Int→Option (Int×Unit))(x0:LI)(x1:LI)(x2:Int)(x3:Int)(x4:Int)(x5:Int):Option (Int×Unit):=
 cond (decide (x5<x4))
  ((qkb F x5 x0 x1).bind fun r398=>
  cond (x5==0)
   (rec x0 x1 x5 r398.1 x4 (y0 .i64 (x5+1)))
   (cond (decide (r398.1<x3))
    (rec x0 x1 x5 r398.1 x4 (y0 .i64 (x5+1)))
    (rec x0 x1 x2 x3 x4 (y0 .i64 (x5+1)))))
  (some (x2,()))
def q0u(F:Nat):Nat→LI→LI→Int→Int→Int→Int→Option (Int×Unit)
 |0,_,_,_,_,_,_=>none
 |k+1,x0,x1,x2,x3,x4,x5=>q0y F (q0u F k) x0 x1 x2 x3 x4 x5
def qd0(F:Nat)(a0:Int)(a1:LI)(a2:LI):Option (Int×Unit):=
 (q0u F F a1 a2 0 0 a0 0).bind fun r404=>
 some (r404.1,())
def qdd(F:Nat)(a0:LI)(a1:LI):Option (Int×Unit):=
 (qd0 F (((ya a0):Nat):Int) a1 a0).bind fun r405=>
 some (r405.1,())
def q6n(F:Nat)(rec:Int→Int→Int→LI→LI→Int→Option (Int×Int×LI×Unit))(x0:Int)(x1:Int)(x2:Int)(x3:LI)(x4:LI)(x5:Int):Option (Int×Int×LI×Unit):=
 cond (decide (x5<16))
  (cond ((decide (0≤x5))&&(decide (x5<16)))
   (let l426:LI:=(y8 4 (y9 ((y6 x5)*4) x4))
   cond ((decide (0≤x0))&&(decide (x0<4)))
    (let v429:Int:=(y7 l426 (y6 x0) 0)
    cond ((decide (((ya x3)+1)≤1099511627776))&&true)
     (rec x0 x1 x2 (x3++[v429]) x4 (y0 .i64 (x5+1)))
      none)
     none)
    none)
  (some (x1,x2,x3,()))
def q2s(F:Nat):Nat→Int→Int→Int→LI→LI→Int→Option (Int×Int×LI×Unit)
 |0,_,_,_,_,_,_=>none
 |k+1,x0,x1,x2,x3,x4,x5=>q6n F (q2s F k) x0 x1 x2 x3 x4 x5
def q2h(F:Nat)(rec:Int→LI→LI→Int→Int→Option (LI×LI×Unit))(x0:Int)(x1:LI)(x2:LI)(x3:Int)(x4:Int):Option (LI×LI×Unit):=
 cond (decide (x4<x3))
  ((qwx F x4 x0).bind fun r451=>
  cond ((decide (((ya x2)+1)≤1099511627776))&&true)
   (rec x0 x1 (x2++[r451.1]) x3 (y0 .i64 (x4+1)))
    none)
  (some (x1,x2,()))
def q25(F:Nat):Nat→Int→LI→LI→Int→Int→Option (LI×LI×Unit)
 |0,_,_,_,_,_=>none
 |k+1,x0,x1,x2,x3,x4=>q2h F (q25 F k) x0 x1 x2 x3 x4
def qbd(F:Nat)(a0:LI)(a1:Int)(a2:Int)(a3:Int):Option (Int×Unit):=
 (q2s F F a1 a2 a3 [] a0 0).bind fun r434=>
 (q25 F F r434.2.1 r434.2.2.1 [] r434.1 0).bind fun r456=>
 (qdd F r456.2.1 r456.1).bind fun r459=>
 some (r459.1,())
def qbr(F:Nat)(a0:LI)(a1:Int)(a2:Int):Option (Int×Unit):=
 cond (decide (0≤a2))
  ((qbd F a0 a1 (ishl .i64 1 a2) a2).bind fun r460=>
  some (r460.1,()))
   none
def q0a:LI:=[0,0,0,0,0,0,0,0,0,0,0,0,0,0,0,0]
def qco(F:Nat)(rec:Int→LI→LI→Int→Option (LI×LI×Unit))(x0:Int)(x1:LI)(x2:LI)(x3:Int):Option (LI×LI×Unit):=
 cond (decide (x3<16))
  (cond ((decide (0≤x3))&&(decide (x3<16)))
   (rec x0 x1 (yy x2 (y6 x3) x0) (y0 .i64 (x3+1)))
    none)
  (some (x1,x2,()))
def q5r(F:Nat):Nat→Int→LI→LI→Int→Option (LI×LI×Unit)
 |0,_,_,_,_=>none
 |k+1,x0,x1,x2,x3=>qco F (q5r F k) x0 x1 x2 x3
def q6o(F:Nat)(a0:Int):Option (LI×Unit):=
 (q5r F F a0 q0a q0a 0).bind fun r474=>
 some (r474.2.1,())
def z0q(F:Nat)(a0:LI):Option (LI×Unit):=
 (qbr F a0 0 5).bind fun r774=>
 (qbr F a0 1 6).bind fun r776=>
 (qbr F a0 2 5).bind fun r779=>
 let v780:Int:=(ior .i64 (ior .i64 (ishl .i64 r774.1 11) (ishl .i64 r776.1 5)) r779.1)
 (q6o F 0).bind fun r781=>
 (q7h F v780 v780 r781.1).bind fun r782=>
 some (r782.1,())
def qsd(F:Nat)(a0:Int):Option (Int×Unit):=
 some (a0,())
def q5x(F:Nat)(rec:Int→Int→LI→LI→Int→Option (Int×LI×Unit))(x0:Int)(x1:Int)(x2:LI)(x3:LI)(x4:Int):Option (Int×LI×Unit):=
 cond (decide (x4<16))
  (cond ((decide (0≤x4))&&(decide (x4<16)))
   (let l862:LI:=(y8 4 (y9 ((y6 x4)*4) x3))
   cond ((decide (0≤x0))&&(decide (x0<4)))
    (let v865:Int:=(y7 l862 (y6 x0) 0)
    cond ((decide (((ya x2)+1)≤1099511627776))&&true)
     (rec x0 x1 (x2++[v865]) x3 (y0 .i64 (x4+1)))
      none)
     none)
    none)
  (some (x1,x2,()))
def q2i(F:Nat):Nat→Int→Int→LI→LI→Int→Option (Int×LI×Unit)
 |0,_,_,_,_,_=>none
 |k+1,x0,x1,x2,x3,x4=>q5x F (q2i F k) x0 x1 x2 x3 x4
def q27(F:Nat)(rec:LI→LI→Int→Int→Option (LI×LI×Unit))(x0:LI)(x1:LI)(x2:Int)(x3:Int):Option (LI×LI×Unit):=
 cond (decide (x3<x2))
  ((qsd F x3).bind fun r887=>
  cond ((decide (((ya x1)+1)≤1099511627776))&&true)
   (rec x0 (x1++[r887.1]) x2 (y0 .i64 (x3+1)))
    none)
  (some (x0,x1,()))
def q1p(F:Nat):Nat→LI→LI→Int→Int→Option (LI×LI×Unit)
 |0,_,_,_,_=>none
 |k+1,x0,x1,x2,x3=>q27 F (q1p F k) x0 x1 x2 x3
def qea(F:Nat)(a0:LI)(a1:Int)(a2:Int):Option (Int×Unit):=
 (q2i F F a1 a2 [] a0 0).bind fun r870=>
 (q1p F F r870.2.1 [] r870.1 0).bind fun r892=>
 (qdd F r892.2.1 r892.1).bind fun r895=>
 some (r895.1,())
def qpp(F:Nat)(a0:LI)(a1:Int):Option (Int×Unit):=
 (qea F a0 a1 256).bind fun r896=>
 some (r896.1,())
def qlj(F:Nat)(a0:LI)(a1:Int):Option (LI×Unit):=
 (qpp F a0 a1).bind fun r921=>
 (q6o F 0).bind fun r922=>
 (q5j F r921.1 r921.1 r922.1).bind fun r923=>
 some (r923.1,())
def qoj(F:Nat)(a0:Int)(a1:Int):Option (Int×Unit):=
 some ((y0 .i64 ((y0 .i64 (2*a0))+a1)),())
def q4w(F:Nat)(rec:Int→Int→Int→LI→LI→Int→Option (Int×Int×LI×Unit))(x0:Int)(x1:Int)(x2:Int)(x3:LI)(x4:LI)(x5:Int):Option (Int×Int×LI×Unit):=
 cond (decide (x5<16))
  (cond ((decide (0≤x5))&&(decide (x5<16)))
   (let l1020:LI:=(y8 4 (y9 ((y6 x5)*4) x4))
   cond ((decide (0≤x0))&&(decide (x0<4)))
    (let v1023:Int:=(y7 l1020 (y6 x0) 0)
    cond ((decide (((ya x3)+1)≤1099511627776))&&true)
     (rec x0 x1 x2 (x3++[v1023]) x4 (y0 .i64 (x5+1)))
      none)
     none)
    none)
  (some (x1,x2,x3,()))
def q28(F:Nat):Nat→Int→Int→Int→LI→LI→Int→Option (Int×Int×LI×Unit)
 |0,_,_,_,_,_,_=>none
 |k+1,x0,x1,x2,x3,x4,x5=>q4w F (q28 F k) x0 x1 x2 x3 x4 x5
def q1z(F:Nat)(rec:Int→LI→LI→Int→Int→Option (LI×LI×Unit))(x0:Int)(x1:LI)(x2:LI)(x3:Int)(x4:Int):Option (LI×LI×Unit):=
 cond (decide (x4<x3))
  ((qoj F x4 x0).bind fun r1045=>
  cond ((decide (((ya x2)+1)≤1099511627776))&&true)
   (rec x0 x1 (x2++[r1045.1]) x3 (y0 .i64 (x4+1)))
    none)
  (some (x1,x2,()))
def q1e(F:Nat):Nat→Int→LI→LI→Int→Int→Option (LI×LI×Unit)
 |0,_,_,_,_,_=>none
 |k+1,x0,x1,x2,x3,x4=>q1z F (q1e F k) x0 x1 x2 x3 x4
def q8h(F:Nat)(a0:LI)(a1:Int)(a2:Int)(a3:Int):Option (Int×Unit):=
 (q28 F F a1 a2 a3 [] a0 0).bind fun r1028=>
 (q1e F F r1028.2.1 r1028.2.2.1 [] r1028.1 0).bind fun r1050=>
 (qdd F r1050.2.1 r1050.1).bind fun r1053=>
 some (r1053.1,())
def qeb(F:Nat)(rec:LI→Int→LI→Int→Option (Int×LI×Unit))(x0:LI)(x1:Int)(x2:LI)(x3:Int):Option (Int×LI×Unit):=
 cond (decide (x3<4))
  ((q8h F x0 x3 128 x1).bind fun r1243=>
  cond ((decide (0≤x3))&&(decide (x3<4)))
   (rec x0 x1 (yy x2 (y6 x3) r1243.1) (y0 .i64 (x3+1)))
    none)
  (some (x1,x2,()))
def q6y(F:Nat):Nat→LI→Int→LI→Int→Option (Int×LI×Unit)
 |0,_,_,_,_=>none
 |k+1,x0,x1,x2,x3=>qeb F (q6y F k) x0 x1 x2 x3
def qlk(F:Nat)(a0:Int)(a1:LI):Option (LI×Unit):=
 (q6y F F a1 a0 [0,0,0,0] 0).bind fun r1248=>
 (q6o F 0).bind fun r1250=>
 (qfs F (r1248.2.1++r1248.2.1) [r1248.1,r1248.1] r1250.1).bind fun r1251=>
 some (r1251.1,())
def qll(F:Nat)(a0:Int)(a1:LI)(a2:LI)(a3:LI):Option (LI×Unit):=
 (qdc F a0 a2 a1).bind fun r4705=>
 (qdc F a0 a3 a1).bind fun r4706=>
 cond (decide (r4706.1<r4705.1))
  (some (a3,()))
  (some (a2,()))
def zsd(F:Nat)(a0:LI):Option (LI×Unit):=
 (qlk F 0 a0).bind fun r4710=>
 (qlk F 1 a0).bind fun r4712=>
 (qll F 6 a0 r4710.1 r4712.1).bind fun r4714=>
 some (r4714.1,())
def qok(F:Nat)(a0:Int):Option (Int×Unit):=
 (q0n F a0 5).bind fun r4750=>
 (q6t F (y0 .i64 (r4750.1+2)) 255).bind fun r4752=>
 some (r4752.1,())
def q4x(F:Nat)(rec:Int→Int→LI→LI→Int→Option (Int×LI×Unit))(x0:Int)(x1:Int)(x2:LI)(x3:LI)(x4:Int):Option (Int×LI×Unit):=
 cond (decide (x4<16))
  (cond ((decide (0≤x4))&&(decide (x4<16)))
   (let l4794:LI:=(y8 4 (y9 ((y6 x4)*4) x3))
   cond ((decide (0≤x0))&&(decide (x0<4)))
    (let v4797:Int:=(y7 l4794 (y6 x0) 0)
    cond ((decide (((ya x2)+1)≤1099511627776))&&true)
     (rec x0 x1 (x2++[v4797]) x3 (y0 .i64 (x4+1)))
      none)
     none)
    none)
  (some (x1,x2,()))
def q29(F:Nat):Nat→Int→Int→LI→LI→Int→Option (Int×LI×Unit)
 |0,_,_,_,_,_=>none
 |k+1,x0,x1,x2,x3,x4=>q4x F (q29 F k) x0 x1 x2 x3 x4
def q20(F:Nat)(rec:LI→LI→Int→Int→Option (LI×LI×Unit))(x0:LI)(x1:LI)(x2:Int)(x3:Int):Option (LI×LI×Unit):=
 cond (decide (x3<x2))
  ((qok F x3).bind fun r4819=>
  cond ((decide (((ya x1)+1)≤1099511627776))&&true)
   (rec x0 (x1++[r4819.1]) x2 (y0 .i64 (x3+1)))
    none)
  (some (x0,x1,()))
def q1f(F:Nat):Nat→LI→LI→Int→Int→Option (LI×LI×Unit)
 |0,_,_,_,_=>none
 |k+1,x0,x1,x2,x3=>q20 F (q1f F k) x0 x1 x2 x3
def q8i(F:Nat)(a0:LI)(a1:Int)(a2:Int):Option (Int×Unit):=
 (q29 F F a1 a2 [] a0 0).bind fun r4802=>
 (q1f F F r4802.2.1 [] r4802.1 0).bind fun r4824=>
 (qdd F r4824.2.1 r4824.1).bind fun r4827=>
 some (r4827.1,())
def qec(F:Nat)(rec:LI→LI→LI→LI→LI→Int→Option (LI×LI×LI×LI×Unit))(x0:LI)(x1:LI)(x2:LI)(x3:LI)(x4:LI)(x5:Int):Option (LI×LI×LI×LI×Unit):=
 cond (decide (x5<3))
  ((q8i F x0 x5 32).bind fun r5359=>
  cond ((decide (0≤x5))&&(decide (x5<3)))
   (rec x0 (yy x1 (y6 x5) r5359.1) x2 x3 x4 (y0 .i64 (x5+1)))
    none)
  (some (x1,x2,x3,x4,()))
def q6z(F:Nat):Nat→LI→LI→LI→LI→LI→Int→Option (LI×LI×LI×LI×Unit)
 |0,_,_,_,_,_,_=>none
 |k+1,x0,x1,x2,x3,x4,x5=>qec F (q6z F k) x0 x1 x2 x3 x4 x5
def qse(F:Nat)(a0:LI):Option (LI×Unit):=
 (q6z F F a0 [0,0,0] [0,0,0] [0,0] q0a 0).bind fun r5364=>
 (qlf F (true,false,r5364.1,r5364.2.1,r5364.2.2.1,r5364.2.2.2.1,())).bind fun r5365=>
 some (r5365.1,())
def qg1(F:Nat)(a0:LI):Option (LI×Unit):=
 (qbr F a0 0 6).bind fun r5758=>
 (qbr F a0 1 7).bind fun r5759=>
 (qbr F a0 2 6).bind fun r5760=>
 (qpo F [r5758.1,r5759.1,r5760.1] [r5758.1,r5759.1,r5760.1] [r5758.1,r5759.1,r5760.1]).bind fun r5761=>
 some (r5761.1,())
def qam:LI:=[0,0,0,0,255,255,0,0]
def qsf(F:Nat)(a0:Int):Option (Int×Unit):=
 (qww F a0 1 0 true).bind fun r5962=>
 some (r5962.1,())
def q5y(F:Nat)(rec:Int→Int→LI→LI→Int→Option (Int×LI×Unit))(x0:Int)(x1:Int)(x2:LI)(x3:LI)(x4:Int):Option (Int×LI×Unit):=
 cond (decide (x4<16))
  (cond ((decide (0≤x4))&&(decide (x4<16)))
   (let l6004:LI:=(y8 4 (y9 ((y6 x4)*4) x3))
   cond ((decide (0≤x0))&&(decide (x0<4)))
    (let v6007:Int:=(y7 l6004 (y6 x0) 0)
    cond ((decide (((ya x2)+1)≤1099511627776))&&true)
     (rec x0 x1 (x2++[v6007]) x3 (y0 .i64 (x4+1)))
      none)
     none)
    none)
  (some (x1,x2,()))
def q2j(F:Nat):Nat→Int→Int→LI→LI→Int→Option (Int×LI×Unit)
 |0,_,_,_,_,_=>none
 |k+1,x0,x1,x2,x3,x4=>q5y F (q2j F k) x0 x1 x2 x3 x4
def q2a(F:Nat)(rec:LI→LI→Int→Int→Option (LI×LI×Unit))(x0:LI)(x1:LI)(x2:Int)(x3:Int):Option (LI×LI×Unit):=
 cond (decide (x3<x2))
  ((qsf F x3).bind fun r6029=>
  cond ((decide (((ya x1)+1)≤1099511627776))&&true)
   (rec x0 (x1++[r6029.1]) x2 (y0 .i64 (x3+1)))
    none)
  (some (x0,x1,()))
def q1q(F:Nat):Nat→LI→LI→Int→Int→Option (LI×LI×Unit)
 |0,_,_,_,_=>none
 |k+1,x0,x1,x2,x3=>q2a F (q1q F k) x0 x1 x2 x3
def qa5(F:Nat)(a0:LI)(a1:Int)(a2:Int):Option (Int×Unit):=
 (q2j F F a1 a2 [] a0 0).bind fun r6012=>
 (q1q F F r6012.2.1 [] r6012.1 0).bind fun r6034=>
 (qdd F r6034.2.1 r6034.1).bind fun r6037=>
 some (r6037.1,())
def qky(F:Nat)(a0:LI)(a1:Int):Option (LI×Unit):=
 (qa5 F a0 a1 256).bind fun r6042=>
 (q6o F 4).bind fun r6043=>
 (z6a F r6042.1 1 13 r6043.1).bind fun r6044=>
 some (r6044.1,())
def q0q(F:Nat)(a0:Int)(a1:LI):Option (LI×Unit):=
 let b6058:Bool:=(a0==2)
 cond b6058
  ((qbr F a1 3 4).bind fun r6059=>
  (q6o F r6059.1).bind fun r6060=>
  (q4o F r6060.1).bind fun r6061=>
  let n6062:Nat:=(ya r6061.1)
  (z0q F a1).bind fun r6063=>
  let n6064:Nat:=(ya r6063.1)
  cond ((decide ((n6062+n6064)≤1099511627776))&&true)
   (some ((r6061.1++r6063.1),()))
    none)
  (let b6068:Bool:=(a0==3)
  cond b6068
   ((qlj F a1 3).bind fun r6069=>
   let n6070:Nat:=(ya r6069.1)
   (z0q F a1).bind fun r6071=>
   let n6072:Nat:=(ya r6071.1)
   cond ((decide ((n6070+n6072)≤1099511627776))&&true)
    (some ((r6069.1++r6071.1),()))
     none)
   (let b6076:Bool:=(a0==4)
   cond b6076
    ((qlj F a1 0).bind fun r6077=>
    some (r6077.1,()))
    (let b6079:Bool:=(a0==5)
    cond b6079
     ((qlj F a1 0).bind fun r6080=>
     let n6081:Nat:=(ya r6080.1)
     (qlj F a1 1).bind fun r6082=>
     let n6083:Nat:=(ya r6082.1)
     cond ((decide ((n6081+n6083)≤1099511627776))&&true)
      (some ((r6080.1++r6082.1),()))
       none)
     (let b6087:Bool:=(a0==6)
     cond b6087
      ((zsd F a1).bind fun r6088=>
      some (r6088.1,()))
      (let b6090:Bool:=(a0==7)
      cond b6090
       ((qse F a1).bind fun r6091=>
       some (r6091.1,()))
       (let b6093:Bool:=(a0==8)
       cond b6093
        ((qg1 F a1).bind fun r6094=>
        some (r6094.1,()))
        (let b6096:Bool:=(a0==9)
        cond b6096
         ((qg1 F a1).bind fun r6097=>
         (qll F a0 a1 r6097.1 qam).bind fun r6099=>
         some (r6099.1,()))
         (let b6101:Bool:=(a0==10)
         cond b6101
          ((qpp F a1 3).bind fun r6102=>
          (q6o F 0).bind fun r6103=>
          (z6a F r6102.1 0 0 r6103.1).bind fun r6104=>
          let n6105:Nat:=(ya r6104.1)
          (qg1 F a1).bind fun r6106=>
          let n6107:Nat:=(ya r6106.1)
          cond ((decide ((n6105+n6107)≤1099511627776))&&true)
           (some ((r6104.1++r6106.1),()))
            none)
          (let b6111:Bool:=(a0==11)
          cond b6111
           ((qky F a1 0).bind fun r6112=>
           some (r6112.1,()))
           (let b6114:Bool:=(a0==12)
           cond b6114
            ((qky F a1 0).bind fun r6115=>
            let n6116:Nat:=(ya r6115.1)
            (qky F a1 1).bind fun r6117=>
            let n6118:Nat:=(ya r6117.1)
            cond ((decide ((n6116+n6118)≤1099511627776))&&true)
             (some ((r6115.1++r6117.1),()))
              none)
            ((z0q F a1).bind fun r6122=>
            some (r6122.1,()))))))))))))
def q3d(F:Nat)(a0:Int)(a1:LI):Option (LI×Int×Unit):=
 (qaj F a0).bind fun r6126=>
 cond (r6126.2.1 !=0)
  (some ([],r6126.2.1,()))
  ((q69 F a1).bind fun r6128=>
  cond (!r6128.1)
   (some ([],1,()))
   ((qhs F a0 a1).bind fun r6130=>
   (q0q F a0 r6130.1).bind fun r6131=>
   some (r6131.1,0,())))
def qan(F:Nat)(a0:Int)(a1:LI):Option (LI×Int×Unit):=
 (q3d F a0 a1).bind fun r6135=>
 cond (r6135.2.1 !=0)
  (some ([0,0,0,0],r6135.2.1,()))
  ((q8g F a0 r6135.1).bind fun r6138=>
  some ((y8 4 r6138.1),r6138.2.1,()))
def qh0(F:Nat)(rec:Int→LI→LI→Int→Option (Int×LI×Unit))(x0:Int)(x1:LI)(x2:LI)(x3:Int):Option (Int×LI×Unit):=
 cond (decide (x3<16))
  (cond ((decide (0≤x3))&&(decide (x3<16)))
   (let n6166:Nat:=((y6 x3)*4)
   rec x0 x1 (((y8 n6166 x2)++x1)++(y9 (n6166+4) x2)) (y0 .i64 (x3+1)))
    none)
  (some (x0,x2,()))
def q4y(F:Nat):Nat→Int→LI→LI→Int→Option (Int×LI×Unit)
 |0,_,_,_,_=>none
 |k+1,x0,x1,x2,x3=>qh0 F (q4y F k) x0 x1 x2 x3
def q9l(F:Nat)(a0:Int)(a1:LI):Option (Bool×Unit):=
 (q4y F F a0 a1 q0l 0).bind fun r6169=>
 (q3d F r6169.1 r6169.2.1).bind fun r6170=>
 cond (r6170.2.1 !=0)
  (some (false,()))
  ((qdc F r6169.1 r6170.1 r6169.2.1).bind fun r6173=>
  some ((r6173.1==0),()))
def qsg(F:Nat):Option (Bool×Unit):=
 (qg0 F [7,1,2,3]).bind fun r13=>
 (q3d F 4 r13.1).bind fun r6133=>
 let n6134:Nat:=(ya r6133.1)
 (qan F 7 q0l).bind fun r6140=>
 (q3d F 0 q0l).bind fun r6141=>
 cond (r6133.2.1==0)
  (cond (((n6134:Nat):Int)==8)
   (cond (decide (0<((n6134:Nat):Int)))
    (cond ((y7 r6133.1 0 0)==7)
     (cond (decide (1<((n6134:Nat):Int)))
      (cond ((y7 r6133.1 1 0)==7)
       (cond (decide (2<((n6134:Nat):Int)))
        (cond ((y7 r6133.1 2 0)==0)
         (cond (r6140.2.1==0)
          (cond (r6140.1==[2,2,2,255])
           (cond (r6141.2.1==5)
            ((q9l F 6 [1,3,255,7]).bind fun r6175=>
            cond r6175.1
             ((q9l F 6 [1,2,255,7]).bind fun r6176=>
             some ((!r6176.1),()))
             (some (false,())))
            (some (false,())))
           (some (false,())))
          (some (false,())))
         (some (false,())))
         none)
       (some (false,())))
       none)
     (some (false,())))
     none)
   (some (false,())))
  (some (false,()))
def qed(F:Nat)(rec:LI→LI→Int→Int→Bool→Int→Int→Bool→Option (LI×LI×Int×Int×Bool×Int×Bool×Unit))(x0:LI)(x1:LI)(x2:Int)(x3:Int)(x4:Bool)(x5:Int)(x6:Int)(x7:Bool):Option (LI×LI×Int×Int×Bool×Int×Bool×Unit):=
 cond (decide (x6<4))
  (let b6381:Bool:=((decide (0≤x5))&&(decide (x5<16)))
  cond b6381
   (let b6383:Bool:=((decide (0≤x6))&&(decide (x6<4)))
   cond b6383
    (let n6384:Nat:=(((y6 x5)*4)+(y6 x6))
    let v6385:Int:=(y7 x0 n6384 0)
    cond b6381
     (cond b6383
      (cond b6381
       (cond b6383
        (rec (yy x0 n6384 (y0 .i64 ((y0 .i64 (8*v6385))+(y0 .i64 (yx v6385 32))))) x1 x2 x3 x4 x5 (y0 .i64 (x6+1)) x7)
         none)
        none)
       none)
      none)
     none)
    none)
  (some (x0,x1,x2,x3,x4,x5,x7,()))
def q9m(F:Nat):Nat→LI→LI→Int→Int→Bool→Int→Int→Bool→Option (LI×LI×Int×Int×Bool×Int×Bool×Unit)
 |0,_,_,_,_,_,_,_,_=>none
 |k+1,x0,x1,x2,x3,x4,x5,x6,x7=>qed F (q9m F k) x0 x1 x2 x3 x4 x5 x6 x7
def qee(F:Nat)(rec:LI→LI→Int→Int→Bool→Int→Option (LI×LI×Unit))(x0:LI)(x1:LI)(x2:Int)(x3:Int)(x4:Bool)(x5:Int):Option (LI×LI×Unit):=
 cond (decide (x5<16))
  (cond x4
   ((q9m F F x0 x1 x2 x3 x4 x5 0 x4).bind fun r6391=>
   rec r6391.1 r6391.2.1 r6391.2.2.1 r6391.2.2.2.1 r6391.2.2.2.2.1 (y0 .i64 (r6391.2.2.2.2.2.1+1)))
   (some (x0,x1,())))
  (some (x0,x1,()))
def q9n(F:Nat):Nat→LI→LI→Int→Int→Bool→Int→Option (LI×LI×Unit)
 |0,_,_,_,_,_,_=>none
 |k+1,x0,x1,x2,x3,x4,x5=>qee F (q9n F k) x0 x1 x2 x3 x4 x5
def qg2(F:Nat)(a0:Int)(a1:LI):Option (LI×Unit):=
 (qka F a0).bind fun r6318=>
 (q9n F F a1 q0l r6318.1.1 r6318.1.2.1 r6318.1.2.2.1 0).bind fun r6393=>
 some (r6393.1,())
def q9o(F:Nat)(rec:Int→Int→Int→Option (Int×Int×Unit))(x0:Int)(x1:Int)(x2:Int):Option (Int×Int×Unit):=
 cond (decide (x2<x0))
  (rec x0 (y0 .i64 (2*x1)) (y0 .i64 (x2+1)))
  (some (x0,x1,()))
def q8j(F:Nat):Nat→Int→Int→Int→Option (Int×Int×Unit)
 |0,_,_,_=>none
 |k+1,x0,x1,x2=>q9o F (q8j F k) x0 x1 x2
def q9p(F:Nat)(rec:Int→LI→Int→Int→Option (LI×Unit))(x0:Int)(x1:LI)(x2:Int)(x3:Int):Option (LI×Unit):=
 cond (decide (x3<x2))
  ((q0e F x3 x0).bind fun r6493=>
  cond ((decide (((ya x1)+1)≤1099511627776))&&true)
   (rec x0 (x1++[r6493.1]) x2 (y0 .i64 (x3+1)))
    none)
  (some (x1,()))
def q8k(F:Nat):Nat→Int→LI→Int→Int→Option (LI×Unit)
 |0,_,_,_,_=>none
 |k+1,x0,x1,x2,x3=>q9p F (q8k F k) x0 x1 x2 x3
def q3e(F:Nat)(a0:Int):Option (LI×Unit):=
 (q8j F F a0 1 0).bind fun r6480=>
 (q8k F F r6480.1 [] r6480.2.1 0).bind fun r6498=>
 some (r6498.1,())
def qh1(F:Nat)(rec:Int→LI→LI→Int→Option (LI×Unit))(x0:Int)(x1:LI)(x2:LI)(x3:Int):Option (LI×Unit):=
 cond (decide (x3<16))
  (cond ((decide (0≤x3))&&(decide (x3<16)))
   (let n6548:Nat:=((y6 x3)*4)
   cond ((decide (0≤x0))&&(decide (x0<4)))
    (let n6550:Nat:=(n6548+(y6 x0))
    let v6551:Int:=(y7 x1 n6550 0)
    cond ((decide (((ya x2)+1)≤1099511627776))&&true)
     (rec x0 x1 (x2++[v6551]) (y0 .i64 (x3+1)))
      none)
     none)
    none)
  (some (x2,()))
def qbe(F:Nat):Nat→Int→LI→LI→Int→Option (LI×Unit)
 |0,_,_,_,_=>none
 |k+1,x0,x1,x2,x3=>qh1 F (qbe F k) x0 x1 x2 x3
def q21(F:Nat)(a0:LI)(a1:Int):Option (LI×Unit):=
 (qbe F F a1 a0 [] 0).bind fun r6556=>
 some (r6556.1,())
def qbf(F:Nat)(rec:Int→LI→Int→Int→Option (Int×Unit))(x0:Int)(x1:LI)(x2:Int)(x3:Int):Option (Int×Unit):=
 let v6589:Int:=(((ya x1):Nat):Int)
 cond (decide (x3<v6589))
  (cond ((decide (0≤x3))&&(decide (x3<(((ya x1):Nat):Int))))
   ((qle F (y0 .i64 ((y7 x1 (y6 x3) 0)-x0))).bind fun r6595=>
   rec x0 x1 (y0 .i64 (x2+r6595.1)) (y0 .i64 (x3+1)))
    none)
  (some (x2,()))
def qao(F:Nat):Nat→Int→LI→Int→Int→Option (Int×Unit)
 |0,_,_,_,_=>none
 |k+1,x0,x1,x2,x3=>qbf F (qao F k) x0 x1 x2 x3
def qwy(F:Nat)(a0:Int)(a1:LI):Option (Int×Unit):=
 (qao F F a0 a1 0 0).bind fun r6598=>
 some (r6598.1,())
def q9q(F:Nat)(rec:LI→LI→Int→Int→Option (Int×Unit))(x0:LI)(x1:LI)(x2:Int)(x3:Int):Option (Int×Unit):=
 let v6621:Int:=(((ya x0):Nat):Int)
 cond (decide (x3<v6621))
  (cond ((decide (0≤x3))&&(decide (x3<(((ya x0):Nat):Int))))
   ((qwy F (y7 x0 (y6 x3) 0) x1).bind fun r6626=>
   cond ((decide (0≤x2))&&(decide (x2<(((ya x0):Nat):Int))))
    ((qwy F (y7 x0 (y6 x2) 0) x1).bind fun r6630=>
    cond (decide (r6626.1<r6630.1))
     (rec x0 x1 x3 (y0 .i64 (x3+1)))
     (rec x0 x1 x2 (y0 .i64 (x3+1))))
     none)
    none)
  (some (x2,()))
def q8l(F:Nat):Nat→LI→LI→Int→Int→Option (Int×Unit)
 |0,_,_,_,_=>none
 |k+1,x0,x1,x2,x3=>q9q F (q8l F k) x0 x1 x2 x3
def q1j(F:Nat)(a0:LI)(a1:LI):Option (Int×Unit):=
 (q8l F F a0 a1 0 1).bind fun r6634=>
 some (r6634.1,())
def qpq(F:Nat)(a0:LI):Option (LI×Unit):=
 (q3e F 5).bind fun r7450=>
 (q21 F a0 0).bind fun r7452=>
 (q1j F r7450.1 r7452.1).bind fun r7454=>
 (q3e F 6).bind fun r7456=>
 (q21 F a0 1).bind fun r7458=>
 (q1j F r7456.1 r7458.1).bind fun r7460=>
 (q3e F 5).bind fun r7463=>
 (q21 F a0 2).bind fun r7465=>
 (q1j F r7463.1 r7465.1).bind fun r7467=>
 let v7468:Int:=(y0 .i64 ((y0 .i64 ((y0 .i64 (2048*r7454.1))+(y0 .i64 (32*r7460.1))))+r7467.1))
 (q99 F v7468 v7468 q0a).bind fun r7469=>
 some (r7469.1,())
def qkc(F:Nat)(rec:Int→LI→LI→Int→Option (LI×LI×Unit))(x0:Int)(x1:LI)(x2:LI)(x3:Int):Option (LI×LI×Unit):=
 cond (decide (x3<16))
  (cond ((decide (0≤x3))&&(decide (x3<16)))
   (rec x0 x1 (yy x2 (y6 x3) x0) (y0 .i64 (x3+1)))
    none)
  (some (x1,x2,()))
def qap(F:Nat):Nat→Int→LI→LI→Int→Option (LI×LI×Unit)
 |0,_,_,_,_=>none
 |k+1,x0,x1,x2,x3=>qkc F (qap F k) x0 x1 x2 x3
def qwz(F:Nat)(a0:Int):Option (LI×Unit):=
 (qap F F a0 q0a q0a 0).bind fun r7490=>
 some (r7490.2.1,())
def q9r(F:Nat)(rec:Int→Int→Int→LI→Int→Option (LI×Unit))(x0:Int)(x1:Int)(x2:Int)(x3:LI)(x4:Int):Option (LI×Unit):=
 cond (decide (x4<x0))
  (let v7603:Int:=(y0 .i64 (x1*x4))
  let v7604:Int:=(y0 .i64 (v7603+x2))
  cond ((decide (((ya x3)+1)≤1099511627776))&&true)
   (rec x0 x1 x2 (x3++[v7604]) (y0 .i64 (x4+1)))
    none)
  (some (x3,()))
def q8m(F:Nat):Nat→Int→Int→Int→LI→Int→Option (LI×Unit)
 |0,_,_,_,_,_=>none
 |k+1,x0,x1,x2,x3,x4=>q9r F (q8m F k) x0 x1 x2 x3 x4
def q9s(F:Nat)(a0:Int)(a1:Int)(a2:Int):Option (LI×Unit):=
 (q8m F F a0 a1 a2 [] 0).bind fun r7609=>
 some (r7609.1,())
def qg3(F:Nat)(a0:LI)(a1:Int):Option (LI×Unit):=
 (q9s F 256 1 0).bind fun r7700=>
 (q21 F a0 a1).bind fun r7702=>
 (q1j F r7700.1 r7702.1).bind fun r7704=>
 (q96 F r7704.1 r7704.1 q0a).bind fun r7705=>
 some (r7705.1,())
def qh2(F:Nat)(rec:Int→LI→LI→LI→Int→Option (LI×LI×Unit))(x0:Int)(x1:LI)(x2:LI)(x3:LI)(x4:Int):Option (LI×LI×Unit):=
 cond (decide (x4<16))
  (let b8409:Bool:=((decide (0≤x4))&&(decide (x4<16)))
  cond b8409
   (cond b8409
    (cond ((decide (0≤x0))&&(decide (x0<4)))
     (rec x0 (yy x1 (((y6 x4)*4)+(y6 x0)) (y7 x2 (y6 x4) 0)) x2 x3 (y0 .i64 (x4+1)))
      none)
     none)
    none)
  (some (x1,x3,()))
def qbg(F:Nat):Nat→Int→LI→LI→LI→Int→Option (LI×LI×Unit)
 |0,_,_,_,_,_=>none
 |k+1,x0,x1,x2,x3,x4=>qh2 F (qbg F k) x0 x1 x2 x3 x4
def q11(F:Nat)(a0:LI)(a1:LI)(a2:Int):Option (LI×Unit):=
 (qbg F F a2 a0 a1 q0l 0).bind fun r8417=>
 some (r8417.1,())
def qx0(F:Nat)(rec:Int→LI→LI→Int→Option (LI×LI×Unit))(x0:Int)(x1:LI)(x2:LI)(x3:Int):Option (LI×LI×Unit):=
 cond (decide (x3<16))
  (cond ((decide (0≤x3))&&(decide (x3<16)))
   (rec x0 x1 (yy x2 (3+((y6 x3)*4)) x0) (y0 .i64 (x3+1)))
    none)
  (some (x1,x2,()))
def qh3(F:Nat):Nat→Int→LI→LI→Int→Option (LI×LI×Unit)
 |0,_,_,_,_=>none
 |k+1,x0,x1,x2,x3=>qx0 F (qh3 F k) x0 x1 x2 x3
def q5s(F:Nat)(a0:Int):Option (LI×Unit):=
 (qh3 F F a0 q0l q0l 0).bind fun r8436=>
 some (r8436.2.1,())
def qef(F:Nat)(rec:LI→LI→LI→Int→Option (LI×LI×LI×Unit))(x0:LI)(x1:LI)(x2:LI)(x3:Int):Option (LI×LI×LI×Unit):=
 cond (decide (x3<16))
  ((q23 F x0 (y0 .i64 (16+(y0 .i64 (3*(y0 .i64 ((y0 .i64 (4*(yw x3 4)))+(y0 .i64 (yx x3 4)))))))) 3).bind fun r13166=>
  cond ((decide (0≤x3))&&(decide (x3<16)))
   (rec x0 x1 (yy x2 (y6 x3) r13166.1) (y0 .i64 (x3+1)))
    none)
  (some (x0,x1,x2,()))
def q70(F:Nat):Nat→LI→LI→LI→Int→Option (LI×LI×LI×Unit)
 |0,_,_,_,_=>none
 |k+1,x0,x1,x2,x3=>qef F (q70 F k) x0 x1 x2 x3
def qsh(F:Nat)(a0:LI):Option (Int×Int×Int×LI×Int×Unit):=
 cond ((((ya a0):Nat):Int) !=8)
  (some (0,0,0,q0a,1,()))
  ((q70 F F a0 q0a q0a 0).bind fun r13171=>
  (q23 F r13171.1 0 8).bind fun r13173=>
  (q23 F r13171.1 8 4).bind fun r13174=>
  (q23 F r13171.1 12 4).bind fun r13175=>
  some (r13173.1,r13174.1,r13175.1,r13171.2.2.1,0,()))
def qpr:LI:=[-3,-6,-9,-15,2,5,8,14,-3,-7,-10,-13,2,6,9,12,-2,-5,-8,-13,1,4,7,12,-2,-4,-6,-13,1,3,5,12,-3,-6,-8,-12,2,5,7,11,-3,-7,-9,-11,2,6,8,10,-4,-7,-8,-11,3,6,7,10,-3,-5,-8,-11,2,4,7,10,-2,-6,-8,-10,1,5,7,9,-2,-5,-8,-10,1,4,7,9,-2,-4,-8,-10,1,3,7,9,-2,-5,-7,-10,1,4,6,9,-3,-4,-7,-10,2,3,6,9,-1,-2,-3,-10,0,1,2,9,-4,-6,-8,-9,3,5,7,8,-3,-5,-7,-9,2,4,6,8]
def qsi(F:Nat)(a0:Int):Option (LI×Unit):=
 let v13179:Int:=(yw a0 16)
 cond (decide (v13179<0))
  (let v13181:Int:=(y0 .i64 (v13179+16))
  cond ((decide (0≤v13181))&&(decide (v13181<16)))
   (some ((y8 8 (y9 ((y6 v13181)*8) qpr)),()))
    none)
  (cond ((decide (0≤v13179))&&(decide (v13179<16)))
   (some ((y8 8 (y9 ((y6 v13179)*8) qpr)),()))
    none)
def qsj(F:Nat)(a0:Int)(a1:Int)(a2:Int)(a3:Bool):Option (Int×Unit):=
 cond (!a3)
  ((q5k F (y0 .i64 (a0+(y0 .i64 (a2*a1)))) 255).bind fun r13212=>
  some (r13212.1,()))
  (cond (a1==0)
   ((q5k F (y0 .i64 ((y0 .i64 ((y0 .i64 (8*a0))+4))+(y0 .i64 (a2*1)))) 2047).bind fun r13219=>
   some (r13219.1,()))
   ((q5k F (y0 .i64 ((y0 .i64 ((y0 .i64 (8*a0))+4))+(y0 .i64 (a2*(y0 .i64 (8*a1)))))) 2047).bind fun r13224=>
   some (r13224.1,())))
def qcp(F:Nat)(rec:Bool→LI→Int→Int→Int→LI→Int→Option (LI×LI×Unit))(x0:Bool)(x1:LI)(x2:Int)(x3:Int)(x4:Int)(x5:LI)(x6:Int):Option (LI×LI×Unit):=
 cond (decide (x6<16))
  ((qsi F x4).bind fun r13238=>
  let b13239:Bool:=((decide (0≤x6))&&(decide (x6<16)))
  cond b13239
   (let v13241:Int:=(y7 x5 (y6 x6) 0)
   cond ((decide (0≤v13241))&&(decide (v13241<8)))
    ((qsj F x2 x3 (y7 r13238.1 (y6 v13241) 0) x0).bind fun r13244=>
    cond b13239
     (rec x0 x1 x2 x3 x4 (yy x5 (y6 x6) r13244.1) (y0 .i64 (x6+1)))
      none)
     none)
    none)
  (some (x1,x5,()))
def q5t(F:Nat):Nat→Bool→LI→Int→Int→Int→LI→Int→Option (LI×LI×Unit)
 |0,_,_,_,_,_,_,_=>none
 |k+1,x0,x1,x2,x3,x4,x5,x6=>qcp F (q5t F k) x0 x1 x2 x3 x4 x5 x6
def q6p(F:Nat)(a0:LI)(a1:Bool):Option (LI×Int×Unit):=
 (qsh F a0).bind fun r13176=>
 cond (r13176.2.2.2.2.1 !=0)
  (some (r13176.2.2.2.1,r13176.2.2.2.2.1,()))
  ((q5t F F a1 q0a r13176.1 r13176.2.1 r13176.2.2.1 r13176.2.2.2.1 0).bind fun r13247=>
  some (r13247.2.1,0,()))
def qde(F:Nat)(a0:Int)(a1:LI):Option (LI×Int×Unit):=
 (qka F a0).bind fun r8143=>
 cond (r8143.2.1 !=0)
  (some (q0l,r8143.2.1,()))
  (let v8145:Int:=(((ya a1):Nat):Int)
  cond (v8145 !=r8143.1.1)
   (some (q0l,1,()))
   (cond (decide (8≤(ya a1)))
    (let v8148:Int:=(y0 .i64 (v8145-8))
    cond ((decide (0≤v8148))&&((decide ((y6 v8148)≤(ya a1)))&&true))
     (let l8257:LI:=(y8 8 a1)
     (qhh F l8257).bind fun r8258=>
     let l8259:LI:=(y8 (psub (ya a1) (y6 v8148)) (y9 (y6 v8148) a1))
     (qhh F l8259).bind fun r8260=>
     cond (a0==1)
      ((q53 F a1 false).bind fun r8365=>
      some (r8365.1,r8365.2.1,()))
      (cond (a0==2)
       ((q53 F l8259 true).bind fun r8367=>
       (qld F l8257).bind fun r8394=>
       (q11 F r8367.1 r8394.1 3).bind fun r8418=>
       some (r8418.1,0,()))
       (cond (a0==3)
        ((q53 F l8259 true).bind fun r8420=>
        (q11 F r8420.1 r8258.1 3).bind fun r8421=>
        some (r8421.1,0,()))
        (cond (a0==4)
         ((q5s F 255).bind fun r8437=>
         (q11 F r8437.1 r8258.1 0).bind fun r8438=>
         some (r8438.1,0,()))
         (cond (a0==5)
          ((q5s F 255).bind fun r8440=>
          (q11 F r8440.1 r8258.1 0).bind fun r8441=>
          (q11 F r8441.1 r8260.1 1).bind fun r8442=>
          some (r8442.1,0,()))
          (cond (a0==6)
           ((qhp F a1).bind fun r12176=>
           some (r12176.1,r12176.2.1,()))
           (cond (a0==7)
            ((qho F a1).bind fun r12480=>
            some (r12480.1,r12480.2.1,()))
            (cond (a0==8)
             ((q6j F a1 false).bind fun r13133=>
             some (r13133.1,r13133.2.1,()))
             (cond (a0==9)
              ((q6j F a1 true).bind fun r13135=>
              some (r13135.1,r13135.2.1,()))
              (cond (a0==10)
               ((q6j F l8259 false).bind fun r13137=>
               (q6p F l8257 false).bind fun r13248=>
               (q11 F r13137.1 r13248.1 3).bind fun r13249=>
               some (r13249.1,0,()))
               ((q6p F l8257 true).bind fun r13250=>
               (q6p F l8259 true).bind fun r13251=>
               cond (a0==11)
                ((q5s F 2047).bind fun r13253=>
                (q11 F r13253.1 r13250.1 0).bind fun r13254=>
                some (r13254.1,0,()))
                ((q5s F 2047).bind fun r13255=>
                (q11 F r13255.1 r13250.1 0).bind fun r13256=>
                (q11 F r13256.1 r13251.1 1).bind fun r13257=>
                some (r13257.1,0,())))))))))))))
      none)
     none))
def qeg(F:Nat)(rec:Int→LI→LI→Int→Int→Int→Option (Int×LI×LI×Int×Int×Unit))(x0:Int)(x1:LI)(x2:LI)(x3:Int)(x4:Int)(x5:Int):Option (Int×LI×LI×Int×Int×Unit):=
 cond (decide (x5<4))
  ((qlc F x0 16).bind fun r13365=>
  (qfp F x5).bind fun r13366=>
  cond (!(r13366.1==0))
   (cond ((yw (y0 .i64 (yx r13365.1 r13366.1)) 2)==1)
    (let b13371:Bool:=((decide (0≤x4))&&(decide (x4<16)))
    cond b13371
     (let b13373:Bool:=((decide (0≤x5))&&(decide (x5<4)))
     cond b13373
      (let n13374:Nat:=(((y6 x4)*4)+(y6 x5))
      cond b13371
       (cond b13373
        ((qle F (y0 .i64 ((y7 x1 n13374 0)-(y7 x2 n13374 0)))).bind fun r13378=>
        rec x0 x1 x2 (y0 .i64 (x3+r13378.1)) x4 (y0 .i64 (x5+1)))
         none)
        none)
       none)
      none)
    (rec x0 x1 x2 x3 x4 (y0 .i64 (x5+1))))
    none)
  (some (x0,x1,x2,x3,x4,()))
def q9t(F:Nat):Nat→Int→LI→LI→Int→Int→Int→Option (Int×LI×LI×Int×Int×Unit)
 |0,_,_,_,_,_,_=>none
 |k+1,x0,x1,x2,x3,x4,x5=>qeg F (q9t F k) x0 x1 x2 x3 x4 x5
def qeh(F:Nat)(rec:Int→LI→LI→Int→Int→Option (Int×Unit))(x0:Int)(x1:LI)(x2:LI)(x3:Int)(x4:Int):Option (Int×Unit):=
 cond (decide (x4<16))
  ((q9t F F x0 x1 x2 x3 x4 0).bind fun r13382=>
  rec r13382.1 r13382.2.1 r13382.2.2.1 r13382.2.2.2.1 (y0 .i64 (r13382.2.2.2.2.1+1)))
  (some (x3,()))
def q9u(F:Nat):Nat→Int→LI→LI→Int→Int→Option (Int×Unit)
 |0,_,_,_,_,_=>none
 |k+1,x0,x1,x2,x3,x4=>qeh F (q9u F k) x0 x1 x2 x3 x4
def z4j(F:Nat)(a0:LI)(a1:LI)(a2:Int):Option (Int×Unit):=
 (q9u F F a2 a0 a1 0 0).bind fun r13384=>
 some (r13384.1,())
def qd1(F:Nat)(a0:Int)(a1:LI)(a2:LI):Option (Int×Int×Unit):=
 (qde F a0 a1).bind fun r13258=>
 cond (r13258.2.1 !=0)
  (some (0,r13258.2.1,()))
  ((qka F a0).bind fun r13260=>
  (qg2 F a0 a2).bind fun r13261=>
  (z4j F r13261.1 r13258.1 r13260.1.2.1).bind fun r13385=>
  some (r13385.1,0,()))
def qei(F:Nat)(rec:LI→LI→Int→Int→LI→Int→Option (LI×LI×Int×Int×LI×Unit))(x0:LI)(x1:LI)(x2:Int)(x3:Int)(x4:LI)(x5:Int):Option (LI×LI×Int×Int×LI×Unit):=
 cond (decide (x5<4))
  ((q9s F 128 2 x3).bind fun r13540=>
  (q21 F x0 x5).bind fun r13542=>
  (q1j F r13540.1 r13542.1).bind fun r13544=>
  cond ((decide (0≤x5))&&(decide (x5<4)))
   (rec x0 x1 x2 x3 (yy x4 (y6 x5) r13544.1) (y0 .i64 (x5+1)))
    none)
  (some (x0,x1,x2,x3,x4,()))
def q71(F:Nat):Nat→LI→LI→Int→Int→LI→Int→Option (LI×LI×Int×Int×LI×Unit)
 |0,_,_,_,_,_,_=>none
 |k+1,x0,x1,x2,x3,x4,x5=>qei F (q71 F k) x0 x1 x2 x3 x4 x5
def q7r(F:Nat)(rec:LI→LI→Int→Int→Option (LI×Unit))(x0:LI)(x1:LI)(x2:Int)(x3:Int):Option (LI×Unit):=
 cond (decide (x3<2))
  ((q71 F F x0 x1 x2 x3 [0,0,0,0] 0).bind fun r13549=>
  (qws F (r13549.2.2.2.2.1++r13549.2.2.2.2.1) [r13549.2.2.2.1,r13549.2.2.2.1] q0a).bind fun r13552=>
  (qd1 F 6 r13552.1 r13549.1).bind fun r13554=>
  cond (r13549.2.2.2.1==0)
   (rec r13549.1 r13552.1 r13554.1 (y0 .i64 (r13549.2.2.2.1+1)))
   (cond (decide (r13554.1<r13549.2.2.1))
    (rec r13549.1 r13552.1 r13554.1 (y0 .i64 (r13549.2.2.2.1+1)))
    (rec r13549.1 r13549.2.1 r13549.2.2.1 (y0 .i64 (r13549.2.2.2.1+1)))))
  (some (x1,()))
def q3t(F:Nat):Nat→LI→LI→Int→Int→Option (LI×Unit)
 |0,_,_,_,_=>none
 |k+1,x0,x1,x2,x3=>q7r F (q3t F k) x0 x1 x2 x3
def qsk(F:Nat)(a0:LI):Option (LI×Unit):=
 (q3t F F a0 [] 0 0).bind fun r13560=>
 some (r13560.1,())
def q7s(F:Nat)(rec:LI→LI→Int→Option (LI×LI×Unit))(x0:LI)(x1:LI)(x2:Int):Option (LI×LI×Unit):=
 let v14005:Int:=(((ya x1):Nat):Int)
 cond (decide (x2<v14005))
  (let b14007:Bool:=((decide (0≤x2))&&(decide (x2<(((ya x1):Nat):Int))))
  cond b14007
   ((q5k F (y0 .i64 ((y7 x1 (y6 x2) 0)+2)) 255).bind fun r14011=>
   cond b14007
    (rec x0 (yy x1 (y6 x2) r14011.1) (y0 .i64 (x2+1)))
     none)
    none)
  (some (x0,x1,()))
def q5a(F:Nat):Nat→LI→LI→Int→Option (LI×LI×Unit)
 |0,_,_,_=>none
 |k+1,x0,x1,x2=>q7s F (q5a F k) x0 x1 x2
def qej(F:Nat)(rec:LI→LI→LI→LI→LI→LI→Int→Option (LI×LI×LI×LI×Unit))(x0:LI)(x1:LI)(x2:LI)(x3:LI)(x4:LI)(x5:LI)(x6:Int):Option (LI×LI×LI×LI×Unit):=
 cond (decide (x6<3))
  ((q21 F x0 x6).bind fun r14032=>
  (q1j F x1 r14032.1).bind fun r14034=>
  cond ((decide (0≤x6))&&(decide (x6<3)))
   (rec x0 x1 (yy x2 (y6 x6) r14034.1) x3 x4 x5 (y0 .i64 (x6+1)))
    none)
  (some (x2,x3,x4,x5,()))
def q72(F:Nat):Nat→LI→LI→LI→LI→LI→LI→Int→Option (LI×LI×LI×LI×Unit)
 |0,_,_,_,_,_,_,_=>none
 |k+1,x0,x1,x2,x3,x4,x5,x6=>qej F (q72 F k) x0 x1 x2 x3 x4 x5 x6
def qsl(F:Nat)(a0:LI):Option (LI×Unit):=
 (q3e F 5).bind fun r13984=>
 (q5a F F a0 r13984.1 0).bind fun r14014=>
 (q72 F F r14014.1 r14014.2.1 [0,0,0] [0,0,0] [0,0] q0a 0).bind fun r14039=>
 (qpn F (true,false,r14039.1,r14039.2.1,r14039.2.2.1,r14039.2.2.2.1,())).bind fun r14040=>
 some (r14040.1,())
def qdf(F:Nat)(a0:LI):Option (LI×Unit):=
 (q3e F 6).bind fun r14461=>
 (q21 F a0 0).bind fun r14463=>
 (q1j F r14461.1 r14463.1).bind fun r14465=>
 (q3e F 7).bind fun r14466=>
 (q21 F a0 1).bind fun r14468=>
 (q1j F r14466.1 r14468.1).bind fun r14470=>
 (q3e F 6).bind fun r14471=>
 (q21 F a0 2).bind fun r14473=>
 (q1j F r14471.1 r14473.1).bind fun r14475=>
 (qwt F [r14465.1,r14470.1,r14475.1] [r14465.1,r14470.1,r14475.1] [r14465.1,r14470.1,r14475.1]).bind fun r14476=>
 some (r14476.1,())
def qbh(F:Nat)(a0:Int)(a1:Int):Option (Bool×Unit):=
 cond (decide (0≤a0))
  (some ((decide (a0≤a1)),()))
  (some (false,()))
def qh4(F:Nat)(rec:LI→LI→Int→Option (Unit⊕(LI×Unit)))(x0:LI)(x1:LI)(x2:Int):Option (Unit⊕(LI×Unit)):=
 cond (decide (x2<16))
  (let b14583:Bool:=((decide (0≤x2))&&(decide (x2<16)))
  cond b14583
   (let v14585:Int:=(y7 x0 (y6 x2) 0)
   (qbh F v14585 7).bind fun r14586=>
   cond (!r14586.1)
    (some (.inl ()))
    (cond b14583
     ((q2b F x1 (y0 .i64 (16+(y0 .i64 (3*(y0 .i64 ((y0 .i64 (4*(yw x2 4)))+(y0 .i64 (yx x2 4)))))))) 3 true (y0 .u64 v14585)).bind fun r14595=>
     rec x0 r14595.1 (y0 .i64 (x2+1)))
      none))
    none)
  (some (.inr (x1,())))
def qbi(F:Nat):Nat→LI→LI→Int→Option (Unit⊕(LI×Unit))
 |0,_,_,_=>none
 |k+1,x0,x1,x2=>qh4 F (qbi F k) x0 x1 x2
def qps(F:Nat)(a0:Int)(a1:Int)(a2:Int)(a3:LI):Option (LI×Int×Unit):=
 (qbh F a0 255).bind fun r14547=>
 cond (!r14547.1)
  (some ([],1,()))
  ((qbh F a1 15).bind fun r14549=>
  cond (!r14549.1)
   (some ([],1,()))
   ((qbh F a2 15).bind fun r14551=>
   cond (!r14551.1)
    (some ([],1,()))
    ((qbi F F a3 [(y0 .u8 a0),(y0 .u8 (y0 .i64 ((y0 .i64 (16*a1))+a2))),0,0,0,0,0,0] 0).bind fun r14598=>match r14598 with
     | .inl r14598=>(some ([],1,()))
     | .inr r14598=>(some (r14598.1,0,())))))
def qg4(F:Nat)(a0:LI)(a1:Int):Option (LI×Unit):=
 (q9s F 256 8 4).bind fun r14616=>
 (q21 F a0 a1).bind fun r14618=>
 (q1j F r14616.1 r14618.1).bind fun r14620=>
 (qwz F 4).bind fun r14621=>
 (qps F r14620.1 1 13 r14621.1).bind fun r14622=>
 some (r14622.1,())
def q10(F:Nat)(a0:Int)(a1:LI):Option (LI×Int×Unit):=
 (qka F a0).bind fun r14633=>
 cond (r14633.2.1 !=0)
  (some ([],r14633.2.1,()))
  ((q59 F a1).bind fun r14635=>
  cond (!r14635.1)
   (some ([],1,()))
   ((qg2 F a0 a1).bind fun r14637=>
   let b14638:Bool:=(a0==1)
   cond b14638
    ((qpq F a1).bind fun r14639=>
    some (r14639.1,0,()))
    (let b14641:Bool:=(a0==2)
    cond b14641
     ((q3e F 4).bind fun r14642=>
     let n14643:Nat:=(ya r14642.1)
     (q21 F a1 3).bind fun r14644=>
     let n14645:Nat:=(ya r14644.1)
     (q1j F r14642.1 r14644.1).bind fun r14646=>
     (qwz F r14646.1).bind fun r14647=>
     (q7g F r14647.1).bind fun r14648=>
     let n14649:Nat:=(ya r14648.1)
     (qpq F a1).bind fun r14650=>
     let n14651:Nat:=(ya r14650.1)
     cond ((decide ((n14649+n14651)≤1099511627776))&&true)
      (some ((r14648.1++r14650.1),0,()))
       none)
     (let b14655:Bool:=(a0==3)
     cond b14655
      ((qg3 F a1 3).bind fun r14656=>
      let n14657:Nat:=(ya r14656.1)
      (qpq F a1).bind fun r14658=>
      let n14659:Nat:=(ya r14658.1)
      cond ((decide ((n14657+n14659)≤1099511627776))&&true)
       (some ((r14656.1++r14658.1),0,()))
        none)
      (let b14663:Bool:=(a0==4)
      cond b14663
       ((qg3 F a1 0).bind fun r14664=>
       some (r14664.1,0,()))
       (let b14666:Bool:=(a0==5)
       cond b14666
        ((qg3 F a1 0).bind fun r14667=>
        let n14668:Nat:=(ya r14667.1)
        (qg3 F a1 1).bind fun r14669=>
        let n14670:Nat:=(ya r14669.1)
        cond ((decide ((n14668+n14670)≤1099511627776))&&true)
         (some ((r14667.1++r14669.1),0,()))
          none)
        (let b14674:Bool:=(a0==6)
        cond b14674
         ((qsk F a1).bind fun r14675=>
         some (r14675.1,0,()))
         (let b14677:Bool:=(a0==7)
         cond b14677
          ((qsl F a1).bind fun r14678=>
          some (r14678.1,0,()))
          (let b14680:Bool:=(a0==8)
          cond b14680
           ((qdf F a1).bind fun r14681=>
           some (r14681.1,0,()))
           (let b14683:Bool:=(a0==9)
           cond b14683
            ((qdf F a1).bind fun r14684=>
            (qd1 F 9 r14684.1 a1).bind fun r14686=>
            (qd1 F 9 qam a1).bind fun r14687=>
            cond (decide (r14687.1<r14686.1))
             (some (qam,0,()))
             (some (r14684.1,0,())))
            (let b14689:Bool:=(a0==10)
            cond b14689
             ((q9s F 256 1 0).bind fun r14690=>
             let n14691:Nat:=(ya r14690.1)
             (q21 F a1 3).bind fun r14692=>
             let n14693:Nat:=(ya r14692.1)
             (q1j F r14690.1 r14692.1).bind fun r14694=>
             (qps F r14694.1 0 0 q0a).bind fun r14695=>
             let n14696:Nat:=(ya r14695.1)
             (qdf F a1).bind fun r14697=>
             let n14698:Nat:=(ya r14697.1)
             cond ((decide ((n14696+n14698)≤1099511627776))&&true)
              (some ((r14695.1++r14697.1),0,()))
               none)
             (let b14702:Bool:=(a0==11)
             cond b14702
              ((qg4 F r14637.1 0).bind fun r14703=>
              some (r14703.1,0,()))
              ((qg4 F r14637.1 0).bind fun r14705=>
              let n14706:Nat:=(ya r14705.1)
              (qg4 F r14637.1 1).bind fun r14707=>
              let n14708:Nat:=(ya r14707.1)
              cond ((decide ((n14706+n14708)≤1099511627776))&&true)
               (some ((r14705.1++r14707.1),0,()))
                none)))))))))))))
def qlm(F:Nat)(a0:Int)(a1:LI):Option (Bool×Unit):=
 (qsg F).bind fun r6235=>
 (q3d F a0 a1).bind fun r6236=>
 (q10 F a0 a1).bind fun r14712=>
 (z0l F r6236.1 r14712.1).bind fun r14751=>
 cond (!r14751.1)
  (some (false,()))
  (cond (r6236.2.1 !=r14712.2.1)
   (some (false,()))
   ((qan F a0 a1).bind fun r14754=>
   cond (r14712.2.1 !=0)
    (cond r6235.1
     (cond (r14754.2.1==r14712.2.1)
      (some ((r14754.1==[0,0,0,0]),()))
      (some (false,())))
     (some (false,())))
    ((qde F a0 r14712.1).bind fun r14758=>
    let l14759:LI:=(y8 4 a1)
    (qg0 F l14759).bind fun r14760=>
    (q10 F a0 r14760.1).bind fun r14761=>
    (qd1 F a0 r14761.1 r14760.1).bind fun r14763=>
    cond r6235.1
     (cond (r14754.2.1==0)
      (cond (r14754.1==(y8 4 r14758.1))
       ((q9l F a0 l14759).bind fun r14767=>
       some ((r14767.1==(r14763.1==0)),()))
       (some (false,())))
      (some (false,())))
     (some (false,())))))
end Go.AE.Gn

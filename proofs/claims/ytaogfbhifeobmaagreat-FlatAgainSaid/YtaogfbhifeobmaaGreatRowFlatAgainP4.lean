/- A part of the proof, put together of my texts: C09defs, C11defs, A12defs, E13defs, E14defs. -/
import Derived.Test.YtaogfbhifeobmaaGreatRowFlatAgainP3
set_option linter.unusedSimpArgs false
set_option linter.unusedVariables false
open Go.IntKind renaming wrap → y0
open List renaming getD → y7, length → ya, set → yx, take → y8, drop → y9, replicate → yy
open Int renaming toNat → y6, tdiv → yw, tmod → yv
namespace Go.AE.Gn
open Go Go.AE
def q0l:List Int:=[0,0,0,0,0,0,0,0,0,0,0,0,0,0,0,0]
def q2n(F:Nat)(a0:Int)(a1:Int)(a2:List Int)(a3:Int)(a4:Bool):Option (List Int×(Int×(Bool×Unit))):=
 (q5e F a2 a3 a1 (y0 .u64 a0)).bind fun r148=>
 cond a4
  (let b150:Bool:=(r148.2.1==0)
  cond b150
   (some (r148.1,((y0 .i64 (a3+a1)),(b150,()))))
   (some (a2,(a3,(b150,())))))
  (some (a2,(a3,(false,()))))
def q9n(F:Nat)(rec:List Int→List Int→List Int→List Int→Bool→Int→Int→Option (List Int×(List Int×(List Int×(Bool×(Int×Unit))))))(x0:List Int)(x1:List Int)(x2:List Int)(x3:List Int)(x4:Bool)(x5:Int)(x6:Int):Option (List Int×(List Int×(List Int×(Bool×(Int×Unit))))):=
 cond (decide (x6<4))
  (let b236:Bool:=((decide (0≤x6))&&(decide (x6<4)))
  cond b236
   ((q2n F (y7 x0 (y6 x6) 0) 7 x3 x5 x4).bind fun r239=>
   cond b236
    ((q2n F (y7 x0 (4+(y6 x6)) 0) 7 r239.1 r239.2.1 r239.2.2.1).bind fun r242=>
    rec x0 x1 x2 r242.1 r242.2.2.1 r242.2.1 (y0 .i64 (x6+1)))
    (none))
   (none))
  (some (x1,(x2,(x3,(x4,(x5,()))))))
def q3i(F:Nat):Nat→List Int→List Int→List Int→List Int→Bool→Int→Int→Option (List Int×(List Int×(List Int×(Bool×(Int×Unit)))))
 |0,_,_,_,_,_,_,_=>none
 |k+1,x0,x1,x2,x3,x4,x5,x6=>q9n F (q3i F k) x0 x1 x2 x3 x4 x5 x6
def q9o(F:Nat)(rec:List Int→Bool→Int→List Int→Int→Option (List Int×(Bool×Unit)))(x0:List Int)(x1:Bool)(x2:Int)(x3:List Int)(x4:Int):Option (List Int×(Bool×Unit)):=
 cond (decide (x4<16))
  (cond ((decide (0≤x4))&&(decide (x4<16)))
   (let v271:Int:=(y0 .i64 (x4+1))
   cond (!(v271==0))
    ((q2n F (y7 x3 (y6 x4) 0) (y0 .i64 (4-(y0 .i64 (yw 1 v271)))) x0 x2 x1).bind fun r275=>
    rec r275.1 r275.2.2.1 r275.2.1 x3 v271)
    (none))
   (none))
  (some (x0,(x1,())))
def q3j(F:Nat):Nat→List Int→Bool→Int→List Int→Int→Option (List Int×(Bool×Unit))
 |0,_,_,_,_,_=>none
 |k+1,x0,x1,x2,x3,x4=>q9o F (q3j F k) x0 x1 x2 x3 x4
def qay(F:Nat)(a0:List Int)(a1:List Int)(a2:List Int):Option (List Int×(Int×Unit)):=
 (q5e F q0l 6 1 1).bind fun r214=>
 (q3i F F a0 a1 a2 r214.1 true 7 0).bind fun r245=>
 (q2n F (y7 r245.1 0 0) 1 r245.2.2.1 r245.2.2.2.2.1 r245.2.2.2.1).bind fun r248=>
 (q2n F (y7 r245.1 1 0) 1 r248.1 r248.2.1 r248.2.2.1).bind fun r251=>
 (q3j F F r251.1 r251.2.2.1 r251.2.1 r245.2.1 0).bind fun r277=>
 cond (!r277.2.1)
  (some ([],(1,())))
  (some (r277.1,(0,())))
def q1z:List Int:=[0,0,0,0,0,0,0,0,0,0,0,0,0,0,0,0,0,0,0,0,0,0,0,0,0,0,0,0,0,0,0,0,0,0,0,0,0,0,0,0,0,0,0,0,0,0,0,0,0,0,0,0,0,0,0,0,0,0,0,0,0,0,0,0]
def math_bits_TrailingZeros8T292:List Int:=[8,0,1,0,2,0,1,0,3,0,1,0,2,0,1,0,4,0,1,0,2,0,1,0,3,0,1,0,2,0,1,0,5,0,1,0,2,0,1,0,3,0,1,0,2,0,1,0,4,0,1,0,2,0,1,0,3,0,1,0,2,0,1,0,6,0,1,0,2,0,1,0,3,0,1,0,2,0,1,0,4,0,1,0,2,0,1,0,3,0,1,0,2,0,1,0,5,0,1,0,2,0,1,0,3,0,1,0,2,0,1,0,4,0,1,0,2,0,1,0,3,0,1,0,2,0,1,0,7,0,1,0,2,0,1,0,3,0,1,0,2,0,1,0,4,0,1,0,2,0,1,0,3,0,1,0,2,0,1,0,5,0,1,0,2,0,1,0,3,0,1,0,2,0,1,0,4,0,1,0,2,0,1,0,3,0,1,0,2,0,1,0,6,0,1,0,2,0,1,0,3,0,1,0,2,0,1,0,4,0,1,0,2,0,1,0,3,0,1,0,2,0,1,0,5,0,1,0,2,0,1,0,3,0,1,0,2,0,1,0,4,0,1,0,2,0,1,0,3,0,1,0,2,0,1,0]
def q33(F:Nat)(a0:Int):Option (Int×Unit):=
 cond ((decide (0≤a0))&&(decide (a0<256)))
  (some ((y7 math_bits_TrailingZeros8T292 (y6 a0) 0),()))
  (none)
def qfz(F:Nat)(a0:List Int):Option (Int×Unit):=
 cond ((((ya a0):Nat):Int) !=16)
  (some (8,()))
  (cond (decide (0<(((ya a0):Nat):Int)))
   ((q33 F (y7 a0 0 0)).bind fun r294=>
   some (r294.1,()))
   (none))
def bctable_ModesT298:List Int:=[3,4,0,0,4,0,1,0,3,0,2,6,0,0,6,0,0,1,3,0,3,6,0,0,5,0,0,0,2,0,2,6,0,0,7,0,1,0,2,0,1,0,2,1,5,6,0,0,2,3,1,0,2,0,7,8,0,0,2,2,1,0,0,0,7,7,1,0,4,0,2,6,0,0,5,5,1,0,2,0]
def qjg(F:Nat):Option (List Int×Unit):=
 some (bctable_ModesT298,())
def q0t(F:Nat)(a0:Int)(a1:List Int)(a2:Int):Option (Int×(Int×Unit)):=
 (qp8 F a1 a2 a0).bind fun r381=>
 some ((y0 .i64 r381.1),((y0 .i64 (a2+a0)),()))
def q5g(F:Nat)(a0:(Int×(Int×(Int×(Int×(Int×(Int×(Int×(Int×(Int×(Int×Unit)))))))))))(a1:Int):Option (Int×Unit):=
 cond (a1==3)
  (some (a0.2.2.2.2.2.1,()))
  (some (a0.2.2.2.2.1,()))
def q11(F:Nat)(rec:List Int→Int→Int→Int→Int→Int→Int→Int→Int→Int→Int→Int→Int→Int→List Int→List Int→List Int→Int→Int→Int→Int→Int→Int→List Int→Int→Option (List Int×(Int×(Int×(Int×(Int×(Int×(Int×(Int×(Int×(Int×(Int×(Int×(Int×(Int×(List Int×(List Int×(List Int×(Int×(Int×(Int×(Int×(Int×(Int×Unit))))))))))))))))))))))))(x0:List Int)(x1:Int)(x2:Int)(x3:Int)(x4:Int)(x5:Int)(x6:Int)(x7:Int)(x8:Int)(x9:Int)(x10:Int)(x11:Int)(x12:Int)(x13:Int)(x14:List Int)(x15:List Int)(x16:List Int)(x17:Int)(x18:Int)(x19:Int)(x20:Int)(x21:Int)(x22:Int)(x23:List Int)(x24:Int):Option (List Int×(Int×(Int×(Int×(Int×(Int×(Int×(Int×(Int×(Int×(Int×(Int×(Int×(Int×(List Int×(List Int×(List Int×(Int×(Int×(Int×(Int×(Int×(Int×Unit))))))))))))))))))))))):=
 let n1205:Nat:=((ya x0)/4)
 cond (decide (x24<4))
  (let b1208:Bool:=((decide (0≤x24))&&(decide (x24<4)))
  cond b1208
   (cond (decide (0≤x18))
    ((q5g F (x1,(x2,(x3,(x4,(x5,(x6,(x7,(x8,(x9,(x10,())))))))))) x24).bind fun r1213=>
    (q0f F (ior .i64 (ishl .i64 (y7 x23 (y6 x24) 0) x18) x19) (y0 .i64 (r1213.1+x18))).bind fun r1215=>
    cond ((decide (0≤x20))&&(decide (x20<((n1205:Nat):Int))))
     (cond b1208
      (rec (yx x0 (((y6 x20)*4)+(y6 x24)) r1215.1) x1 x2 x3 x4 x5 x6 x7 x8 x9 x10 x11 x12 x13 x14 x15 x16 x17 x18 x19 x20 x21 x22 x23 (y0 .i64 (x24+1)))
      (none))
     (none))
    (none))
   (none))
  (some (x0,(x1,(x2,(x3,(x4,(x5,(x6,(x7,(x8,(x9,(x10,(x11,(x12,(x13,(x14,(x15,(x16,(x17,(x18,(x19,(x20,(x21,(x22,()))))))))))))))))))))))))
def q02(F:Nat):Nat→List Int→Int→Int→Int→Int→Int→Int→Int→Int→Int→Int→Int→Int→Int→List Int→List Int→List Int→Int→Int→Int→Int→Int→Int→List Int→Int→Option (List Int×(Int×(Int×(Int×(Int×(Int×(Int×(Int×(Int×(Int×(Int×(Int×(Int×(Int×(List Int×(List Int×(List Int×(Int×(Int×(Int×(Int×(Int×(Int×Unit)))))))))))))))))))))))
 |0,_,_,_,_,_,_,_,_,_,_,_,_,_,_,_,_,_,_,_,_,_,_,_,_,_=>none
 |k+1,x0,x1,x2,x3,x4,x5,x6,x7,x8,x9,x10,x11,x12,x13,x14,x15,x16,x17,x18,x19,x20,x21,x22,x23,x24=>q11 F (q02 F k) x0 x1 x2 x3 x4 x5 x6 x7 x8 x9 x10 x11 x12 x13 x14 x15 x16 x17 x18 x19 x20 x21 x22 x23 x24
def q12(F:Nat)(rec:List Int→Int→Int→Int→Int→Int→Int→Int→Int→Int→Int→Int→Int→Int→List Int→List Int→List Int→Int→Int→Int→Int→Int→Option (List Int×(Int×(Int×(Int×(Int×(Int×(Int×(Int×(Int×(Int×(Int×(Int×(Int×(Int×(List Int×(List Int×(List Int×(Int×Unit)))))))))))))))))))(x0:List Int)(x1:Int)(x2:Int)(x3:Int)(x4:Int)(x5:Int)(x6:Int)(x7:Int)(x8:Int)(x9:Int)(x10:Int)(x11:Int)(x12:Int)(x13:Int)(x14:List Int)(x15:List Int)(x16:List Int)(x17:Int)(x18:Int)(x19:Int)(x20:Int)(x21:Int):Option (List Int×(Int×(Int×(Int×(Int×(Int×(Int×(Int×(Int×(Int×(Int×(Int×(Int×(Int×(List Int×(List Int×(List Int×(Int×Unit)))))))))))))))))):=
 let n1181:Nat:=((ya x0)/4)
 cond (decide (x21<x20))
  (cond (x7==1)
   ((q0t F 1 x16 x17).bind fun r1185=>
   cond ((decide (0≤x21))&&(decide (x21<((n1181:Nat):Int))))
    ((q02 F F x0 x1 x2 x3 x4 x5 x6 x7 x8 x9 x10 x11 x12 x13 x14 x15 x16 r1185.2.1 x18 r1185.1 x21 x20 x21 (y8 4 (y9 ((y6 x21)*4) x0)) 0).bind fun r1221=>
    let n1222:Nat:=((ya r1221.1)/4)
    cond (r1221.2.2.2.2.2.2.1==0)
     (cond ((decide (0≤r1221.2.2.2.2.2.2.2.2.2.2.2.2.2.2.2.2.2.2.2.2.1))&&(decide (r1221.2.2.2.2.2.2.2.2.2.2.2.2.2.2.2.2.2.2.2.2.1<((n1222:Nat):Int))))
      (rec (yx r1221.1 (3+((y6 r1221.2.2.2.2.2.2.2.2.2.2.2.2.2.2.2.2.2.2.2.2.1)*4)) 255) r1221.2.1 r1221.2.2.1 r1221.2.2.2.1 r1221.2.2.2.2.1 r1221.2.2.2.2.2.1 r1221.2.2.2.2.2.2.1 r1221.2.2.2.2.2.2.2.1 r1221.2.2.2.2.2.2.2.2.1 r1221.2.2.2.2.2.2.2.2.2.1 r1221.2.2.2.2.2.2.2.2.2.2.1 r1221.2.2.2.2.2.2.2.2.2.2.2.1 r1221.2.2.2.2.2.2.2.2.2.2.2.2.1 r1221.2.2.2.2.2.2.2.2.2.2.2.2.2.1 r1221.2.2.2.2.2.2.2.2.2.2.2.2.2.2.1 r1221.2.2.2.2.2.2.2.2.2.2.2.2.2.2.2.1 r1221.2.2.2.2.2.2.2.2.2.2.2.2.2.2.2.2.1 r1221.2.2.2.2.2.2.2.2.2.2.2.2.2.2.2.2.2.1 r1221.2.2.2.2.2.2.2.2.2.2.2.2.2.2.2.2.2.2.1 r1221.2.2.2.2.2.2.2.2.2.2.2.2.2.2.2.2.2.2.2.1 r1221.2.2.2.2.2.2.2.2.2.2.2.2.2.2.2.2.2.2.2.2.2.1 (y0 .i64 (r1221.2.2.2.2.2.2.2.2.2.2.2.2.2.2.2.2.2.2.2.2.2.2.1+1)))
      (none))
     (rec r1221.1 r1221.2.1 r1221.2.2.1 r1221.2.2.2.1 r1221.2.2.2.2.1 r1221.2.2.2.2.2.1 r1221.2.2.2.2.2.2.1 r1221.2.2.2.2.2.2.2.1 r1221.2.2.2.2.2.2.2.2.1 r1221.2.2.2.2.2.2.2.2.2.1 r1221.2.2.2.2.2.2.2.2.2.2.1 r1221.2.2.2.2.2.2.2.2.2.2.2.1 r1221.2.2.2.2.2.2.2.2.2.2.2.2.1 r1221.2.2.2.2.2.2.2.2.2.2.2.2.2.1 r1221.2.2.2.2.2.2.2.2.2.2.2.2.2.2.1 r1221.2.2.2.2.2.2.2.2.2.2.2.2.2.2.2.1 r1221.2.2.2.2.2.2.2.2.2.2.2.2.2.2.2.2.1 r1221.2.2.2.2.2.2.2.2.2.2.2.2.2.2.2.2.2.1 r1221.2.2.2.2.2.2.2.2.2.2.2.2.2.2.2.2.2.2.1 r1221.2.2.2.2.2.2.2.2.2.2.2.2.2.2.2.2.2.2.2.1 r1221.2.2.2.2.2.2.2.2.2.2.2.2.2.2.2.2.2.2.2.2.2.1 (y0 .i64 (r1221.2.2.2.2.2.2.2.2.2.2.2.2.2.2.2.2.2.2.2.2.2.2.1+1))))
    (none))
   (cond (x8==1)
    (cond ((yv x21 2)==0)
     ((q0t F 1 x16 x17).bind fun r1234=>
     cond ((decide (0≤x21))&&(decide (x21<((n1181:Nat):Int))))
      ((q02 F F x0 x1 x2 x3 x4 x5 x6 x7 x8 x9 x10 x11 x12 x13 x14 x15 x16 r1234.2.1 x18 r1234.1 x21 x20 x21 (y8 4 (y9 ((y6 x21)*4) x0)) 0).bind fun r1254=>
      let n1255:Nat:=((ya r1254.1)/4)
      cond (r1254.2.2.2.2.2.2.1==0)
       (cond ((decide (0≤r1254.2.2.2.2.2.2.2.2.2.2.2.2.2.2.2.2.2.2.2.2.1))&&(decide (r1254.2.2.2.2.2.2.2.2.2.2.2.2.2.2.2.2.2.2.2.2.1<((n1255:Nat):Int))))
        (rec (yx r1254.1 (3+((y6 r1254.2.2.2.2.2.2.2.2.2.2.2.2.2.2.2.2.2.2.2.2.1)*4)) 255) r1254.2.1 r1254.2.2.1 r1254.2.2.2.1 r1254.2.2.2.2.1 r1254.2.2.2.2.2.1 r1254.2.2.2.2.2.2.1 r1254.2.2.2.2.2.2.2.1 r1254.2.2.2.2.2.2.2.2.1 r1254.2.2.2.2.2.2.2.2.2.1 r1254.2.2.2.2.2.2.2.2.2.2.1 r1254.2.2.2.2.2.2.2.2.2.2.2.1 r1254.2.2.2.2.2.2.2.2.2.2.2.2.1 r1254.2.2.2.2.2.2.2.2.2.2.2.2.2.1 r1254.2.2.2.2.2.2.2.2.2.2.2.2.2.2.1 r1254.2.2.2.2.2.2.2.2.2.2.2.2.2.2.2.1 r1254.2.2.2.2.2.2.2.2.2.2.2.2.2.2.2.2.1 r1254.2.2.2.2.2.2.2.2.2.2.2.2.2.2.2.2.2.1 r1254.2.2.2.2.2.2.2.2.2.2.2.2.2.2.2.2.2.2.1 r1254.2.2.2.2.2.2.2.2.2.2.2.2.2.2.2.2.2.2.2.1 r1254.2.2.2.2.2.2.2.2.2.2.2.2.2.2.2.2.2.2.2.2.2.1 (y0 .i64 (r1254.2.2.2.2.2.2.2.2.2.2.2.2.2.2.2.2.2.2.2.2.2.2.1+1)))
        (none))
       (rec r1254.1 r1254.2.1 r1254.2.2.1 r1254.2.2.2.1 r1254.2.2.2.2.1 r1254.2.2.2.2.2.1 r1254.2.2.2.2.2.2.1 r1254.2.2.2.2.2.2.2.1 r1254.2.2.2.2.2.2.2.2.1 r1254.2.2.2.2.2.2.2.2.2.1 r1254.2.2.2.2.2.2.2.2.2.2.1 r1254.2.2.2.2.2.2.2.2.2.2.2.1 r1254.2.2.2.2.2.2.2.2.2.2.2.2.1 r1254.2.2.2.2.2.2.2.2.2.2.2.2.2.1 r1254.2.2.2.2.2.2.2.2.2.2.2.2.2.2.1 r1254.2.2.2.2.2.2.2.2.2.2.2.2.2.2.2.1 r1254.2.2.2.2.2.2.2.2.2.2.2.2.2.2.2.2.1 r1254.2.2.2.2.2.2.2.2.2.2.2.2.2.2.2.2.2.1 r1254.2.2.2.2.2.2.2.2.2.2.2.2.2.2.2.2.2.2.1 r1254.2.2.2.2.2.2.2.2.2.2.2.2.2.2.2.2.2.2.2.1 r1254.2.2.2.2.2.2.2.2.2.2.2.2.2.2.2.2.2.2.2.2.2.1 (y0 .i64 (r1254.2.2.2.2.2.2.2.2.2.2.2.2.2.2.2.2.2.2.2.2.2.2.1+1))))
      (none))
     (cond ((decide (0≤x21))&&(decide (x21<((n1181:Nat):Int))))
      ((q02 F F x0 x1 x2 x3 x4 x5 x6 x7 x8 x9 x10 x11 x12 x13 x14 x15 x16 x17 x18 x19 x21 x20 x21 (y8 4 (y9 ((y6 x21)*4) x0)) 0).bind fun r1283=>
      let n1284:Nat:=((ya r1283.1)/4)
      cond (r1283.2.2.2.2.2.2.1==0)
       (cond ((decide (0≤r1283.2.2.2.2.2.2.2.2.2.2.2.2.2.2.2.2.2.2.2.2.1))&&(decide (r1283.2.2.2.2.2.2.2.2.2.2.2.2.2.2.2.2.2.2.2.2.1<((n1284:Nat):Int))))
        (rec (yx r1283.1 (3+((y6 r1283.2.2.2.2.2.2.2.2.2.2.2.2.2.2.2.2.2.2.2.2.1)*4)) 255) r1283.2.1 r1283.2.2.1 r1283.2.2.2.1 r1283.2.2.2.2.1 r1283.2.2.2.2.2.1 r1283.2.2.2.2.2.2.1 r1283.2.2.2.2.2.2.2.1 r1283.2.2.2.2.2.2.2.2.1 r1283.2.2.2.2.2.2.2.2.2.1 r1283.2.2.2.2.2.2.2.2.2.2.1 r1283.2.2.2.2.2.2.2.2.2.2.2.1 r1283.2.2.2.2.2.2.2.2.2.2.2.2.1 r1283.2.2.2.2.2.2.2.2.2.2.2.2.2.1 r1283.2.2.2.2.2.2.2.2.2.2.2.2.2.2.1 r1283.2.2.2.2.2.2.2.2.2.2.2.2.2.2.2.1 r1283.2.2.2.2.2.2.2.2.2.2.2.2.2.2.2.2.1 r1283.2.2.2.2.2.2.2.2.2.2.2.2.2.2.2.2.2.1 r1283.2.2.2.2.2.2.2.2.2.2.2.2.2.2.2.2.2.2.1 r1283.2.2.2.2.2.2.2.2.2.2.2.2.2.2.2.2.2.2.2.1 r1283.2.2.2.2.2.2.2.2.2.2.2.2.2.2.2.2.2.2.2.2.2.1 (y0 .i64 (r1283.2.2.2.2.2.2.2.2.2.2.2.2.2.2.2.2.2.2.2.2.2.2.1+1)))
        (none))
       (rec r1283.1 r1283.2.1 r1283.2.2.1 r1283.2.2.2.1 r1283.2.2.2.2.1 r1283.2.2.2.2.2.1 r1283.2.2.2.2.2.2.1 r1283.2.2.2.2.2.2.2.1 r1283.2.2.2.2.2.2.2.2.1 r1283.2.2.2.2.2.2.2.2.2.1 r1283.2.2.2.2.2.2.2.2.2.2.1 r1283.2.2.2.2.2.2.2.2.2.2.2.1 r1283.2.2.2.2.2.2.2.2.2.2.2.2.1 r1283.2.2.2.2.2.2.2.2.2.2.2.2.2.1 r1283.2.2.2.2.2.2.2.2.2.2.2.2.2.2.1 r1283.2.2.2.2.2.2.2.2.2.2.2.2.2.2.2.1 r1283.2.2.2.2.2.2.2.2.2.2.2.2.2.2.2.2.1 r1283.2.2.2.2.2.2.2.2.2.2.2.2.2.2.2.2.2.1 r1283.2.2.2.2.2.2.2.2.2.2.2.2.2.2.2.2.2.2.1 r1283.2.2.2.2.2.2.2.2.2.2.2.2.2.2.2.2.2.2.2.1 r1283.2.2.2.2.2.2.2.2.2.2.2.2.2.2.2.2.2.2.2.2.2.1 (y0 .i64 (r1283.2.2.2.2.2.2.2.2.2.2.2.2.2.2.2.2.2.2.2.2.2.2.1+1))))
      (none)))
    (cond ((decide (0≤x21))&&(decide (x21<((n1181:Nat):Int))))
     ((q02 F F x0 x1 x2 x3 x4 x5 x6 x7 x8 x9 x10 x11 x12 x13 x14 x15 x16 x17 x18 x19 x21 x20 x21 (y8 4 (y9 ((y6 x21)*4) x0)) 0).bind fun r1312=>
     let n1313:Nat:=((ya r1312.1)/4)
     cond (r1312.2.2.2.2.2.2.1==0)
      (cond ((decide (0≤r1312.2.2.2.2.2.2.2.2.2.2.2.2.2.2.2.2.2.2.2.2.1))&&(decide (r1312.2.2.2.2.2.2.2.2.2.2.2.2.2.2.2.2.2.2.2.2.1<((n1313:Nat):Int))))
       (rec (yx r1312.1 (3+((y6 r1312.2.2.2.2.2.2.2.2.2.2.2.2.2.2.2.2.2.2.2.2.1)*4)) 255) r1312.2.1 r1312.2.2.1 r1312.2.2.2.1 r1312.2.2.2.2.1 r1312.2.2.2.2.2.1 r1312.2.2.2.2.2.2.1 r1312.2.2.2.2.2.2.2.1 r1312.2.2.2.2.2.2.2.2.1 r1312.2.2.2.2.2.2.2.2.2.1 r1312.2.2.2.2.2.2.2.2.2.2.1 r1312.2.2.2.2.2.2.2.2.2.2.2.1 r1312.2.2.2.2.2.2.2.2.2.2.2.2.1 r1312.2.2.2.2.2.2.2.2.2.2.2.2.2.1 r1312.2.2.2.2.2.2.2.2.2.2.2.2.2.2.1 r1312.2.2.2.2.2.2.2.2.2.2.2.2.2.2.2.1 r1312.2.2.2.2.2.2.2.2.2.2.2.2.2.2.2.2.1 r1312.2.2.2.2.2.2.2.2.2.2.2.2.2.2.2.2.2.1 r1312.2.2.2.2.2.2.2.2.2.2.2.2.2.2.2.2.2.2.1 r1312.2.2.2.2.2.2.2.2.2.2.2.2.2.2.2.2.2.2.2.1 r1312.2.2.2.2.2.2.2.2.2.2.2.2.2.2.2.2.2.2.2.2.2.1 (y0 .i64 (r1312.2.2.2.2.2.2.2.2.2.2.2.2.2.2.2.2.2.2.2.2.2.2.1+1)))
       (none))
      (rec r1312.1 r1312.2.1 r1312.2.2.1 r1312.2.2.2.1 r1312.2.2.2.2.1 r1312.2.2.2.2.2.1 r1312.2.2.2.2.2.2.1 r1312.2.2.2.2.2.2.2.1 r1312.2.2.2.2.2.2.2.2.1 r1312.2.2.2.2.2.2.2.2.2.1 r1312.2.2.2.2.2.2.2.2.2.2.1 r1312.2.2.2.2.2.2.2.2.2.2.2.1 r1312.2.2.2.2.2.2.2.2.2.2.2.2.1 r1312.2.2.2.2.2.2.2.2.2.2.2.2.2.1 r1312.2.2.2.2.2.2.2.2.2.2.2.2.2.2.1 r1312.2.2.2.2.2.2.2.2.2.2.2.2.2.2.2.1 r1312.2.2.2.2.2.2.2.2.2.2.2.2.2.2.2.2.1 r1312.2.2.2.2.2.2.2.2.2.2.2.2.2.2.2.2.2.1 r1312.2.2.2.2.2.2.2.2.2.2.2.2.2.2.2.2.2.2.1 r1312.2.2.2.2.2.2.2.2.2.2.2.2.2.2.2.2.2.2.2.1 r1312.2.2.2.2.2.2.2.2.2.2.2.2.2.2.2.2.2.2.2.2.2.1 (y0 .i64 (r1312.2.2.2.2.2.2.2.2.2.2.2.2.2.2.2.2.2.2.2.2.2.2.1+1))))
     (none))))
  (some (x0,(x1,(x2,(x3,(x4,(x5,(x6,(x7,(x8,(x9,(x10,(x11,(x12,(x13,(x14,(x15,(x16,(x17,())))))))))))))))))))
def q0a(F:Nat):Nat→List Int→Int→Int→Int→Int→Int→Int→Int→Int→Int→Int→Int→Int→Int→List Int→List Int→List Int→Int→Int→Int→Int→Int→Option (List Int×(Int×(Int×(Int×(Int×(Int×(Int×(Int×(Int×(Int×(Int×(Int×(Int×(Int×(List Int×(List Int×(List Int×(Int×Unit))))))))))))))))))
 |0,_,_,_,_,_,_,_,_,_,_,_,_,_,_,_,_,_,_,_,_,_,_=>none
 |k+1,x0,x1,x2,x3,x4,x5,x6,x7,x8,x9,x10,x11,x12,x13,x14,x15,x16,x17,x18,x19,x20,x21=>q12 F (q0a F k) x0 x1 x2 x3 x4 x5 x6 x7 x8 x9 x10 x11 x12 x13 x14 x15 x16 x17 x18 x19 x20 x21
def q1v(F:Nat)(a0:List Int)(a1:Int)(a2:Int)(a3:Int)(a4:Int)(a5:Int)(a6:Int)(a7:Int)(a8:Int)(a9:Int)(a10:Int)(a11:Int)(a12:Int)(a13:Int)(a14:List Int)(a15:List Int)(a16:List Int)(a17:Int):Option (List Int×(Int×Unit)):=
 (q0a F F a0 a1 a2 a3 a4 a5 a6 a7 a8 a9 a10 a11 a12 a13 a14 a15 a16 a17 (y0 .i64 (a7+a8)) 0 ((((ya a0)/4):Nat):Int) 0).bind fun r1322=>
 some (r1322.1,(r1322.2.2.2.2.2.2.2.2.2.2.2.2.2.2.2.2.2.1,()))
def q34(F:Nat)(rec:List Int→Int→Int→Int→Int→Int→Int→Int→Int→Int→Int→Int→Int→Int→List Int→List Int→Int→Bool→Int→Option (Bool×Unit))(x0:List Int)(x1:Int)(x2:Int)(x3:Int)(x4:Int)(x5:Int)(x6:Int)(x7:Int)(x8:Int)(x9:Int)(x10:Int)(x11:Int)(x12:Int)(x13:Int)(x14:List Int)(x15:List Int)(x16:Int)(x17:Bool)(x18:Int):Option (Bool×Unit):=
 cond (decide (x18<x1))
  (cond x17
   (rec x0 x1 x2 x3 x4 x5 x6 x7 x8 x9 x10 x11 x12 x13 x14 x15 x16 true (y0 .i64 (x18+1)))
   ((qbk F x1 x11 x18).bind fun r1381=>
   rec x0 x1 x2 x3 x4 x5 x6 x7 x8 x9 x10 x11 x12 x13 x14 x15 x16 (r1381.1==x16) (y0 .i64 (x18+1))))
  (some (x17,()))
def q0v(F:Nat):Nat→List Int→Int→Int→Int→Int→Int→Int→Int→Int→Int→Int→Int→Int→Int→List Int→List Int→Int→Bool→Int→Option (Bool×Unit)
 |0,_,_,_,_,_,_,_,_,_,_,_,_,_,_,_,_,_,_,_=>none
 |k+1,x0,x1,x2,x3,x4,x5,x6,x7,x8,x9,x10,x11,x12,x13,x14,x15,x16,x17,x18=>q34 F (q0v F k) x0 x1 x2 x3 x4 x5 x6 x7 x8 x9 x10 x11 x12 x13 x14 x15 x16 x17 x18
def q4z(F:Nat)(a0:List Int)(a1:Int)(a2:Int)(a3:Int)(a4:Int)(a5:Int)(a6:Int)(a7:Int)(a8:Int)(a9:Int)(a10:Int)(a11:Int)(a12:Int)(a13:Int)(a14:List Int)(a15:List Int)(a16:Int):Option (Int×Unit):=
 (q0v F F a0 a1 a2 a3 a4 a5 a6 a7 a8 a9 a10 a11 a12 a13 a14 a15 a16 (a16==0) 1).bind fun r1384=>
 cond r1384.1
  (some (1,()))
  (some (0,()))
def q84(F:Nat)(rec:List Int→List Int→List Int→Int→Int→Int→Int→Int→Int→Int→Int→Int→Int→Int→Int→Int→List Int→List Int→List Int→Int→Int→Int→Int→Int→Option (List Int×(List Int×(List Int×(Int×(Int×(Int×(Int×(Int×(Int×(Int×(Int×(Int×(Int×(Int×(Int×(Int×(List Int×(List Int×(List Int×(Int×(Int×Unit))))))))))))))))))))))(x0:List Int)(x1:List Int)(x2:List Int)(x3:Int)(x4:Int)(x5:Int)(x6:Int)(x7:Int)(x8:Int)(x9:Int)(x10:Int)(x11:Int)(x12:Int)(x13:Int)(x14:Int)(x15:Int)(x16:List Int)(x17:List Int)(x18:List Int)(x19:Int)(x20:Int)(x21:Int)(x22:Int)(x23:Int):Option (List Int×(List Int×(List Int×(Int×(Int×(Int×(Int×(Int×(Int×(Int×(Int×(Int×(Int×(Int×(Int×(Int×(List Int×(List Int×(List Int×(Int×(Int×Unit))))))))))))))))))))):=
 let n1542:Nat:=((ya x2)/4)
 cond (decide (x23<x22))
  (cond ((decide (0≤x23))&&(decide (x23<((n1542:Nat):Int))))
   ((q5g F (x3,(x4,(x5,(x6,(x7,(x8,(x9,(x10,(x11,(x12,())))))))))) x20).bind fun r1547=>
   (q0t F r1547.1 x18 x19).bind fun r1548=>
   cond ((decide (0≤x20))&&(decide (x20<4)))
    (rec x0 x1 (yx x2 (((y6 x23)*4)+(y6 x20)) r1548.1) x3 x4 x5 x6 x7 x8 x9 x10 x11 x12 x13 x14 x15 x16 x17 x18 r1548.2.1 x20 x21 x22 (y0 .i64 (x23+1)))
    (none))
   (none))
  (some (x0,(x1,(x2,(x3,(x4,(x5,(x6,(x7,(x8,(x9,(x10,(x11,(x12,(x13,(x14,(x15,(x16,(x17,(x18,(x19,(x21,()))))))))))))))))))))))
def q3t(F:Nat):Nat→List Int→List Int→List Int→Int→Int→Int→Int→Int→Int→Int→Int→Int→Int→Int→Int→Int→List Int→List Int→List Int→Int→Int→Int→Int→Int→Option (List Int×(List Int×(List Int×(Int×(Int×(Int×(Int×(Int×(Int×(Int×(Int×(Int×(Int×(Int×(Int×(Int×(List Int×(List Int×(List Int×(Int×(Int×Unit)))))))))))))))))))))
 |0,_,_,_,_,_,_,_,_,_,_,_,_,_,_,_,_,_,_,_,_,_,_,_,_=>none
 |k+1,x0,x1,x2,x3,x4,x5,x6,x7,x8,x9,x10,x11,x12,x13,x14,x15,x16,x17,x18,x19,x20,x21,x22,x23=>q84 F (q3t F k) x0 x1 x2 x3 x4 x5 x6 x7 x8 x9 x10 x11 x12 x13 x14 x15 x16 x17 x18 x19 x20 x21 x22 x23
def q85(F:Nat)(rec:List Int→List Int→List Int→Int→Int→Int→Int→Int→Int→Int→Int→Int→Int→Int→Int→Int→List Int→List Int→List Int→Int→Int→Option (List Int×(List Int×(List Int×(Int×(Int×(Int×(Int×(Int×(Int×(Int×(Int×(Int×(Int×(Int×(Int×(Int×(List Int×(List Int×(List Int×(Int×Unit)))))))))))))))))))))(x0:List Int)(x1:List Int)(x2:List Int)(x3:Int)(x4:Int)(x5:Int)(x6:Int)(x7:Int)(x8:Int)(x9:Int)(x10:Int)(x11:Int)(x12:Int)(x13:Int)(x14:Int)(x15:Int)(x16:List Int)(x17:List Int)(x18:List Int)(x19:Int)(x20:Int):Option (List Int×(List Int×(List Int×(Int×(Int×(Int×(Int×(Int×(Int×(Int×(Int×(Int×(Int×(Int×(Int×(Int×(List Int×(List Int×(List Int×(Int×Unit)))))))))))))))))))):=
 cond (decide (x20<4))
  ((q3t F F x0 x1 x2 x3 x4 x5 x6 x7 x8 x9 x10 x11 x12 x13 x14 x15 x16 x17 x18 x19 x20 x20 ((((ya x2)/4):Nat):Int) 0).bind fun r1553=>
  rec r1553.1 r1553.2.1 r1553.2.2.1 r1553.2.2.2.1 r1553.2.2.2.2.1 r1553.2.2.2.2.2.1 r1553.2.2.2.2.2.2.1 r1553.2.2.2.2.2.2.2.1 r1553.2.2.2.2.2.2.2.2.1 r1553.2.2.2.2.2.2.2.2.2.1 r1553.2.2.2.2.2.2.2.2.2.2.1 r1553.2.2.2.2.2.2.2.2.2.2.2.1 r1553.2.2.2.2.2.2.2.2.2.2.2.2.1 r1553.2.2.2.2.2.2.2.2.2.2.2.2.2.1 r1553.2.2.2.2.2.2.2.2.2.2.2.2.2.2.1 r1553.2.2.2.2.2.2.2.2.2.2.2.2.2.2.2.1 r1553.2.2.2.2.2.2.2.2.2.2.2.2.2.2.2.2.1 r1553.2.2.2.2.2.2.2.2.2.2.2.2.2.2.2.2.2.1 r1553.2.2.2.2.2.2.2.2.2.2.2.2.2.2.2.2.2.2.1 r1553.2.2.2.2.2.2.2.2.2.2.2.2.2.2.2.2.2.2.2.1 (y0 .i64 (r1553.2.2.2.2.2.2.2.2.2.2.2.2.2.2.2.2.2.2.2.2.1+1)))
  (some (x0,(x1,(x2,(x3,(x4,(x5,(x6,(x7,(x8,(x9,(x10,(x11,(x12,(x13,(x14,(x15,(x16,(x17,(x18,(x19,())))))))))))))))))))))
def q20(F:Nat):Nat→List Int→List Int→List Int→Int→Int→Int→Int→Int→Int→Int→Int→Int→Int→Int→Int→Int→List Int→List Int→List Int→Int→Int→Option (List Int×(List Int×(List Int×(Int×(Int×(Int×(Int×(Int×(Int×(Int×(Int×(Int×(Int×(Int×(Int×(Int×(List Int×(List Int×(List Int×(Int×Unit))))))))))))))))))))
 |0,_,_,_,_,_,_,_,_,_,_,_,_,_,_,_,_,_,_,_,_,_=>none
 |k+1,x0,x1,x2,x3,x4,x5,x6,x7,x8,x9,x10,x11,x12,x13,x14,x15,x16,x17,x18,x19,x20=>q85 F (q20 F k) x0 x1 x2 x3 x4 x5 x6 x7 x8 x9 x10 x11 x12 x13 x14 x15 x16 x17 x18 x19 x20
def q86(F:Nat)(rec:List Int→List Int→List Int→Int→Int→Int→Int→Int→Int→Int→Int→Int→Int→Int→Int→Int→List Int→List Int→List Int→Int→Int→Option (List Int×(List Int×(List Int×(Int×(Int×(Int×(Int×(Int×(Int×(Int×(Int×(Int×(Int×(Int×(Int×(Int×(List Int×(List Int×(List Int×(Int×Unit)))))))))))))))))))))(x0:List Int)(x1:List Int)(x2:List Int)(x3:Int)(x4:Int)(x5:Int)(x6:Int)(x7:Int)(x8:Int)(x9:Int)(x10:Int)(x11:Int)(x12:Int)(x13:Int)(x14:Int)(x15:Int)(x16:List Int)(x17:List Int)(x18:List Int)(x19:Int)(x20:Int):Option (List Int×(List Int×(List Int×(Int×(Int×(Int×(Int×(Int×(Int×(Int×(Int×(Int×(Int×(Int×(Int×(Int×(List Int×(List Int×(List Int×(Int×Unit)))))))))))))))))))):=
 cond (decide (x20<16))
  ((q4z F x2 x3 x4 x5 x6 x7 x8 x9 x10 x11 x12 x13 x14 x15 x16 x17 x20).bind fun r1580=>
  (q0t F (y0 .i64 (x11-r1580.1)) x18 x19).bind fun r1582=>
  cond ((decide (0≤x20))&&(decide (x20<16)))
   (rec x0 x1 x2 x3 x4 x5 x6 x7 x8 x9 x10 x11 x12 x13 x14 x15 (yx x16 (y6 x20) r1582.1) x17 x18 r1582.2.1 (y0 .i64 (x20+1)))
   (none))
  (some (x0,(x1,(x2,(x3,(x4,(x5,(x6,(x7,(x8,(x9,(x10,(x11,(x12,(x13,(x14,(x15,(x16,(x17,(x18,(x19,())))))))))))))))))))))
def q3u(F:Nat):Nat→List Int→List Int→List Int→Int→Int→Int→Int→Int→Int→Int→Int→Int→Int→Int→Int→Int→List Int→List Int→List Int→Int→Int→Option (List Int×(List Int×(List Int×(Int×(Int×(Int×(Int×(Int×(Int×(Int×(Int×(Int×(Int×(Int×(Int×(Int×(List Int×(List Int×(List Int×(Int×Unit))))))))))))))))))))
 |0,_,_,_,_,_,_,_,_,_,_,_,_,_,_,_,_,_,_,_,_,_=>none
 |k+1,x0,x1,x2,x3,x4,x5,x6,x7,x8,x9,x10,x11,x12,x13,x14,x15,x16,x17,x18,x19,x20=>q86 F (q3u F k) x0 x1 x2 x3 x4 x5 x6 x7 x8 x9 x10 x11 x12 x13 x14 x15 x16 x17 x18 x19 x20
def q87(F:Nat)(rec:List Int→List Int→List Int→Int→Int→Int→Int→Int→Int→Int→Int→Int→Int→Int→Int→Int→List Int→List Int→List Int→Int→Int→Option (List Int×(List Int×(List Int×(Int×(Int×(Int×(Int×(Int×(Int×(Int×(Int×(Int×(Int×(Int×(Int×(Int×(List Int×(List Int×Unit)))))))))))))))))))(x0:List Int)(x1:List Int)(x2:List Int)(x3:Int)(x4:Int)(x5:Int)(x6:Int)(x7:Int)(x8:Int)(x9:Int)(x10:Int)(x11:Int)(x12:Int)(x13:Int)(x14:Int)(x15:Int)(x16:List Int)(x17:List Int)(x18:List Int)(x19:Int)(x20:Int):Option (List Int×(List Int×(List Int×(Int×(Int×(Int×(Int×(Int×(Int×(Int×(Int×(Int×(Int×(Int×(Int×(Int×(List Int×(List Int×Unit)))))))))))))))))):=
 cond (decide (x20<16))
  (let v1610:Int:=(y0 .i64 (x20+1))
  cond (!(v1610==0))
   ((q0t F (y0 .i64 (x12-(y0 .i64 (yw 1 v1610)))) x18 x19).bind fun r1614=>
   cond ((decide (0≤x20))&&(decide (x20<16)))
    (rec x0 x1 x2 x3 x4 x5 x6 x7 x8 x9 x10 x11 x12 x13 x14 x15 x16 (yx x17 (y6 x20) r1614.1) x18 r1614.2.1 v1610)
    (none))
   (none))
  (some (x0,(x1,(x2,(x3,(x4,(x5,(x6,(x7,(x8,(x9,(x10,(x11,(x12,(x13,(x14,(x15,(x16,(x17,())))))))))))))))))))
def q3v(F:Nat):Nat→List Int→List Int→List Int→Int→Int→Int→Int→Int→Int→Int→Int→Int→Int→Int→Int→Int→List Int→List Int→List Int→Int→Int→Option (List Int×(List Int×(List Int×(Int×(Int×(Int×(Int×(Int×(Int×(Int×(Int×(Int×(Int×(Int×(Int×(Int×(List Int×(List Int×Unit))))))))))))))))))
 |0,_,_,_,_,_,_,_,_,_,_,_,_,_,_,_,_,_,_,_,_,_=>none
 |k+1,x0,x1,x2,x3,x4,x5,x6,x7,x8,x9,x10,x11,x12,x13,x14,x15,x16,x17,x18,x19,x20=>q87 F (q3v F k) x0 x1 x2 x3 x4 x5 x6 x7 x8 x9 x10 x11 x12 x13 x14 x15 x16 x17 x18 x19 x20
def qg0(F:Nat)(a0:List Int)(a1:Int):Option (Int×(Int×(Int×(Int×(Int×(Int×(Int×(Int×(Int×(Int×(Int×(Int×(Int×(List Int×(List Int×(List Int×Unit)))))))))))))))):=
 (qjg F).bind fun r1443=>
 let n1444:Nat:=((ya r1443.1)/10)
 cond ((decide (0≤a1))&&(decide (a1<((n1444:Nat):Int))))
  (let l1447:List Int:=(y8 10 (y9 ((y6 a1)*10) r1443.1))
  let v1448:Int:=(y7 l1447 0 0)
  let v1449:Int:=(y7 l1447 1 0)
  let v1450:Int:=(y7 l1447 2 0)
  let v1451:Int:=(y7 l1447 3 0)
  (q0t F v1449 a0 (y0 .i64 (a1+1))).bind fun r1459=>
  (q0t F v1450 a0 r1459.2.1).bind fun r1460=>
  (q0t F v1451 a0 r1460.2.1).bind fun r1461=>
  let v1462:Int:=(y0 .i64 (2*v1448))
  cond ((decide (0≤v1462))&&((decide (v1462≤1099511627776))&&(decide (v1462=v1462))))
   ((q20 F F q0l q0l (yy ((y6 v1462)*4) 0) v1448 v1449 v1450 v1451 (y7 l1447 4 0) (y7 l1447 5 0) (y7 l1447 6 0) (y7 l1447 7 0) (y7 l1447 8 0) (y7 l1447 9 0) r1459.1 r1460.1 r1461.1 q0l q0l a0 r1461.2.1 0).bind fun r1557=>
   (q1v F r1557.2.2.1 r1557.2.2.2.1 r1557.2.2.2.2.1 r1557.2.2.2.2.2.1 r1557.2.2.2.2.2.2.1 r1557.2.2.2.2.2.2.2.1 r1557.2.2.2.2.2.2.2.2.1 r1557.2.2.2.2.2.2.2.2.2.1 r1557.2.2.2.2.2.2.2.2.2.2.1 r1557.2.2.2.2.2.2.2.2.2.2.2.1 r1557.2.2.2.2.2.2.2.2.2.2.2.2.1 r1557.2.2.2.2.2.2.2.2.2.2.2.2.2.1 r1557.2.2.2.2.2.2.2.2.2.2.2.2.2.2.1 r1557.2.2.2.2.2.2.2.2.2.2.2.2.2.2.2.1 r1557.2.2.2.2.2.2.2.2.2.2.2.2.2.2.2.2.1 r1557.2.2.2.2.2.2.2.2.2.2.2.2.2.2.2.2.2.1 r1557.2.2.2.2.2.2.2.2.2.2.2.2.2.2.2.2.2.2.1 r1557.2.2.2.2.2.2.2.2.2.2.2.2.2.2.2.2.2.2.2.1).bind fun r1560=>
   (q3u F F r1557.1 r1557.2.1 r1560.1 r1557.2.2.2.1 r1557.2.2.2.2.1 r1557.2.2.2.2.2.1 r1557.2.2.2.2.2.2.1 r1557.2.2.2.2.2.2.2.1 r1557.2.2.2.2.2.2.2.2.1 r1557.2.2.2.2.2.2.2.2.2.1 r1557.2.2.2.2.2.2.2.2.2.2.1 r1557.2.2.2.2.2.2.2.2.2.2.2.1 r1557.2.2.2.2.2.2.2.2.2.2.2.2.1 r1557.2.2.2.2.2.2.2.2.2.2.2.2.2.1 r1557.2.2.2.2.2.2.2.2.2.2.2.2.2.2.1 r1557.2.2.2.2.2.2.2.2.2.2.2.2.2.2.2.1 r1557.2.2.2.2.2.2.2.2.2.2.2.2.2.2.2.2.1 r1557.2.2.2.2.2.2.2.2.2.2.2.2.2.2.2.2.2.1 r1557.2.2.2.2.2.2.2.2.2.2.2.2.2.2.2.2.2.2.1 r1560.2.1 0).bind fun r1587=>
   cond (decide (0<r1587.2.2.2.2.2.2.2.2.2.2.2.2.1))
    ((q3v F F r1587.1 r1587.2.1 r1587.2.2.1 r1587.2.2.2.1 r1587.2.2.2.2.1 r1587.2.2.2.2.2.1 r1587.2.2.2.2.2.2.1 r1587.2.2.2.2.2.2.2.1 r1587.2.2.2.2.2.2.2.2.1 r1587.2.2.2.2.2.2.2.2.2.1 r1587.2.2.2.2.2.2.2.2.2.2.1 r1587.2.2.2.2.2.2.2.2.2.2.2.1 r1587.2.2.2.2.2.2.2.2.2.2.2.2.1 r1587.2.2.2.2.2.2.2.2.2.2.2.2.2.1 r1587.2.2.2.2.2.2.2.2.2.2.2.2.2.2.1 r1587.2.2.2.2.2.2.2.2.2.2.2.2.2.2.2.1 r1587.2.2.2.2.2.2.2.2.2.2.2.2.2.2.2.2.1 r1587.2.2.2.2.2.2.2.2.2.2.2.2.2.2.2.2.2.1 r1587.2.2.2.2.2.2.2.2.2.2.2.2.2.2.2.2.2.2.1 r1587.2.2.2.2.2.2.2.2.2.2.2.2.2.2.2.2.2.2.2.1 0).bind fun r1618=>
    some (r1618.2.2.2.1,(r1618.2.2.2.2.1,(r1618.2.2.2.2.2.1,(r1618.2.2.2.2.2.2.1,(r1618.2.2.2.2.2.2.2.1,(r1618.2.2.2.2.2.2.2.2.1,(r1618.2.2.2.2.2.2.2.2.2.1,(r1618.2.2.2.2.2.2.2.2.2.2.1,(r1618.2.2.2.2.2.2.2.2.2.2.2.1,(r1618.2.2.2.2.2.2.2.2.2.2.2.2.1,(r1618.2.2.2.2.2.2.2.2.2.2.2.2.2.1,(r1618.2.2.2.2.2.2.2.2.2.2.2.2.2.2.1,(r1618.2.2.2.2.2.2.2.2.2.2.2.2.2.2.2.1,(r1618.2.2.1,(r1618.2.2.2.2.2.2.2.2.2.2.2.2.2.2.2.2.1,(r1618.2.2.2.2.2.2.2.2.2.2.2.2.2.2.2.2.2.1,())))))))))))))))))
    (some (r1587.2.2.2.1,(r1587.2.2.2.2.1,(r1587.2.2.2.2.2.1,(r1587.2.2.2.2.2.2.1,(r1587.2.2.2.2.2.2.2.1,(r1587.2.2.2.2.2.2.2.2.1,(r1587.2.2.2.2.2.2.2.2.2.1,(r1587.2.2.2.2.2.2.2.2.2.2.1,(r1587.2.2.2.2.2.2.2.2.2.2.2.1,(r1587.2.2.2.2.2.2.2.2.2.2.2.2.1,(r1587.2.2.2.2.2.2.2.2.2.2.2.2.2.1,(r1587.2.2.2.2.2.2.2.2.2.2.2.2.2.2.1,(r1587.2.2.2.2.2.2.2.2.2.2.2.2.2.2.2.1,(r1587.2.2.1,(r1587.2.2.2.2.2.2.2.2.2.2.2.2.2.2.2.2.1,(r1587.2.2.2.2.2.2.2.2.2.2.2.2.2.2.2.2.2.1,()))))))))))))))))))
   (none))
  (none)
def q37(F:Nat)(a0:Int)(a1:Int)(a2:Int)(a3:Int):Option (Int×Unit):=
 (q9k F a3).bind fun r1671=>
 let n1672:Nat:=(ya r1671.1)
 cond ((decide (0≤a2))&&(decide (a2<((n1672:Nat):Int))))
  ((qhg F a0 a1 (y7 r1671.1 (y6 a2) 0) 64 32).bind fun r1687=>
  some (r1687.1,()))
  (none)
def q35(F:Nat)(rec:List Int→Int→Int→Int→Int→Int→Int→Int→Int→Int→Int→Int→Int→Int→List Int→List Int→List Int→List Int→List Int→Int→Int→Int→Int→List Int→Int→Option (List Int×(Int×(Int×(Int×(Int×(Int×(Int×(Int×(Int×(Int×(Int×(Int×(Int×(Int×(List Int×(List Int×(List Int×(List Int×(List Int×(Int×(Int×(List Int×Unit)))))))))))))))))))))))(x0:List Int)(x1:Int)(x2:Int)(x3:Int)(x4:Int)(x5:Int)(x6:Int)(x7:Int)(x8:Int)(x9:Int)(x10:Int)(x11:Int)(x12:Int)(x13:Int)(x14:List Int)(x15:List Int)(x16:List Int)(x17:List Int)(x18:List Int)(x19:Int)(x20:Int)(x21:Int)(x22:Int)(x23:List Int)(x24:Int):Option (List Int×(Int×(Int×(Int×(Int×(Int×(Int×(Int×(Int×(Int×(Int×(Int×(Int×(Int×(List Int×(List Int×(List Int×(List Int×(List Int×(Int×(Int×(List Int×Unit)))))))))))))))))))))):=
 cond (decide (x24<3))
  (let b1824:Bool:=((decide (0≤x24))&&(decide (x24<4)))
  cond b1824
   (cond b1824
    ((q37 F (y7 x17 (y6 x24) 0) (y7 x18 (y6 x24) 0) x19 x20).bind fun r1828=>
    cond b1824
     (rec x0 x1 x2 x3 x4 x5 x6 x7 x8 x9 x10 x11 x12 x13 x14 x15 x16 x17 x18 x19 x20 x21 x22 (yx x23 (y6 x24) r1828.1) (y0 .i64 (x24+1)))
     (none))
    (none))
   (none))
  (some (x0,(x1,(x2,(x3,(x4,(x5,(x6,(x7,(x8,(x9,(x10,(x11,(x12,(x13,(x14,(x15,(x16,(x17,(x18,(x21,(x22,(x23,())))))))))))))))))))))))
def q0e(F:Nat):Nat→List Int→Int→Int→Int→Int→Int→Int→Int→Int→Int→Int→Int→Int→Int→List Int→List Int→List Int→List Int→List Int→Int→Int→Int→Int→List Int→Int→Option (List Int×(Int×(Int×(Int×(Int×(Int×(Int×(Int×(Int×(Int×(Int×(Int×(Int×(Int×(List Int×(List Int×(List Int×(List Int×(List Int×(Int×(Int×(List Int×Unit))))))))))))))))))))))
 |0,_,_,_,_,_,_,_,_,_,_,_,_,_,_,_,_,_,_,_,_,_,_,_,_,_=>none
 |k+1,x0,x1,x2,x3,x4,x5,x6,x7,x8,x9,x10,x11,x12,x13,x14,x15,x16,x17,x18,x19,x20,x21,x22,x23,x24=>q35 F (q0e F k) x0 x1 x2 x3 x4 x5 x6 x7 x8 x9 x10 x11 x12 x13 x14 x15 x16 x17 x18 x19 x20 x21 x22 x23 x24
def q50(F:Nat)(a0:List Int)(a1:Int)(a2:Int)(a3:Int)(a4:Int)(a5:Int)(a6:Int)(a7:Int)(a8:Int)(a9:Int)(a10:Int)(a11:Int)(a12:Int)(a13:Int)(a14:List Int)(a15:List Int)(a16:Int):Option (List Int×Unit):=
 let n1792:Nat:=((ya a0)/4)
 (qfw F a1 a11 a16).bind fun r1793=>
 let v1794:Int:=(y0 .i64 (2*r1793.1))
 let v1795:Int:=(y0 .i64 (v1794+1))
 cond ((decide (0≤v1794))&&(decide (v1794<((n1792:Nat):Int))))
  (let l1798:List Int:=(y8 4 (y9 ((y6 v1794)*4) a0))
  cond ((decide (0≤v1795))&&(decide (v1795<((n1792:Nat):Int))))
   (let l1801:List Int:=(y8 4 (y9 ((y6 v1795)*4) a0))
   let b1802:Bool:=((decide (0≤a16))&&(decide (a16<16)))
   cond b1802
    (let v1804:Int:=(y7 a14 (y6 a16) 0)
    cond (decide (0<a10))
     (cond b1802
      (let v1806:Int:=(y7 a15 (y6 a16) 0)
      cond (a13==1)
       ((q0e F F a0 a1 a2 a3 a4 a5 a6 a7 a8 a9 a10 a11 a12 a13 a14 a15 [0,0,0,0] l1798 l1801 v1806 a10 v1804 a9 [0,0,0,0] 0).bind fun r1831=>
       (q37 F (y7 r1831.2.2.2.2.2.2.2.2.2.2.2.2.2.2.2.2.2.1 3 0) (y7 r1831.2.2.2.2.2.2.2.2.2.2.2.2.2.2.2.2.2.2.1 3 0) r1831.2.2.2.2.2.2.2.2.2.2.2.2.2.2.2.2.2.2.2.1 r1831.2.2.2.2.2.2.2.2.2.2.2.2.2.2.2.2.2.2.2.2.1).bind fun r1835=>
       let l1836:List Int:=(yx r1831.2.2.2.2.2.2.2.2.2.2.2.2.2.2.2.2.2.2.2.2.2.1 3 r1835.1)
       cond (decide (0<r1831.2.2.2.2.2.2.2.2.2.2.2.2.1))
        (let v1838:Int:=(y0 .i64 (r1831.2.2.2.2.2.2.2.2.2.2.2.2.1-1))
        let b1839:Bool:=((decide (0≤v1838))&&(decide (v1838<4)))
        cond b1839
         (cond b1839
          (some ((yx (yx l1836 3 (y7 l1836 (y6 v1838) 0)) (y6 v1838) (y7 l1836 3 0)),()))
          (none))
         (none))
        (some (l1836,())))
       ((q0e F F a0 a1 a2 a3 a4 a5 a6 a7 a8 a9 a10 a11 a12 a13 a14 a15 [0,0,0,0] l1798 l1801 v1804 a9 v1806 a10 [0,0,0,0] 0).bind fun r1854=>
       (q37 F (y7 r1854.2.2.2.2.2.2.2.2.2.2.2.2.2.2.2.2.2.1 3 0) (y7 r1854.2.2.2.2.2.2.2.2.2.2.2.2.2.2.2.2.2.2.1 3 0) r1854.2.2.2.2.2.2.2.2.2.2.2.2.2.2.2.2.2.2.2.1 r1854.2.2.2.2.2.2.2.2.2.2.2.2.2.2.2.2.2.2.2.2.1).bind fun r1858=>
       let l1859:List Int:=(yx r1854.2.2.2.2.2.2.2.2.2.2.2.2.2.2.2.2.2.2.2.2.2.1 3 r1858.1)
       cond (decide (0<r1854.2.2.2.2.2.2.2.2.2.2.2.2.1))
        (let v1861:Int:=(y0 .i64 (r1854.2.2.2.2.2.2.2.2.2.2.2.2.1-1))
        let b1862:Bool:=((decide (0≤v1861))&&(decide (v1861<4)))
        cond b1862
         (cond b1862
          (some ((yx (yx l1859 3 (y7 l1859 (y6 v1861) 0)) (y6 v1861) (y7 l1859 3 0)),()))
          (none))
         (none))
        (some (l1859,()))))
      (none))
     (cond (a13==1)
      ((q0e F F a0 a1 a2 a3 a4 a5 a6 a7 a8 a9 a10 a11 a12 a13 a14 a15 [0,0,0,0] l1798 l1801 v1804 a9 v1804 a9 [0,0,0,0] 0).bind fun r1878=>
      (q37 F (y7 r1878.2.2.2.2.2.2.2.2.2.2.2.2.2.2.2.2.2.1 3 0) (y7 r1878.2.2.2.2.2.2.2.2.2.2.2.2.2.2.2.2.2.2.1 3 0) r1878.2.2.2.2.2.2.2.2.2.2.2.2.2.2.2.2.2.2.2.1 r1878.2.2.2.2.2.2.2.2.2.2.2.2.2.2.2.2.2.2.2.2.1).bind fun r1882=>
      let l1883:List Int:=(yx r1878.2.2.2.2.2.2.2.2.2.2.2.2.2.2.2.2.2.2.2.2.2.1 3 r1882.1)
      cond (decide (0<r1878.2.2.2.2.2.2.2.2.2.2.2.2.1))
       (let v1885:Int:=(y0 .i64 (r1878.2.2.2.2.2.2.2.2.2.2.2.2.1-1))
       let b1886:Bool:=((decide (0≤v1885))&&(decide (v1885<4)))
       cond b1886
        (cond b1886
         (some ((yx (yx l1883 3 (y7 l1883 (y6 v1885) 0)) (y6 v1885) (y7 l1883 3 0)),()))
         (none))
        (none))
       (some (l1883,())))
      ((q0e F F a0 a1 a2 a3 a4 a5 a6 a7 a8 a9 a10 a11 a12 a13 a14 a15 [0,0,0,0] l1798 l1801 v1804 a9 v1804 a9 [0,0,0,0] 0).bind fun r1901=>
      (q37 F (y7 r1901.2.2.2.2.2.2.2.2.2.2.2.2.2.2.2.2.2.1 3 0) (y7 r1901.2.2.2.2.2.2.2.2.2.2.2.2.2.2.2.2.2.2.1 3 0) r1901.2.2.2.2.2.2.2.2.2.2.2.2.2.2.2.2.2.2.2.1 r1901.2.2.2.2.2.2.2.2.2.2.2.2.2.2.2.2.2.2.2.2.1).bind fun r1905=>
      let l1906:List Int:=(yx r1901.2.2.2.2.2.2.2.2.2.2.2.2.2.2.2.2.2.2.2.2.2.1 3 r1905.1)
      cond (decide (0<r1901.2.2.2.2.2.2.2.2.2.2.2.2.1))
       (let v1908:Int:=(y0 .i64 (r1901.2.2.2.2.2.2.2.2.2.2.2.2.1-1))
       let b1909:Bool:=((decide (0≤v1908))&&(decide (v1908<4)))
       cond b1909
        (cond b1909
         (some ((yx (yx l1906 3 (y7 l1906 (y6 v1908) 0)) (y6 v1908) (y7 l1906 3 0)),()))
         (none))
        (none))
       (some (l1906,())))))
    (none))
   (none))
  (none)
def q6n(F:Nat)(rec:List Int→List Int→List Int→Int→Int→Int→Int→Int→Int→Int→Int→Int→Int→Int→Int→Int→List Int→List Int→Int→Option (List Int×(List Int×Unit)))(x0:List Int)(x1:List Int)(x2:List Int)(x3:Int)(x4:Int)(x5:Int)(x6:Int)(x7:Int)(x8:Int)(x9:Int)(x10:Int)(x11:Int)(x12:Int)(x13:Int)(x14:Int)(x15:Int)(x16:List Int)(x17:List Int)(x18:Int):Option (List Int×(List Int×Unit)):=
 cond (decide (x18<16))
  ((q50 F x2 x3 x4 x5 x6 x7 x8 x9 x10 x11 x12 x13 x14 x15 x16 x17 x18).bind fun r1926=>
  cond ((decide (0≤x18))&&(decide (x18<16)))
   (let n1928:Nat:=((y6 x18)*4)
   rec x0 (((y8 n1928 x1)++r1926.1)++(y9 (n1928+4) x1)) x2 x3 x4 x5 x6 x7 x8 x9 x10 x11 x12 x13 x14 x15 x16 x17 (y0 .i64 (x18+1)))
   (none))
  (some (x0,(x1,())))
def q2j(F:Nat):Nat→List Int→List Int→List Int→Int→Int→Int→Int→Int→Int→Int→Int→Int→Int→Int→Int→Int→List Int→List Int→Int→Option (List Int×(List Int×Unit))
 |0,_,_,_,_,_,_,_,_,_,_,_,_,_,_,_,_,_,_,_=>none
 |k+1,x0,x1,x2,x3,x4,x5,x6,x7,x8,x9,x10,x11,x12,x13,x14,x15,x16,x17,x18=>q6n F (q2j F k) x0 x1 x2 x3 x4 x5 x6 x7 x8 x9 x10 x11 x12 x13 x14 x15 x16 x17 x18
def q7l(F:Nat)(a0:List Int):Option (List Int×(Int×Unit)):=
 cond ((((ya a0):Nat):Int) !=16)
  (some (q1z,(1,())))
  ((qfz F a0).bind fun r295=>
  cond (r295.1==8)
   (some (q1z,(0,())))
   ((qg0 F a0 r295.1).bind fun r1620=>
   (q2j F F q1z q1z r1620.2.2.2.2.2.2.2.2.2.2.2.2.2.1 r1620.1 r1620.2.1 r1620.2.2.1 r1620.2.2.2.1 r1620.2.2.2.2.1 r1620.2.2.2.2.2.1 r1620.2.2.2.2.2.2.1 r1620.2.2.2.2.2.2.2.1 r1620.2.2.2.2.2.2.2.2.1 r1620.2.2.2.2.2.2.2.2.2.1 r1620.2.2.2.2.2.2.2.2.2.2.1 r1620.2.2.2.2.2.2.2.2.2.2.2.1 r1620.2.2.2.2.2.2.2.2.2.2.2.2.1 r1620.2.2.2.2.2.2.2.2.2.2.2.2.2.2.1 r1620.2.2.2.2.2.2.2.2.2.2.2.2.2.2.2.1 0).bind fun r1931=>
   some (r1931.2.1,(0,()))))
def zcx(F:Nat)(a0:Int)(a1:Int)(a2:Int)(a3:Int):Option (Int×Unit):=
 (qjb F a3).bind fun r3032=>
 let n3033:Nat:=(ya r3032.1)
 cond ((decide (0≤a2))&&(decide (a2<((n3033:Nat):Int))))
  ((qmx F a0 a1 (y7 r3032.1 (y6 a2) 0) 64 32).bind fun r3047=>
  some (r3047.1,()))
  (none)
def ref09_SixT5836:List Int:=[64,0,0,0,0,0,0,0,0,0,0,0,0,0,0,0]
end Go.AE.Gn
set_option linter.unusedSimpArgs false
set_option linter.unusedVariables false
namespace Go.AE.Gn
open Go Go.AE
def qjh:List Int:=[0,0,0,0,0,0,0,0]
def q2o(F:Nat)(a0:Int)(a1:Int)(a2:Int)(a3:List Int):Option (List Int×Unit):=
 (q26 F a3 a1 (y0 .i64 ((y0 .i64 (a2-a1))+1)) (y0 .u64 a0)).bind fun r187=>
 some (r187.1,())
def q64:List Int:=[7,9,10,11,12,13,14]
def q76(F:Nat)(rec:Int→List Int→List Int→Int→Int→Option (List Int×Unit))(x0:Int)(x1:List Int)(x2:List Int)(x3:Int)(x4:Int):Option (List Int×Unit):=
 cond (decide (x4<x3))
  (cond ((decide (0≤x4))&&(decide (x4<(((ya x1):Nat):Int))))
   (let v302:Int:=(y0 .i64 ((y0 .i64 ((((ya x1):Nat):Int)-1))-x4))
   cond (decide (0≤v302))
    ((q26 F x2 (y7 x1 (y6 x4) 0) 1 (y0 .u64 (iand .i64 (ishr .i64 x0 v302) 1))).bind fun r307=>
    rec x0 x1 r307.1 x3 (y0 .i64 (x4+1)))
    (none))
   (none))
  (some (x2,()))
def q2a(F:Nat):Nat→Int→List Int→List Int→Int→Int→Option (List Int×Unit)
 |0,_,_,_,_,_=>none
 |k+1,x0,x1,x2,x3,x4=>q76 F (q2a F k) x0 x1 x2 x3 x4
def q2p(F:Nat)(a0:Int)(a1:List Int)(a2:List Int):Option (List Int×Unit):=
 (q2a F F a0 a1 a2 (((ya a1):Nat):Int) 0).bind fun r310=>
 some (r310.1,())
def q65:List Int:=[15,19,20,22,23,24]
def q66:List Int:=[25,26,27,28,29,31]
def q4s:List Int:=[0,0,0,0,0,0,0,0,0,0,0,0,0,0,0,0]
def q05(F:Nat)(a0:List Int)(a1:Bool)(a2:Bool)(a3:List Int)(a4:List Int)(a5:List Int)(a6:List Int)(a7:Bool)(a8:Int)(a9:Int):Option (Int×Unit):=
 (q9h F a0 a8 (y0 .i64 ((y0 .i64 (a9-a8))+1))).bind fun r577=>
 some ((y0 .i64 r577.1),())
def qbl(F:Nat)(rec:List Int→List Int→List Int→List Int→Int→Option (Unit⊕(List Int×(List Int×(List Int×Unit)))))(x0:List Int)(x1:List Int)(x2:List Int)(x3:List Int)(x4:Int):Option (Unit⊕(List Int×(List Int×(List Int×Unit)))):=
 cond (decide (x4<3))
  (cond ((decide (0≤x4))&&(decide (x4<3)))
   (let l611:List Int:=(y8 3 (y9 ((y6 x4)*3) x3))
   cond ((qsg .i64 (ior .i64 (y7 l611 0 0) (y7 l611 2 0)) 63) !=0)
    (some (.inl ()))
    (cond ((qsg .i64 (y7 l611 1 0) 127) !=0)
     (some (.inl ()))
     (rec x0 x1 x2 x3 (y0 .i64 (x4+1)))))
   (none))
  (some (.inr (x0,(x1,(x2,())))))
def q2q(F:Nat):Nat→List Int→List Int→List Int→List Int→Int→Option (Unit⊕(List Int×(List Int×(List Int×Unit))))
 |0,_,_,_,_,_=>none
 |k+1,x0,x1,x2,x3,x4=>qbl F (q2q F k) x0 x1 x2 x3 x4
def qbm(F:Nat)(rec:List Int→Bool→Bool→List Int→List Int→List Int→List Int→Int→Option (List Int×Unit))(x0:List Int)(x1:Bool)(x2:Bool)(x3:List Int)(x4:List Int)(x5:List Int)(x6:List Int)(x7:Int):Option (List Int×Unit):=
 cond (decide (x7<2))
  (let b682:Bool:=((decide (0≤x7))&&(decide (x7<3)))
  cond b682
   (cond b682
    (let v686:Int:=(y0 .i64 ((y7 x3 (y6 x7) 0)+(y7 x4 (y6 x7) 0)))
    cond (decide (v686<0))
     ((q2p F 1 [(y0 .i64 (8*x7))] x0).bind fun r689=>
     rec r689.1 x1 x2 x3 x4 x5 x6 (y0 .i64 (x7+1)))
     (cond (decide (31<v686))
      ((q2p F 1 [(y0 .i64 (8*x7))] x0).bind fun r694=>
      rec r694.1 x1 x2 x3 x4 x5 x6 (y0 .i64 (x7+1)))
      (rec x0 x1 x2 x3 x4 x5 x6 (y0 .i64 (x7+1)))))
    (none))
   (none))
  (some (x0,()))
def q3c(F:Nat):Nat→List Int→Bool→Bool→List Int→List Int→List Int→List Int→Int→Option (List Int×Unit)
 |0,_,_,_,_,_,_,_,_=>none
 |k+1,x0,x1,x2,x3,x4,x5,x6,x7=>qbm F (q3c F k) x0 x1 x2 x3 x4 x5 x6 x7
def qhm(F:Nat)(a0:List Int)(a1:List Int)(a2:List Int):Option (List Int×(Int×Unit)):=
 (q2q F F a0 a1 a2 (a0++(a1++a2)) 0).bind fun r621=>match r621 with
  | .inl r621=>(some ([],(1,())))
  | .inr r621=>((q2o F (y7 r621.1 0 0) 1 6 qjh).bind fun r623=>
   (q2p F (y7 r621.1 1 0) q64 r623.1).bind fun r626=>
   (q2p F (y7 r621.1 2 0) q65 r626.1).bind fun r629=>
   (q2p F (y7 r621.2.1 0 0) q66 r629.1).bind fun r632=>
   (q2o F (y7 r621.2.1 1 0) 32 38 r632.1).bind fun r635=>
   (q2o F (y7 r621.2.1 2 0) 39 44 r635.1).bind fun r638=>
   (q2o F (y7 r621.2.2.1 0 0) 45 50 r638.1).bind fun r641=>
   (q2o F (y7 r621.2.2.1 1 0) 51 57 r641.1).bind fun r644=>
   (q2o F (y7 r621.2.2.1 2 0) 58 63 r644.1).bind fun r647=>
   (q2p F 1 [30] r647.1).bind fun r649=>
   (q2x F r649.1).bind fun r651=>
   (q3c F F r649.1 r651.1.1 r651.1.2.1 r651.1.2.2.1 r651.1.2.2.2.1 r651.1.2.2.2.2.1 r651.1.2.2.2.2.2.1 0).bind fun r698=>
   (q05 F r698.1 false false [0,0,0] [0,0,0] [0,0] q4s false 19 20).bind fun r700=>
   (q05 F r698.1 false false [0,0,0] [0,0,0] [0,0] q4s false 22 23).bind fun r701=>
   let v702:Int:=(y0 .i64 (r700.1+r701.1))
   cond (decide (4≤v702))
    ((q2o F 7 16 18 r698.1).bind fun r704=>
    some (r704.1,(0,())))
    ((q2p F 1 [21] r698.1).bind fun r706=>
    some (r706.1,(0,()))))
def q0b:List Int:=[0,0,0,0,0,0,0,0,0,0,0,0,0,0,0,0,0,0,0,0,0,0,0,0,0,0,0,0,0,0,0,0,0,0,0,0,0,0,0,0,0,0,0,0,0,0,0,0,0,0,0,0,0,0,0,0,0,0,0,0,0,0,0,0]
def q51(F:Nat)(rec:List Int→Bool→Bool→List Int→List Int→List Int→List Int→Bool→Int→List Int→Int→Int→Option (Int×Unit))(x0:List Int)(x1:Bool)(x2:Bool)(x3:List Int)(x4:List Int)(x5:List Int)(x6:List Int)(x7:Bool)(x8:Int)(x9:List Int)(x10:Int)(x11:Int):Option (Int×Unit):=
 cond (decide (x11<x10))
  (cond ((decide (0≤x11))&&(decide (x11<(((ya x9):Nat):Int))))
   ((q9h F x0 (y7 x9 (y6 x11) 0) 1).bind fun r782=>
   rec x0 x1 x2 x3 x4 x5 x6 x7 (ior .i64 (ishl .i64 x8 1) (y0 .i64 r782.1)) x9 x10 (y0 .i64 (x11+1)))
   (none))
  (some (x8,()))
def q1q(F:Nat):Nat→List Int→Bool→Bool→List Int→List Int→List Int→List Int→Bool→Int→List Int→Int→Int→Option (Int×Unit)
 |0,_,_,_,_,_,_,_,_,_,_,_,_=>none
 |k+1,x0,x1,x2,x3,x4,x5,x6,x7,x8,x9,x10,x11=>q51 F (q1q F k) x0 x1 x2 x3 x4 x5 x6 x7 x8 x9 x10 x11
def q07(F:Nat)(a0:List Int)(a1:Bool)(a2:Bool)(a3:List Int)(a4:List Int)(a5:List Int)(a6:List Int)(a7:Bool)(a8:List Int):Option (Int×Unit):=
 (q1q F F a0 a1 a2 a3 a4 a5 a6 a7 0 a8 (((ya a8):Nat):Int) 0).bind fun r787=>
 some (r787.1,())
def qji(F:Nat)(a0:List Int)(a1:Bool):Option (List Int×(Bool×(Bool×(List Int×(List Int×(List Int×(List Int×(Bool×Unit)))))))):=
 cond (!a1)
  (cond a1
   ((q26 F a0 30 1 1).bind fun r796=>
   (q2x F r796.1).bind fun r798=>
   some (a0,(r798.1.1,(r798.1.2.1,(r798.1.2.2.1,(r798.1.2.2.2.1,(r798.1.2.2.2.2.1,(r798.1.2.2.2.2.2.1,(true,())))))))))
   ((q2x F a0).bind fun r799=>
   some (a0,(r799.1.1,(r799.1.2.1,(r799.1.2.2.1,(r799.1.2.2.2.1,(r799.1.2.2.2.2.1,(r799.1.2.2.2.2.2.1,(true,()))))))))))
  ((q07 F a0 false false [0,0,0] [0,0,0] [0,0] q4s false [30]).bind fun r800=>
  let b801:Bool:=(r800.1==1)
  cond a1
   ((q26 F a0 30 1 1).bind fun r802=>
   (q2x F r802.1).bind fun r804=>
   some (a0,(r804.1.1,(r804.1.2.1,(r804.1.2.2.1,(r804.1.2.2.2.1,(r804.1.2.2.2.2.1,(r804.1.2.2.2.2.2.1,(b801,())))))))))
   ((q2x F a0).bind fun r805=>
   some (a0,(r805.1.1,(r805.1.2.1,(r805.1.2.2.1,(r805.1.2.2.2.1,(r805.1.2.2.2.2.1,(r805.1.2.2.2.2.2.1,(b801,()))))))))))
def q77(F:Nat)(a0:List Int)(a1:Bool)(a2:Bool)(a3:List Int)(a4:List Int)(a5:List Int)(a6:List Int)(a7:Bool):Option (Int×Unit):=
 (q8z F (a1,(a2,(a3,(a4,(a5,(a6,()))))))).bind fun r946=>
 cond (r946.2.1==3)
  (some (0,()))
  (some ((y0 .i64 (1+r946.2.1)),()))
def q3d(F:Nat)(rec:List Int→Bool→Bool→List Int→List Int→List Int→List Int→Bool→List Int→List Int→List Int→List Int→Int→Option (List Int×(List Int×Unit)))(x0:List Int)(x1:Bool)(x2:Bool)(x3:List Int)(x4:List Int)(x5:List Int)(x6:List Int)(x7:Bool)(x8:List Int)(x9:List Int)(x10:List Int)(x11:List Int)(x12:Int):Option (List Int×(List Int×Unit)):=
 cond (decide (x12<16))
  (let b1178:Bool:=((decide (0≤x12))&&(decide (x12<16)))
  cond b1178
   (cond (!x7)
    (cond ((y7 x11 (y6 x12) 0)==0)
     ((qeh F x2 x12).bind fun r1182=>
     cond ((decide (0≤r1182.1))&&(decide (r1182.1<2)))
      (cond b1178
       (let n1186:Nat:=((y6 x12)*4)
       rec x0 x1 x2 x3 x4 x5 x6 x7 x8 (((y8 n1186 x9)++(y8 4 (y9 ((y6 r1182.1)*4) x10)))++(y9 (n1186+4) x9)) x10 x11 (y0 .i64 (x12+1)))
       (none))
      (none))
     (rec x0 x1 x2 x3 x4 x5 x6 x7 x8 x9 x10 x11 (y0 .i64 (x12+1))))
    (rec x0 x1 x2 x3 x4 x5 x6 x7 x8 x9 x10 x11 (y0 .i64 (x12+1))))
   (none))
  (some (x8,(x9,())))
def q0w(F:Nat):Nat→List Int→Bool→Bool→List Int→List Int→List Int→List Int→Bool→List Int→List Int→List Int→List Int→Int→Option (List Int×(List Int×Unit))
 |0,_,_,_,_,_,_,_,_,_,_,_,_,_=>none
 |k+1,x0,x1,x2,x3,x4,x5,x6,x7,x8,x9,x10,x11,x12=>q3d F (q0w F k) x0 x1 x2 x3 x4 x5 x6 x7 x8 x9 x10 x11 x12
def q5h(F:Nat)(a0:List Int)(a1:Bool)(a2:Bool)(a3:List Int)(a4:List Int)(a5:List Int)(a6:List Int)(a7:Bool):Option (List Int×Unit):=
 (qc4 F (a1,(a2,(a3,(a4,(a5,(a6,()))))))).bind fun r1150=>
 (q8z F (a1,(a2,(a3,(a4,(a5,(a6,()))))))).bind fun r1151=>
 (q0w F F a0 a1 a2 a3 a4 a5 a6 a7 q0b r1150.1 r1151.1 a6 0).bind fun r1191=>
 some (r1191.2.1,())
def q54(F:Nat)(rec:List Int→List Int→List Int→List Int→Int→Option (List Int×(List Int×Unit)))(x0:List Int)(x1:List Int)(x2:List Int)(x3:List Int)(x4:Int):Option (List Int×(List Int×Unit)):=
 cond (decide (x4<3))
  (let b1245:Bool:=((decide (0≤x4))&&(decide (x4<3)))
  cond b1245
   (cond b1245
    ((q0f F (y7 x3 (y6 x4) 0) (y7 x0 (y6 x4) 0)).bind fun r1249=>
    cond ((decide (0≤x4))&&(decide (x4<4)))
     (rec x0 x1 (yx x2 (y6 x4) r1249.1) x3 (y0 .i64 (x4+1)))
     (none))
    (none))
   (none))
  (some (x1,(x2,())))
def q2r(F:Nat):Nat→List Int→List Int→List Int→List Int→Int→Option (List Int×(List Int×Unit))
 |0,_,_,_,_,_=>none
 |k+1,x0,x1,x2,x3,x4=>q54 F (q2r F k) x0 x1 x2 x3 x4
def qel(F:Nat)(a0:List Int)(a1:List Int):Option (List Int×Unit):=
 (q2r F F a1 [0,0,0,0] [0,0,0,255] a0 0).bind fun r1253=>
 some (r1253.2.1,())
def q4i(F:Nat)(a0:List Int):Option (List Int×Unit):=
 (qel F a0 [4,4,4]).bind fun r1254=>
 some (r1254.1,())
def etctwo_DistanceT1261:List Int:=[3,6,11,16,23,32,41,64]
def q55(F:Nat)(a0:Int):Option (Int×Unit):=
 let v1262:Int:=(iand .i64 a0 7)
 cond ((decide (0≤v1262))&&(decide (v1262<8)))
  (some ((y7 etctwo_DistanceT1261 (y6 v1262) 0),()))
  (none)
def q4b(F:Nat)(rec:Int→List Int→List Int→Int→Option (List Int×(List Int×Unit)))(x0:Int)(x1:List Int)(x2:List Int)(x3:Int):Option (List Int×(List Int×Unit)):=
 cond (decide (x3<3))
  (let b1279:Bool:=((decide (0≤x3))&&(decide (x3<4)))
  cond b1279
   ((q4q F (y0 .i64 ((y7 x1 (y6 x3) 0)+x0)) 255).bind fun r1283=>
   cond b1279
    (rec x0 (yx x1 (y6 x3) r1283.1) x2 (y0 .i64 (x3+1)))
    (none))
   (none))
  (some (x1,(x2,())))
def q21(F:Nat):Nat→Int→List Int→List Int→Int→Option (List Int×(List Int×Unit))
 |0,_,_,_,_=>none
 |k+1,x0,x1,x2,x3=>q4b F (q21 F k) x0 x1 x2 x3
def q0h(F:Nat)(a0:List Int)(a1:Int):Option (List Int×Unit):=
 (q21 F F a1 a0 [0,0,0,0] 0).bind fun r1286=>
 some (r1286.1,())
def q4j(F:Nat)(rec:List Int→List Int→List Int→List Int→Int→Option (List Int×(List Int×Unit)))(x0:List Int)(x1:List Int)(x2:List Int)(x3:List Int)(x4:Int):Option (List Int×(List Int×Unit)):=
 cond (decide (x4<16))
  (let b1332:Bool:=((decide (0≤x4))&&(decide (x4<16)))
  cond b1332
   (let v1333:Int:=(y7 x3 (y6 x4) 0)
   cond ((decide (0≤v1333))&&(decide (v1333<4)))
    (cond b1332
     (let n1337:Nat:=((y6 x4)*4)
     rec x0 x1 (((y8 n1337 x2)++(y8 4 (y9 ((y6 v1333)*4) x0)))++(y9 (n1337+4) x2)) x3 (y0 .i64 (x4+1)))
     (none))
    (none))
   (none))
  (some (x1,(x2,())))
def q1e(F:Nat):Nat→List Int→List Int→List Int→List Int→Int→Option (List Int×(List Int×Unit))
 |0,_,_,_,_,_=>none
 |k+1,x0,x1,x2,x3,x4=>q4j F (q1e F k) x0 x1 x2 x3 x4
def q3o(F:Nat)(a0:List Int)(a1:Bool)(a2:Bool)(a3:List Int)(a4:List Int)(a5:List Int)(a6:List Int)(a7:Bool)(a8:List Int):Option (List Int×Unit):=
 (q1e F F a8 q0b q0b a6 0).bind fun r1340=>
 some (r1340.2.1,())
def q88(F:Nat)(a0:List Int)(a1:Bool)(a2:Bool)(a3:List Int)(a4:List Int)(a5:List Int)(a6:List Int)(a7:Bool):Option (List Int×Unit):=
 (q07 F a0 a1 a2 a3 a4 a5 a6 a7 [3,4,6,7]).bind fun r1343=>
 (q05 F a0 a1 a2 a3 a4 a5 a6 a7 8 11).bind fun r1344=>
 (q05 F a0 a1 a2 a3 a4 a5 a6 a7 12 15).bind fun r1345=>
 (q4i F [r1343.1,r1344.1,r1345.1]).bind fun r1346=>
 (q05 F a0 a1 a2 a3 a4 a5 a6 a7 16 19).bind fun r1347=>
 (q05 F a0 a1 a2 a3 a4 a5 a6 a7 20 23).bind fun r1348=>
 (q05 F a0 a1 a2 a3 a4 a5 a6 a7 24 27).bind fun r1349=>
 (q4i F [r1347.1,r1348.1,r1349.1]).bind fun r1350=>
 (q07 F a0 a1 a2 a3 a4 a5 a6 a7 [28,29,31]).bind fun r1351=>
 (q55 F r1351.1).bind fun r1352=>
 (q0h F r1350.1 r1352.1).bind fun r1353=>
 (q0h F r1350.1 (y0 .i64 (0-r1352.1))).bind fun r1355=>
 (q3o F a0 a1 a2 a3 a4 a5 a6 a7 (r1346.1++(r1353.1++(r1350.1++r1355.1)))).bind fun r1357=>
 some (r1357.1,())
def qc5:List Int:=[1,2,3,4,5,6,7,11,12,14,15,16]
def q89(F:Nat)(a0:List Int)(a1:Bool)(a2:Bool)(a3:List Int)(a4:List Int)(a5:List Int)(a6:List Int)(a7:Bool):Option (List Int×Unit):=
 (q05 F a0 a1 a2 a3 a4 a5 a6 a7 1 4).bind fun r1409=>
 (q07 F a0 a1 a2 a3 a4 a5 a6 a7 [5,6,7,11]).bind fun r1410=>
 (q07 F a0 a1 a2 a3 a4 a5 a6 a7 [12,14,15,16]).bind fun r1411=>
 (q05 F a0 a1 a2 a3 a4 a5 a6 a7 17 20).bind fun r1412=>
 (q05 F a0 a1 a2 a3 a4 a5 a6 a7 21 24).bind fun r1413=>
 (q05 F a0 a1 a2 a3 a4 a5 a6 a7 25 28).bind fun r1414=>
 (q07 F a0 a1 a2 a3 a4 a5 a6 a7 [29,31]).bind fun r1415=>
 let v1416:Int:=(ishl .i64 r1415.1 1)
 (q07 F a0 a1 a2 a3 a4 a5 a6 a7 qc5).bind fun r1417=>
 (q05 F a0 a1 a2 a3 a4 a5 a6 a7 17 28).bind fun r1418=>
 cond (decide (r1418.1≤r1417.1))
  ((q4i F [r1409.1,r1410.1,r1411.1]).bind fun r1421=>
  (q4i F [r1412.1,r1413.1,r1414.1]).bind fun r1422=>
  (q55 F (y0 .i64 (v1416+1))).bind fun r1423=>
  (q0h F r1421.1 r1423.1).bind fun r1424=>
  let v1425:Int:=(y0 .i64 (0-r1423.1))
  (q0h F r1421.1 v1425).bind fun r1426=>
  (q0h F r1422.1 r1423.1).bind fun r1427=>
  (q0h F r1422.1 v1425).bind fun r1428=>
  (q3o F a0 a1 a2 a3 a4 a5 a6 a7 (r1424.1++(r1426.1++(r1427.1++r1428.1)))).bind fun r1430=>
  some (r1430.1,()))
  ((q4i F [r1409.1,r1410.1,r1411.1]).bind fun r1431=>
  (q4i F [r1412.1,r1413.1,r1414.1]).bind fun r1432=>
  (q55 F v1416).bind fun r1433=>
  (q0h F r1431.1 r1433.1).bind fun r1434=>
  let v1435:Int:=(y0 .i64 (0-r1433.1))
  (q0h F r1431.1 v1435).bind fun r1436=>
  (q0h F r1432.1 r1433.1).bind fun r1437=>
  (q0h F r1432.1 v1435).bind fun r1438=>
  (q3o F a0 a1 a2 a3 a4 a5 a6 a7 (r1434.1++(r1436.1++(r1437.1++r1438.1)))).bind fun r1440=>
  some (r1440.1,()))
def q90(F:Nat)(a0:List Int):Option (List Int×Unit):=
 (qel F a0 [6,7,6]).bind fun r1467=>
 some (r1467.1,())
def q8a(F:Nat)(rec:List Int→List Int→List Int→List Int→List Int→Int→Int→Int→Option (List Int×(List Int×(List Int×(List Int×(List Int×(Int×Unit)))))))(x0:List Int)(x1:List Int)(x2:List Int)(x3:List Int)(x4:List Int)(x5:Int)(x6:Int)(x7:Int):Option (List Int×(List Int×(List Int×(List Int×(List Int×(Int×Unit)))))):=
 cond (decide (x7<3))
  (let b1606:Bool:=((decide (0≤x7))&&(decide (x7<4)))
  cond b1606
   (cond b1606
    (let v1609:Int:=(y7 x0 (y6 x7) 0)
    cond b1606
     (cond b1606
      (cond b1606
       ((q4q F (ishr .i64 (y0 .i64 ((y0 .i64 ((y0 .i64 ((y0 .i64 ((yv x5 4)*(y0 .i64 ((y7 x1 (y6 x7) 0)-v1609))))+(y0 .i64 ((y0 .i64 (yw x5 4))*(y0 .i64 ((y7 x2 (y6 x7) 0)-v1609))))))+(y0 .i64 (4*v1609))))+2)) 2) 255).bind fun r1621=>
       cond ((decide (0≤x5))&&(decide (x5<16)))
        (cond b1606
         (rec x0 x1 x2 x3 (yx x4 (((y6 x5)*4)+(y6 x7)) r1621.1) x5 x6 (y0 .i64 (x7+1)))
         (none))
        (none))
       (none))
      (none))
     (none))
    (none))
   (none))
  (some (x0,(x1,(x2,(x3,(x4,(x6,())))))))
def q3w(F:Nat):Nat→List Int→List Int→List Int→List Int→List Int→Int→Int→Int→Option (List Int×(List Int×(List Int×(List Int×(List Int×(Int×Unit))))))
 |0,_,_,_,_,_,_,_,_=>none
 |k+1,x0,x1,x2,x3,x4,x5,x6,x7=>q8a F (q3w F k) x0 x1 x2 x3 x4 x5 x6 x7
def q8b(F:Nat)(rec:List Int→List Int→List Int→List Int→List Int→Int→Option (List Int×(List Int×Unit)))(x0:List Int)(x1:List Int)(x2:List Int)(x3:List Int)(x4:List Int)(x5:Int):Option (List Int×(List Int×Unit)):=
 cond (decide (x5<16))
  (cond ((decide (0≤x5))&&(decide (x5<16)))
   ((q3w F F x0 x1 x2 x3 (yx x4 (3+((y6 x5)*4)) 255) x5 x5 0).bind fun r1627=>
   rec r1627.1 r1627.2.1 r1627.2.2.1 r1627.2.2.2.1 r1627.2.2.2.2.1 (y0 .i64 (r1627.2.2.2.2.2.1+1)))
   (none))
  (some (x3,(x4,())))
def q3x(F:Nat):Nat→List Int→List Int→List Int→List Int→List Int→Int→Option (List Int×(List Int×Unit))
 |0,_,_,_,_,_,_=>none
 |k+1,x0,x1,x2,x3,x4,x5=>q8b F (q3x F k) x0 x1 x2 x3 x4 x5
def qg1(F:Nat)(a0:List Int)(a1:List Int)(a2:List Int):Option (List Int×Unit):=
 (q3x F F a0 a1 a2 q0b q0b 0).bind fun r1629=>
 some (r1629.2.1,())
def q5i(F:Nat)(a0:List Int)(a1:Bool)(a2:Bool)(a3:List Int)(a4:List Int)(a5:List Int)(a6:List Int)(a7:Bool):Option (List Int×Unit):=
 (q05 F a0 a1 a2 a3 a4 a5 a6 a7 1 6).bind fun r1632=>
 (q07 F a0 a1 a2 a3 a4 a5 a6 a7 q64).bind fun r1633=>
 (q07 F a0 a1 a2 a3 a4 a5 a6 a7 q65).bind fun r1634=>
 (q07 F a0 a1 a2 a3 a4 a5 a6 a7 q66).bind fun r1635=>
 (q05 F a0 a1 a2 a3 a4 a5 a6 a7 32 38).bind fun r1636=>
 (q05 F a0 a1 a2 a3 a4 a5 a6 a7 39 44).bind fun r1637=>
 (q05 F a0 a1 a2 a3 a4 a5 a6 a7 45 50).bind fun r1638=>
 (q05 F a0 a1 a2 a3 a4 a5 a6 a7 51 57).bind fun r1639=>
 (q05 F a0 a1 a2 a3 a4 a5 a6 a7 58 63).bind fun r1640=>
 (q90 F [r1632.1,r1633.1,r1634.1]).bind fun r1641=>
 (q90 F [r1635.1,r1636.1,r1637.1]).bind fun r1642=>
 (q90 F [r1638.1,r1639.1,r1640.1]).bind fun r1643=>
 (qg1 F r1641.1 r1642.1 r1643.1).bind fun r1644=>
 some (r1644.1,())
def q78(F:Nat)(rec:List Int→List Int→Bool→Bool→List Int→List Int→List Int→List Int→Bool→Int→List Int→List Int→Int→Option (List Int×(List Int×Unit)))(x0:List Int)(x1:List Int)(x2:Bool)(x3:Bool)(x4:List Int)(x5:List Int)(x6:List Int)(x7:List Int)(x8:Bool)(x9:Int)(x10:List Int)(x11:List Int)(x12:Int):Option (List Int×(List Int×Unit)):=
 cond (decide (x12<16))
  (let b1214:Bool:=((decide (0≤x12))&&(decide (x12<16)))
  cond b1214
   (cond (!x8)
    (cond (x9 !=3)
     (cond ((y7 x11 (y6 x12) 0)==2)
      (cond b1214
       (let n1219:Nat:=((y6 x12)*4)
       rec x0 x1 x2 x3 x4 x5 x6 x7 x8 x9 (((y8 n1219 x10)++[0,0,0,0])++(y9 (n1219+4) x10)) x11 (y0 .i64 (x12+1)))
       (none))
      (rec x0 x1 x2 x3 x4 x5 x6 x7 x8 x9 x10 x11 (y0 .i64 (x12+1))))
     (rec x0 x1 x2 x3 x4 x5 x6 x7 x8 x9 x10 x11 (y0 .i64 (x12+1))))
    (rec x0 x1 x2 x3 x4 x5 x6 x7 x8 x9 x10 x11 (y0 .i64 (x12+1))))
   (none))
  (some (x0,(x10,())))
def q18(F:Nat):Nat→List Int→List Int→Bool→Bool→List Int→List Int→List Int→List Int→Bool→Int→List Int→List Int→Int→Option (List Int×(List Int×Unit))
 |0,_,_,_,_,_,_,_,_,_,_,_,_,_=>none
 |k+1,x0,x1,x2,x3,x4,x5,x6,x7,x8,x9,x10,x11,x12=>q78 F (q18 F k) x0 x1 x2 x3 x4 x5 x6 x7 x8 x9 x10 x11 x12
def q79(F:Nat)(a0:List Int)(a1:Bool):Option (List Int×(Int×Unit)):=
 cond ((((ya a0):Nat):Int) !=8)
  (some (q0b,(1,())))
  ((qji F a0 a1).bind fun r806=>
  (q77 F r806.1 r806.2.1 r806.2.2.1 r806.2.2.2.1 r806.2.2.2.2.1 r806.2.2.2.2.2.1 r806.2.2.2.2.2.2.1 r806.2.2.2.2.2.2.2.1).bind fun r949=>
  cond (r949.1==0)
   ((q5h F r806.1 r806.2.1 r806.2.2.1 r806.2.2.2.1 r806.2.2.2.2.1 r806.2.2.2.2.2.1 r806.2.2.2.2.2.2.1 r806.2.2.2.2.2.2.2.1).bind fun r1192=>
   (q18 F F q0b r806.1 r806.2.1 r806.2.2.1 r806.2.2.2.1 r806.2.2.2.2.1 r806.2.2.2.2.2.1 r806.2.2.2.2.2.2.1 r806.2.2.2.2.2.2.2.1 r949.1 r1192.1 r806.2.2.2.2.2.2.1 0).bind fun r1225=>
   some (r1225.2.1,(0,())))
   (cond (r949.1==1)
    ((q88 F r806.1 r806.2.1 r806.2.2.1 r806.2.2.2.1 r806.2.2.2.2.1 r806.2.2.2.2.2.1 r806.2.2.2.2.2.2.1 r806.2.2.2.2.2.2.2.1).bind fun r1358=>
    (q18 F F q0b r806.1 r806.2.1 r806.2.2.1 r806.2.2.2.1 r806.2.2.2.2.1 r806.2.2.2.2.2.1 r806.2.2.2.2.2.2.1 r806.2.2.2.2.2.2.2.1 r949.1 r1358.1 r806.2.2.2.2.2.2.1 0).bind fun r1372=>
    some (r1372.2.1,(0,())))
    (cond (r949.1==2)
     ((q89 F r806.1 r806.2.1 r806.2.2.1 r806.2.2.2.1 r806.2.2.2.2.1 r806.2.2.2.2.2.1 r806.2.2.2.2.2.2.1 r806.2.2.2.2.2.2.2.1).bind fun r1441=>
     (q18 F F q0b r806.1 r806.2.1 r806.2.2.1 r806.2.2.2.1 r806.2.2.2.2.1 r806.2.2.2.2.2.1 r806.2.2.2.2.2.2.1 r806.2.2.2.2.2.2.2.1 r949.1 r1441.1 r806.2.2.2.2.2.2.1 0).bind fun r1455=>
     some (r1455.2.1,(0,())))
     (cond (r949.1==3)
      ((q5i F r806.1 r806.2.1 r806.2.2.1 r806.2.2.2.1 r806.2.2.2.2.1 r806.2.2.2.2.2.1 r806.2.2.2.2.2.2.1 r806.2.2.2.2.2.2.2.1).bind fun r1645=>
      (q18 F F q0b r806.1 r806.2.1 r806.2.2.1 r806.2.2.2.1 r806.2.2.2.2.1 r806.2.2.2.2.2.1 r806.2.2.2.2.2.2.1 r806.2.2.2.2.2.2.2.1 r949.1 r1645.1 r806.2.2.2.2.2.2.1 0).bind fun r1659=>
      some (r1659.2.1,(0,())))
      (none)))))
def q22(F:Nat)(a0:List Int)(a1:Int)(a2:Int):Option (Int×Unit):=
 (q3s F a0 a1 (y0 .i64 ((y0 .i64 (a2-a1))+1))).bind fun r2679=>
 some (r2679.1,())
def qgt(F:Nat)(rec:List Int→List Int→Int→Int→Option (Int×Unit))(x0:List Int)(x1:List Int)(x2:Int)(x3:Int):Option (Int×Unit):=
 let v2704:Int:=(((ya x1):Nat):Int)
 cond (decide (x3<v2704))
  (cond ((decide (0≤x3))&&(decide (x3<(((ya x1):Nat):Int))))
   ((q3s F x0 (y7 x1 (y6 x3) 0) 1).bind fun r2710=>
   rec x0 x1 (y0 .i64 ((y0 .i64 (2*x2))+r2710.1)) (y0 .i64 (x3+1)))
   (none))
  (some (x2,()))
def q9p(F:Nat):Nat→List Int→List Int→Int→Int→Option (Int×Unit)
 |0,_,_,_,_=>none
 |k+1,x0,x1,x2,x3=>qgt F (q9p F k) x0 x1 x2 x3
def q2k(F:Nat)(a0:List Int)(a1:List Int):Option (Int×Unit):=
 (q9p F F a0 a1 0 0).bind fun r2713=>
 some (r2713.1,())
def qe0(F:Nat)(a0:List Int):Option (List Int×Unit):=
 (q0c F (y7 a0 0 0) 6).bind fun r2723=>
 (q0c F (y7 a0 1 0) 7).bind fun r2725=>
 (q0c F (y7 a0 2 0) 6).bind fun r2727=>
 some ([r2723.1,r2725.1,r2727.1,255],())
def qem(F:Nat)(rec:List Int→List Int→List Int→List Int→List Int→Int→Int→Option (List Int×(List Int×(List Int×(List Int×(List Int×(Int×Unit)))))))(x0:List Int)(x1:List Int)(x2:List Int)(x3:List Int)(x4:List Int)(x5:Int)(x6:Int):Option (List Int×(List Int×(List Int×(List Int×(List Int×(Int×Unit)))))):=
 cond (decide (x6<3))
  (let b2879:Bool:=((decide (0≤x6))&&(decide (x6<4)))
  cond b2879
   (cond b2879
    (let v2882:Int:=(y7 x0 (y6 x6) 0)
    cond b2879
     (cond b2879
      (cond b2879
       ((qmx F 0 (y0 .i64 ((y0 .i64 ((y0 .i64 ((y0 .i64 ((yv x5 4)*(y0 .i64 ((y7 x1 (y6 x6) 0)-v2882))))+(y0 .i64 ((y0 .i64 (yw x5 4))*(y0 .i64 ((y7 x2 (y6 x6) 0)-v2882))))))+(y0 .i64 (4*v2882))))+2)) 1 4 0).bind fun r2893=>
       (qje F r2893.1 255).bind fun r2894=>
       cond ((decide (0≤x5))&&(decide (x5<16)))
        (cond b2879
         (rec x0 x1 x2 x3 (yx x4 (((y6 x5)*4)+(y6 x6)) r2894.1) x5 (y0 .i64 (x6+1)))
         (none))
        (none))
       (none))
      (none))
     (none))
    (none))
   (none))
  (some (x0,(x1,(x2,(x3,(x4,(x5,())))))))
def q7m(F:Nat):Nat→List Int→List Int→List Int→List Int→List Int→Int→Int→Option (List Int×(List Int×(List Int×(List Int×(List Int×(Int×Unit))))))
 |0,_,_,_,_,_,_,_=>none
 |k+1,x0,x1,x2,x3,x4,x5,x6=>qem F (q7m F k) x0 x1 x2 x3 x4 x5 x6
def qen(F:Nat)(rec:List Int→List Int→List Int→List Int→List Int→Int→Option (List Int×(List Int×Unit)))(x0:List Int)(x1:List Int)(x2:List Int)(x3:List Int)(x4:List Int)(x5:Int):Option (List Int×(List Int×Unit)):=
 cond (decide (x5<16))
  (cond ((decide (0≤x5))&&(decide (x5<16)))
   ((q7m F F x0 x1 x2 x3 (yx x4 (3+((y6 x5)*4)) 255) x5 0).bind fun r2900=>
   rec r2900.1 r2900.2.1 r2900.2.2.1 r2900.2.2.2.1 r2900.2.2.2.2.1 (y0 .i64 (r2900.2.2.2.2.2.1+1)))
   (none))
  (some (x3,(x4,())))
def q7n(F:Nat):Nat→List Int→List Int→List Int→List Int→List Int→Int→Option (List Int×(List Int×Unit))
 |0,_,_,_,_,_,_=>none
 |k+1,x0,x1,x2,x3,x4,x5=>qen F (q7n F k) x0 x1 x2 x3 x4 x5
def qri(F:Nat)(a0:List Int)(a1:List Int)(a2:List Int):Option (List Int×Unit):=
 (q7n F F a0 a1 a2 q0b q0b 0).bind fun r2902=>
 some (r2902.2.1,())
def qy4(F:Nat)(a0:List Int):Option (List Int×Unit):=
 (q22 F a0 1 6).bind fun r2680=>
 (q2k F a0 q64).bind fun r2714=>
 (q2k F a0 q65).bind fun r2715=>
 (q2k F a0 q66).bind fun r2716=>
 (q22 F a0 32 38).bind fun r2717=>
 (q22 F a0 39 44).bind fun r2718=>
 (q22 F a0 45 50).bind fun r2719=>
 (q22 F a0 51 57).bind fun r2720=>
 (q22 F a0 58 63).bind fun r2721=>
 (qe0 F [r2680.1,r2714.1,r2715.1]).bind fun r2728=>
 (qe0 F [r2716.1,r2717.1,r2718.1]).bind fun r2729=>
 (qe0 F [r2719.1,r2720.1,r2721.1]).bind fun r2730=>
 (qri F r2728.1 r2729.1 r2730.1).bind fun r2903=>
 some (r2903.1,())
def q2b(F:Nat)(a0:List Int):Option (List Int×Unit):=
 (q0c F (y7 a0 0 0) 4).bind fun r2999=>
 (q0c F (y7 a0 1 0) 4).bind fun r3001=>
 (q0c F (y7 a0 2 0) 4).bind fun r3003=>
 some ([r2999.1,r3001.1,r3003.1,255],())
def q7o(F:Nat)(a0:Int):Option (Int×Unit):=
 let v3010:Int:=(yv a0 8)
 cond (decide (v3010<0))
  (let v3012:Int:=(y0 .i64 (v3010+8))
  cond ((decide (0≤v3012))&&(decide (v3012<8)))
   (some ((y7 etctwo_DistanceT1261 (y6 v3012) 0),()))
   (none))
  (cond ((decide (0≤v3010))&&(decide (v3010<8)))
   (some ((y7 etctwo_DistanceT1261 (y6 v3010) 0),()))
   (none))
def qg2(F:Nat)(a0:List Int):Option (Int×Unit):=
 some ((y0 .i64 ((y0 .i64 ((y0 .i64 (256*(y7 a0 0 0)))+(y0 .i64 (16*(y7 a0 1 0)))))+(y7 a0 2 0))),())
def qpb(F:Nat)(a0:List Int)(a1:Int):Option (List Int×Unit):=
 cond (a1==1)
  ((q2k F a0 [3,4,6,7]).bind fun r2995=>
  (q22 F a0 8 11).bind fun r2996=>
  (q22 F a0 12 15).bind fun r2997=>
  (q2b F [r2995.1,r2996.1,r2997.1]).bind fun r3004=>
  (q22 F a0 16 19).bind fun r3005=>
  (q22 F a0 20 23).bind fun r3006=>
  (q22 F a0 24 27).bind fun r3007=>
  (q2b F [r3005.1,r3006.1,r3007.1]).bind fun r3008=>
  (q2k F a0 [28,29,31]).bind fun r3009=>
  (q7o F r3009.1).bind fun r3019=>
  (q1d F r3008.1 r3019.1).bind fun r3020=>
  (q1d F r3008.1 (y0 .i64 (0-r3019.1))).bind fun r3022=>
  some ((r3004.1++(r3020.1++(r3008.1++r3022.1))),()))
  ((q22 F a0 1 4).bind fun r3024=>
  (q2k F a0 [5,6,7,11]).bind fun r3025=>
  (q2k F a0 [12,14,15,16]).bind fun r3026=>
  (q22 F a0 17 20).bind fun r3027=>
  (q22 F a0 21 24).bind fun r3028=>
  (q22 F a0 25 28).bind fun r3029=>
  (q2k F a0 [29,31]).bind fun r3030=>
  let v3031:Int:=(y0 .i64 (2*r3030.1))
  (qg2 F [r3024.1,r3025.1,r3026.1]).bind fun r3039=>
  (qg2 F [r3027.1,r3028.1,r3029.1]).bind fun r3040=>
  cond (decide (r3040.1≤r3039.1))
   ((q7o F (y0 .i64 (v3031+1))).bind fun r3043=>
   (q2b F [r3024.1,r3025.1,r3026.1]).bind fun r3044=>
   (q1d F r3044.1 r3043.1).bind fun r3045=>
   (q2b F [r3024.1,r3025.1,r3026.1]).bind fun r3046=>
   let v3047:Int:=(y0 .i64 (0-r3043.1))
   (q1d F r3046.1 v3047).bind fun r3048=>
   (q2b F [r3027.1,r3028.1,r3029.1]).bind fun r3049=>
   (q1d F r3049.1 r3043.1).bind fun r3050=>
   (q2b F [r3027.1,r3028.1,r3029.1]).bind fun r3051=>
   (q1d F r3051.1 v3047).bind fun r3052=>
   some ((r3045.1++(r3048.1++(r3050.1++r3052.1))),()))
   ((q7o F v3031).bind fun r3054=>
   (q2b F [r3024.1,r3025.1,r3026.1]).bind fun r3055=>
   (q1d F r3055.1 r3054.1).bind fun r3056=>
   (q2b F [r3024.1,r3025.1,r3026.1]).bind fun r3057=>
   let v3058:Int:=(y0 .i64 (0-r3054.1))
   (q1d F r3057.1 v3058).bind fun r3059=>
   (q2b F [r3027.1,r3028.1,r3029.1]).bind fun r3060=>
   (q1d F r3060.1 r3054.1).bind fun r3061=>
   (q2b F [r3027.1,r3028.1,r3029.1]).bind fun r3062=>
   (q1d F r3062.1 v3058).bind fun r3063=>
   some ((r3056.1++(r3059.1++(r3061.1++r3063.1))),())))
def z61(F:Nat)(rec:Int→List Int→Int→Option (List Int×Unit))(x0:Int)(x1:List Int)(x2:Int):Option (List Int×Unit):=
 cond (decide (x2≤x0))
  (cond ((decide (((ya x1)+1)≤1099511627776))&&true)
   (rec x0 (x1++[x2]) (y0 .i64 (x2+1)))
   (none))
  (some (x1,()))
def qt9(F:Nat):Nat→Int→List Int→Int→Option (List Int×Unit)
 |0,_,_,_=>none
 |k+1,x0,x1,x2=>z61 F (qt9 F k) x0 x1 x2
def q4c(F:Nat)(a0:Int)(a1:Int):Option (List Int×Unit):=
 (qt9 F F a1 [] a0).bind fun r3491=>
 some (r3491.1,())
def qjj(F:Nat)(rec:List Int→List Int→Int→Int→Option (List Int×Unit))(x0:List Int)(x1:List Int)(x2:Int)(x3:Int):Option (List Int×Unit):=
 cond (decide (0≤x3))
  (cond ((decide (0≤x3))&&(decide (x3<(((ya x1):Nat):Int))))
   ((qmw F x0 (y7 x1 (y6 x3) 0) 1 true (y0 .u64 (yv x2 2))).bind fun r3561=>
   rec r3561.1 x1 (y0 .i64 (yw x2 2)) (y0 .i64 (x3-1)))
   (none))
  (some (x0,()))
def q91(F:Nat):Nat→List Int→List Int→Int→Int→Option (List Int×Unit)
 |0,_,_,_,_=>none
 |k+1,x0,x1,x2,x3=>qjj F (q91 F k) x0 x1 x2 x3
def q39(F:Nat)(a0:List Int)(a1:List Int)(a2:Int):Option (List Int×Unit):=
 (q91 F F a0 a1 a2 (y0 .i64 ((((ya a1):Nat):Int)-1))).bind fun r3565=>
 some (r3565.1,())
def qjk(F:Nat)(rec:List Int→List Int→List Int→List Int→Int→Option (Unit⊕(List Int×(List Int×(List Int×Unit)))))(x0:List Int)(x1:List Int)(x2:List Int)(x3:List Int)(x4:Int):Option (Unit⊕(List Int×(List Int×(List Int×Unit)))):=
 let n3692:Nat:=((ya x3)/3)
 cond (decide (x4<3))
  (let b3694:Bool:=((decide (0≤x4))&&(decide (x4<((n3692:Nat):Int))))
  cond b3694
   (let n3695:Nat:=((y6 x4)*3)
   (qpa F (y7 x3 n3695 0) 0 63).bind fun r3697=>
   cond (!r3697.1)
    (some (.inl ()))
    (cond b3694
     ((qpa F (y7 x3 (1+n3695) 0) 0 127).bind fun r3701=>
     cond (!r3701.1)
      (some (.inl ()))
      (cond b3694
       ((qpa F (y7 x3 (2+n3695) 0) 0 63).bind fun r3705=>
       cond (!r3705.1)
        (some (.inl ()))
        (rec x0 x1 x2 x3 (y0 .i64 (x4+1))))
       (none)))
     (none)))
   (none))
  (some (.inr (x0,(x1,(x2,())))))
def q5b(F:Nat):Nat→List Int→List Int→List Int→List Int→Int→Option (Unit⊕(List Int×(List Int×(List Int×Unit))))
 |0,_,_,_,_,_=>none
 |k+1,x0,x1,x2,x3,x4=>qjk F (q5b F k) x0 x1 x2 x3 x4
def qjl(F:Nat)(rec:List Int→Int→Option (List Int×Unit))(x0:List Int)(x1:Int):Option (List Int×Unit):=
 cond (decide (x1<2))
  ((qej F x0).bind fun r3782=>
  let b3783:Bool:=((decide (0≤x1))&&(decide (x1<3)))
  cond b3783
   (cond b3783
    (let v3787:Int:=(y0 .i64 ((y7 r3782.1.2.2.1 (y6 x1) 0)+(y7 r3782.1.2.2.2.1 (y6 x1) 0)))
    cond (decide (v3787<0))
     ((q39 F x0 [(y0 .i64 (8*x1))] 1).bind fun r3790=>
     rec r3790.1 (y0 .i64 (x1+1)))
     (cond (decide (31<v3787))
      ((q39 F x0 [(y0 .i64 (8*x1))] 1).bind fun r3795=>
      rec r3795.1 (y0 .i64 (x1+1)))
      (rec x0 (y0 .i64 (x1+1)))))
    (none))
   (none))
  (some (x0,()))
def q6x(F:Nat):Nat→List Int→Int→Option (List Int×Unit)
 |0,_,_=>none
 |k+1,x0,x1=>qjl F (q6x F k) x0 x1
def zcy(F:Nat)(a0:List Int)(a1:List Int)(a2:List Int):Option (List Int×(Int×Unit)):=
 (q5b F F a0 a1 a2 (a0++(a1++a2)) 0).bind fun r3708=>match r3708 with
  | .inl r3708=>(some ([],(1,())))
  | .inr r3708=>((q4c F 1 6).bind fun r3710=>
   (q39 F qjh r3710.1 (y7 r3708.1 0 0)).bind fun r3712=>
   (q39 F r3712.1 q64 (y7 r3708.1 1 0)).bind fun r3715=>
   (q39 F r3715.1 q65 (y7 r3708.1 2 0)).bind fun r3718=>
   (q39 F r3718.1 q66 (y7 r3708.2.1 0 0)).bind fun r3721=>
   (q4c F 32 38).bind fun r3724=>
   (q39 F r3721.1 r3724.1 (y7 r3708.2.1 1 0)).bind fun r3726=>
   (q4c F 39 44).bind fun r3729=>
   (q39 F r3726.1 r3729.1 (y7 r3708.2.1 2 0)).bind fun r3731=>
   (q4c F 45 50).bind fun r3734=>
   (q39 F r3731.1 r3734.1 (y7 r3708.2.2.1 0 0)).bind fun r3736=>
   (q4c F 51 57).bind fun r3739=>
   (q39 F r3736.1 r3739.1 (y7 r3708.2.2.1 1 0)).bind fun r3741=>
   (q4c F 58 63).bind fun r3744=>
   (q39 F r3741.1 r3744.1 (y7 r3708.2.2.1 2 0)).bind fun r3746=>
   (q39 F r3746.1 [30] 1).bind fun r3748=>
   (q6x F F r3748.1 0).bind fun r3799=>
   (q22 F r3799.1 19 20).bind fun r3801=>
   (q22 F r3799.1 22 23).bind fun r3802=>
   let v3803:Int:=(y0 .i64 (r3801.1+r3802.1))
   cond (decide (4≤v3803))
    ((q39 F r3799.1 [16,17,18] 7).bind fun r3805=>
    some (r3805.1,(0,())))
    ((q39 F r3799.1 [21] 1).bind fun r3807=>
    some (r3807.1,(0,()))))
end Go.AE.Gn
set_option linter.unusedSimpArgs false
set_option linter.unusedVariables false
namespace Go.AE.Gn
open Go Go.AE
def z2f(F:Nat)(a0:Int):Option (Int×Unit):=
 some ((y0 .i64 (16+(y0 .i64 (3*(y0 .i64 ((y0 .i64 (4*(yv a0 4)))+(y0 .i64 (yw a0 4)))))))),())
def qaz:List Int:=[0,0,0,0,0,0,0,0]
def qn1(F:Nat)(rec:List Int→List Int→List Int→Int→Option (List Int×(List Int×Unit)))(x0:List Int)(x1:List Int)(x2:List Int)(x3:Int):Option (List Int×(List Int×Unit)):=
 let n25:Nat:=((ya x1)/3)
 cond (decide (x3<16))
  (cond ((decide (0≤x3))&&(decide (x3<16)))
   (let v28:Int:=(y7 x2 (y6 x3) 0)
   (z2f F x3).bind fun r29=>
   cond ((decide ((n25+1)≤1099511627776))&&(if(false=true)then(decide (0<1))else true))
    (rec x0 (x1++[r29.1,3,v28]) x2 (y0 .i64 (x3+1)))
    (none))
   (none))
  (some (x0,(x1,())))
def qb0(F:Nat):Nat→List Int→List Int→List Int→Int→Option (List Int×(List Int×Unit))
 |0,_,_,_,_=>none
 |k+1,x0,x1,x2,x3=>qn1 F (qb0 F k) x0 x1 x2 x3
def qn2(F:Nat)(rec:List Int→List Int→Int→Int→Option (List Int×(Bool×Unit)))(x0:List Int)(x1:List Int)(x2:Int)(x3:Int):Option (List Int×(Bool×Unit)):=
 let n67:Nat:=((ya x1)/3)
 cond (decide (x3<x2))
  (cond ((decide (0≤x3))&&(decide (x3<((n67:Nat):Int))))
   (let l71:List Int:=(y8 3 (y9 ((y6 x3)*3) x1))
   let l72:List Int:=(if((0=0)∧(3=3))then l71 else(((y8 0 [0,0,0])++l71)++(y9 3 [0,0,0])))
   (q26 F x0 (y7 l72 0 0) (y7 l72 1 0) (y0 .u64 (y7 l72 2 0))).bind fun r77=>
   cond (r77.2.1 !=0)
    (some (x0,(false,())))
    (rec r77.1 x1 x2 (y0 .i64 (x3+1))))
   (none))
  (some (x0,(true,())))
def qb1(F:Nat):Nat→List Int→List Int→Int→Int→Option (List Int×(Bool×Unit))
 |0,_,_,_,_=>none
 |k+1,x0,x1,x2,x3=>qn2 F (qb1 F k) x0 x1 x2 x3
def qta(F:Nat)(a0:Int)(a1:Int)(a2:Int)(a3:List Int):Option (List Int×(Int×Unit)):=
 (qb0 F F qaz [0,8,a0,8,4,a1,12,4,a2] (if((0=0)∧(16=16))then a3 else(y8 16 (y9 0 a3))) 0).bind fun r34=>
 (qb1 F F r34.1 r34.2.1 ((((ya r34.2.1)/3):Nat):Int) 0).bind fun r81=>
 cond (!r81.2.1)
  (some ([],(1,())))
  (some (r81.1,(0,())))
def q6y(F:Nat)(a0:Int)(a1:Int)(a2:List Int):Option (Int×Unit):=
 (q9h F a2 a0 a1).bind fun r85=>
 some ((y0 .i64 r85.1),())
def q5j:List Int:=[0,0,0,0,0,0,0,0,0,0,0,0,0,0,0,0]
def q7a(F:Nat)(rec:List Int→List Int→List Int→Int→Option (List Int×(List Int×(List Int×Unit))))(x0:List Int)(x1:List Int)(x2:List Int)(x3:Int):Option (List Int×(List Int×(List Int×Unit))):=
 cond (decide (x3<16))
  ((z2f F x3).bind fun r100=>
  (q6y F r100.1 3 x2).bind fun r101=>
  cond ((decide (0≤x3))&&(decide (x3<16)))
   (rec x0 (yx x1 (y6 x3) r101.1) x2 (y0 .i64 (x3+1)))
   (none))
  (some (x0,(x1,(x2,()))))
def q5c(F:Nat):Nat→List Int→List Int→List Int→Int→Option (List Int×(List Int×(List Int×Unit)))
 |0,_,_,_,_=>none
 |k+1,x0,x1,x2,x3=>q7a F (q5c F k) x0 x1 x2 x3
def qtb(F:Nat)(a0:List Int):Option (Int×(Int×(Int×(List Int×(Int×Unit))))):=
 cond ((((ya a0):Nat):Int) !=8)
  (some (0,(0,(0,(q5j,(1,()))))))
  ((q5c F F q5j q5j a0 0).bind fun r106=>
  (q6y F 0 8 r106.2.2.1).bind fun r108=>
  (q6y F 8 4 r106.2.2.1).bind fun r109=>
  (q6y F 12 4 r106.2.2.1).bind fun r110=>
  some (r108.1,(r109.1,(r110.1,(r106.2.1,(0,()))))))
def zcz:List Int:=[-3,-6,-9,-15,2,5,8,14,-3,-7,-10,-13,2,6,9,12,-2,-5,-8,-13,1,4,7,12,-2,-4,-6,-13,1,3,5,12,-3,-6,-8,-12,2,5,7,11,-3,-7,-9,-11,2,6,8,10,-4,-7,-8,-11,3,6,7,10,-3,-5,-8,-11,2,4,7,10,-2,-6,-8,-10,1,5,7,9,-2,-5,-8,-10,1,4,7,9,-2,-4,-8,-10,1,3,7,9,-2,-5,-7,-10,1,4,6,9,-3,-4,-7,-10,2,3,6,9,-1,-2,-3,-10,0,1,2,9,-4,-6,-8,-9,3,5,7,8,-3,-5,-7,-9,2,4,6,8]
def q5v(F:Nat)(a0:Int):Option (List Int×Unit):=
 let v118:Int:=(iand .i64 a0 15)
 cond ((decide (0≤v118))&&(decide (v118<16)))
  (let l121:List Int:=(y8 8 (y9 ((y6 v118)*8) zcz))
  let l122:List Int:=(if((0=0)∧(8=8))then l121 else(((y8 0 qaz)++l121)++(y9 8 qaz)))
  some ((if((0=0)∧(8=8))then l122 else(y8 8 (y9 0 l122))),()))
  (none)
def qn3(F:Nat)(a0:Int)(a1:Int)(a2:Int)(a3:Bool):Option (Int×Unit):=
 cond (!a3)
  ((q4q F (y0 .i64 (a0+(y0 .i64 (a2*a1)))) 255).bind fun r129=>
  some (r129.1,()))
  (cond (a1==0)
   ((q4q F (y0 .i64 ((y0 .i64 ((y0 .i64 (8*a0))+4))+a2)) 2047).bind fun r134=>
   some (r134.1,()))
   ((q4q F (y0 .i64 ((y0 .i64 (8*(y0 .i64 (a0+(y0 .i64 (a2*a1))))))+4)) 2047).bind fun r139=>
   some (r139.1,())))
def q67(F:Nat)(rec:Bool→List Int→Int→Int→List Int→List Int→List Int→Int→Option (List Int×(List Int×Unit)))(x0:Bool)(x1:List Int)(x2:Int)(x3:Int)(x4:List Int)(x5:List Int)(x6:List Int)(x7:Int):Option (List Int×(List Int×Unit)):=
 cond (decide (x7<16))
  (let b167:Bool:=((decide (0≤x7))&&(decide (x7<16)))
  cond b167
   (let v168:Int:=(y7 x6 (y6 x7) 0)
   cond ((decide (0≤v168))&&(decide (v168<8)))
    ((qn3 F x2 x3 (y7 x5 (y6 v168) 0) x0).bind fun r172=>
    cond b167
     (rec x0 x1 x2 x3 (yx x4 (y6 x7) r172.1) x5 x6 (y0 .i64 (x7+1)))
     (none))
    (none))
   (none))
  (some (x1,(x4,())))
def q4k(F:Nat):Nat→Bool→List Int→Int→Int→List Int→List Int→List Int→Int→Option (List Int×(List Int×Unit))
 |0,_,_,_,_,_,_,_,_=>none
 |k+1,x0,x1,x2,x3,x4,x5,x6,x7=>q67 F (q4k F k) x0 x1 x2 x3 x4 x5 x6 x7
def qe1(F:Nat)(a0:List Int)(a1:Bool):Option (List Int×(Int×Unit)):=
 (qtb F a0).bind fun r141=>
 let l142:List Int:=(if((0=0)∧(16=16))then r141.2.2.2.1 else(((y8 0 q5j)++r141.2.2.2.1)++(y9 16 q5j)))
 cond (r141.2.2.2.2.1 !=0)
  (let l144:List Int:=(if((0=0)∧(16=16))then l142 else(y8 16 (y9 0 l142)))
  let l145:List Int:=(if((0=0)∧(16=16))then l144 else(((y8 0 q5j)++l144)++(y9 16 q5j)))
  some ((if((0=0)∧(16=16))then l145 else(y8 16 (y9 0 l145))),(r141.2.2.2.2.1,())))
  ((q5v F r141.2.2.1).bind fun r147=>
  (q4k F F a1 q5j r141.1 r141.2.1 l142 (if((0=0)∧(8=8))then r147.1 else(((y8 0 qaz)++r147.1)++(y9 8 qaz))) (if((0=0)∧(16=16))then l142 else(y8 16 (y9 0 l142))) 0).bind fun r176=>
  let l177:List Int:=(if((0=0)∧(16=16))then r176.2.1 else(y8 16 (y9 0 r176.2.1)))
  let l178:List Int:=(if((0=0)∧(16=16))then l177 else(((y8 0 r176.1)++l177)++(y9 16 r176.1)))
  some ((if((0=0)∧(16=16))then l178 else(y8 16 (y9 0 l178))),(0,())))
end Go.AE.Gn
set_option linter.unusedSimpArgs false
set_option linter.unusedVariables false
namespace Go.AE.Gn
open Go Go.AE
def q7p(F:Nat)(a0:Int):Option ((Int×(Int×(Bool×Unit)))×(Int×Unit)):=
 cond (a0==1)
  (some ((8,(7,(false,()))),(0,())))
  (cond (a0==7)
   (some ((8,(7,(false,()))),(0,())))
   (cond (a0==8)
    (some ((8,(7,(false,()))),(0,())))
    (cond (a0==2)
     (some ((16,(15,(false,()))),(0,())))
     (cond (a0==3)
      (some ((16,(15,(false,()))),(0,())))
      (cond (a0==6)
       (some ((16,(15,(false,()))),(0,())))
       (cond (a0==10)
        (some ((16,(15,(false,()))),(0,())))
        (cond (a0==9)
         (some ((8,(15,(false,()))),(0,())))
         (cond (a0==4)
          (some ((8,(1,((a0==11),()))),(0,())))
          (let b12:Bool:=(a0==11)
          cond b12
           (some ((8,(1,(b12,()))),(0,())))
           (cond (a0==5)
            (some ((16,(3,((a0==12),()))),(0,())))
            (let b15:Bool:=(a0==12)
            cond b15
             (some ((16,(3,(b15,()))),(0,())))
             (some ((0,(0,(false,()))),(5,()))))))))))))))
def q2c:List Int:=[0,0,0,0,0,0,0,0,0,0,0,0,0,0,0,0,0,0,0,0,0,0,0,0,0,0,0,0,0,0,0,0,0,0,0,0,0,0,0,0,0,0,0,0,0,0,0,0,0,0,0,0,0,0,0,0,0,0,0,0,0,0,0,0]
def q6z(F:Nat)(a0:List Int)(a1:Int):Option (List Int×Unit):=
 some (a0,())
def q9q(F:Nat)(rec:Int→List Int→List Int→List Int→Int→Option (List Int×(List Int×Unit)))(x0:Int)(x1:List Int)(x2:List Int)(x3:List Int)(x4:Int):Option (List Int×(List Int×Unit)):=
 cond (decide (x4<16))
  (let b344:Bool:=((decide (0≤x4))&&(decide (x4<16)))
  cond b344
   (cond b344
    (cond ((decide (0≤x0))&&(decide (x0<4)))
     (rec x0 (yx x1 (((y6 x4)*4)+(y6 x0)) (y7 x3 (y6 x4) 0)) x2 x3 (y0 .i64 (x4+1)))
     (none))
    (none))
   (none))
  (some (x1,(x2,())))
def q68(F:Nat):Nat→Int→List Int→List Int→List Int→Int→Option (List Int×(List Int×Unit))
 |0,_,_,_,_,_=>none
 |k+1,x0,x1,x2,x3,x4=>q9q F (q68 F k) x0 x1 x2 x3 x4
def qb2(F:Nat)(a0:List Int)(a1:Int)(a2:List Int)(a3:Int):Option (List Int×Unit):=
 (q68 F F a1 a0 q2c a2 0).bind fun r351=>
 some (r351.1,())
def q8c(F:Nat)(a0:List Int)(a1:Int)(a2:Int)(a3:Bool):Option (List Int×(Int×Unit)):=
 cond a3
  ((qe1 F a0 true).bind fun r598=>
  some (r598.1,(r598.2.1,())))
  ((qdh F a0).bind fun r599=>
  some (r599.1,(r599.2.1,())))
def q0q(F:Nat)(a0:List Int)(a1:Int)(a2:List Int)(a3:Int)(a4:Int)(a5:Bool):Option (List Int×Unit):=
 (q8c F a2 a3 a4 a5).bind fun r603=>
 (qb2 F a0 a1 r603.1 r603.2.1).bind fun r604=>
 some (r604.1,())
def qkq(F:Nat)(rec:Bool→List Int→List Int→Int→Option (List Int×(List Int×Unit)))(x0:Bool)(x1:List Int)(x2:List Int)(x3:Int):Option (List Int×(List Int×Unit)):=
 cond (decide (x3<16))
  (let b618:Bool:=((decide (0≤x3))&&(decide (x3<16)))
  cond b618
   (let n620:Nat:=(3+((y6 x3)*4))
   let l621:List Int:=(yx x2 n620 255)
   cond x0
    (cond b618
     (rec x0 x1 (yx l621 n620 2047) (y0 .i64 (x3+1)))
     (none))
    (rec x0 x1 l621 (y0 .i64 (x3+1))))
   (none))
  (some (x1,(x2,())))
def q9r(F:Nat):Nat→Bool→List Int→List Int→Int→Option (List Int×(List Int×Unit))
 |0,_,_,_,_=>none
 |k+1,x0,x1,x2,x3=>qkq F (q9r F k) x0 x1 x2 x3
def q70(F:Nat)(a0:Bool):Option (List Int×Unit):=
 (q9r F F a0 q2c q2c 0).bind fun r625=>
 some (r625.2.1,())
def q03(F:Nat)(a0:Int)(a1:(Int×(Int×(Bool×Unit))))(a2:List Int)(a3:List Int)(a4:List Int):Option (List Int×(Int×Unit)):=
 cond (a0==2)
  ((qfv F a2).bind fun r238=>
  (q5a F a3 true).bind fun r329=>
  (q6z F r329.1 r329.2.1).bind fun r330=>
  (qb2 F r330.1 3 r238.1 r238.2.1).bind fun r352=>
  some (r352.1,(r238.2.1,())))
  (cond (a0==3)
   ((q5a F a3 true).bind fun r354=>
   (q6z F r354.1 r354.2.1).bind fun r355=>
   (q0q F r355.1 3 a2 a1.1 a1.2.1 a1.2.2.1).bind fun r605=>
   some (r605.1,(0,())))
   (cond (a0==4)
    ((q70 F a1.2.2.1).bind fun r626=>
    (q0q F r626.1 0 a2 a1.1 a1.2.1 a1.2.2.1).bind fun r627=>
    some (r627.1,(0,())))
    (cond (a0==11)
     ((q70 F a1.2.2.1).bind fun r629=>
     (q0q F r629.1 0 a2 a1.1 a1.2.1 a1.2.2.1).bind fun r630=>
     some (r630.1,(0,())))
     (cond (a0==5)
      ((q70 F a1.2.2.1).bind fun r632=>
      (q0q F r632.1 0 a2 a1.1 a1.2.1 a1.2.2.1).bind fun r633=>
      (q0q F r633.1 1 a3 a1.1 a1.2.1 a1.2.2.1).bind fun r634=>
      some (r634.1,(0,())))
      (cond (a0==12)
       ((q70 F a1.2.2.1).bind fun r636=>
       (q0q F r636.1 0 a2 a1.1 a1.2.1 a1.2.2.1).bind fun r637=>
       (q0q F r637.1 1 a3 a1.1 a1.2.1 a1.2.2.1).bind fun r638=>
       some (r638.1,(0,())))
       (cond (a0==6)
        ((q7l F a4).bind fun r2195=>
        some (r2195.1,(r2195.2.1,())))
        (cond (a0==7)
         ((qdl F a4).bind fun r2588=>
         some (r2588.1,(r2588.2.1,())))
         (cond (a0==8)
          ((q79 F a4 (a0==9)).bind fun r3387=>
          some (r3387.1,(r3387.2.1,())))
          (let b3388:Bool:=(a0==9)
          cond b3388
           ((q79 F a4 b3388).bind fun r3389=>
           some (r3389.1,(r3389.2.1,())))
           (cond (a0==10)
            ((qe1 F a2 false).bind fun r3391=>
            (q79 F a3 false).bind fun r3392=>
            (q6z F r3392.1 r3392.2.1).bind fun r3393=>
            (qb2 F r3393.1 3 r3391.1 r3391.2.1).bind fun r3394=>
            some (r3394.1,(r3391.2.1,())))
            ((q5a F a4 false).bind fun r3395=>
            some (r3395.1,(r3395.2.1,())))))))))))))
def q5k(F:Nat)(a0:Int)(a1:List Int):Option (List Int×(Int×Unit)):=
 (q7p F a0).bind fun r20=>
 cond (r20.2.1 !=0)
  (some (q2c,(r20.2.1,())))
  (let v22:Int:=(((ya a1):Nat):Int)
  cond (v22 !=r20.1.1)
   (some (q2c,(1,())))
   (cond (decide (8≤(ya a1)))
    (let v25:Int:=(y0 .i64 (v22-8))
    cond ((decide (0≤v25))&&((decide ((y6 v25)≤(ya a1)))&&true))
     ((q03 F a0 (r20.1.1,(r20.1.2.1,(r20.1.2.2.1,()))) (y8 8 a1) (y8 (psub (ya a1) (y6 v25)) (y9 (y6 v25) a1)) a1).bind fun r3398=>
     some (r3398.1,(r3398.2.1,())))
     (none))
    (none)))
def q8d(F:Nat)(rec:List Int→List Int→Int→Int→List Int→Int→Option (List Int×(List Int×(Int×Unit))))(x0:List Int)(x1:List Int)(x2:Int)(x3:Int)(x4:List Int)(x5:Int):Option (List Int×(List Int×(Int×Unit))):=
 cond (decide (x5<4))
  (let b3503:Bool:=((decide (0≤x5))&&(decide (x5<4)))
  cond b3503
   (let v3504:Int:=(y7 x4 (y6 x5) 0)
   cond ((decide (0≤x2))&&(decide (x2<16)))
    (cond b3503
     (rec (yx x0 (((y6 x2)*4)+(y6 x5)) (y0 .i64 ((y0 .i64 (8*v3504))+(y0 .i64 (yw v3504 32))))) x1 x2 x3 x4 (y0 .i64 (x5+1)))
     (none))
    (none))
   (none))
  (some (x0,(x1,(x3,()))))
def q56(F:Nat):Nat→List Int→List Int→Int→Int→List Int→Int→Option (List Int×(List Int×(Int×Unit)))
 |0,_,_,_,_,_,_=>none
 |k+1,x0,x1,x2,x3,x4,x5=>q8d F (q56 F k) x0 x1 x2 x3 x4 x5
def q8e(F:Nat)(rec:List Int→List Int→Int→Option (List Int×(List Int×Unit)))(x0:List Int)(x1:List Int)(x2:Int):Option (List Int×(List Int×Unit)):=
 cond (decide (x2<16))
  (cond ((decide (0≤x2))&&(decide (x2<16)))
   ((q56 F F x0 x1 x2 x2 (y8 4 (y9 ((y6 x2)*4) x0)) 0).bind fun r3513=>
   rec r3513.1 r3513.2.1 (y0 .i64 (r3513.2.2.1+1)))
   (none))
  (some (x0,(x1,())))
def q57(F:Nat):Nat→List Int→List Int→Int→Option (List Int×(List Int×Unit))
 |0,_,_,_=>none
 |k+1,x0,x1,x2=>q8e F (q57 F k) x0 x1 x2
def qc6(F:Nat)(a0:Int)(a1:List Int):Option (List Int×Unit):=
 (q7p F a0).bind fun r3432=>
 cond (!r3432.1.2.2.1)
  (some (a1,()))
  ((q57 F F a1 q2c 0).bind fun r3515=>
  some (r3515.1,()))
def q9s(F:Nat)(rec:Int→List Int→List Int→Int→Int→Int→Int→Option (Int×(List Int×(List Int×(Int×(Int×Unit))))))(x0:Int)(x1:List Int)(x2:List Int)(x3:Int)(x4:Int)(x5:Int)(x6:Int):Option (Int×(List Int×(List Int×(Int×(Int×Unit))))):=
 cond (decide (x6<4))
  (cond (decide (0≤x6))
   (cond ((iand .i64 (ishr .i64 x0 x6) 1)==1)
    (let b3612:Bool:=((decide (0≤x4))&&(decide (x4<16)))
    cond b3612
     (let b3614:Bool:=((decide (0≤x6))&&(decide (x6<4)))
     cond b3614
      (let n3615:Nat:=(((y6 x4)*4)+(y6 x6))
      cond b3612
       (cond b3614
        ((q6t F (y0 .i64 ((y7 x1 n3615 0)-(y7 x2 n3615 0)))).bind fun r3619=>
        rec x0 x1 x2 (y0 .i64 (x3+r3619.1)) x4 x5 (y0 .i64 (x6+1)))
        (none))
       (none))
      (none))
     (none))
    (rec x0 x1 x2 x3 x4 x5 (y0 .i64 (x6+1))))
   (none))
  (some (x0,(x1,(x2,(x3,(x5,()))))))
def q69(F:Nat):Nat→Int→List Int→List Int→Int→Int→Int→Int→Option (Int×(List Int×(List Int×(Int×(Int×Unit)))))
 |0,_,_,_,_,_,_,_=>none
 |k+1,x0,x1,x2,x3,x4,x5,x6=>q9s F (q69 F k) x0 x1 x2 x3 x4 x5 x6
def q9t(F:Nat)(rec:Int→List Int→List Int→Int→Int→Option (Int×Unit))(x0:Int)(x1:List Int)(x2:List Int)(x3:Int)(x4:Int):Option (Int×Unit):=
 cond (decide (x4<16))
  ((q69 F F x0 x1 x2 x3 x4 x4 0).bind fun r3623=>
  rec r3623.1 r3623.2.1 r3623.2.2.1 r3623.2.2.2.1 (y0 .i64 (r3623.2.2.2.2.1+1)))
  (some (x3,()))
def q6a(F:Nat):Nat→Int→List Int→List Int→Int→Int→Option (Int×Unit)
 |0,_,_,_,_,_=>none
 |k+1,x0,x1,x2,x3,x4=>q9t F (q6a F k) x0 x1 x2 x3 x4
def qjm(F:Nat)(a0:List Int)(a1:List Int)(a2:Int):Option (Int×Unit):=
 (q6a F F a2 a0 a1 0 0).bind fun r3625=>
 some (r3625.1,())
def q92(F:Nat)(a0:Int)(a1:List Int)(a2:List Int):Option (Int×(Int×Unit)):=
 (q5k F a0 a1).bind fun r3429=>
 cond (r3429.2.1 !=0)
  (some (0,(r3429.2.1,())))
  ((q7p F a0).bind fun r3431=>
  (qc6 F a0 a2).bind fun r3516=>
  (qjm F r3516.1 r3429.1 r3431.1.2.1).bind fun r3626=>
  some (r3626.1,(0,())))
end Go.AE.Gn
set_option linter.unusedSimpArgs false
set_option linter.unusedVariables false
namespace Go.AE.Gn
open Go Go.AE
def q23:List Int:=[0,0,0,0,0,0,0,0,0,0,0,0,0,0,0,0,0,0,0,0,0,0,0,0,0,0,0,0,0,0,0,0,0,0,0,0,0,0,0,0,0,0,0,0,0,0,0,0,0,0,0,0,0,0,0,0,0,0,0,0,0,0,0,0]
def qn4(F:Nat)(rec:List Int→List Int→List Int→Int→Option (List Int×(List Int×Unit)))(x0:List Int)(x1:List Int)(x2:List Int)(x3:Int):Option (List Int×(List Int×Unit)):=
 cond (decide (x3<16))
  (cond ((decide (0≤x3))&&(decide (x3<16)))
   (let n9:Nat:=((y6 x3)*4)
   rec x0 x1 (((y8 n9 x2)++x0)++(y9 (n9+4) x2)) (y0 .i64 (x3+1)))
   (none))
  (some (x1,(x2,())))
def qbn(F:Nat):Nat→List Int→List Int→List Int→Int→Option (List Int×(List Int×Unit))
 |0,_,_,_,_=>none
 |k+1,x0,x1,x2,x3=>qn4 F (qbn F k) x0 x1 x2 x3
def qrj(F:Nat)(a0:List Int):Option (List Int×Unit):=
 (qbn F F a0 q23 q23 0).bind fun r12=>
 some (r12.2.1,())
def q6b(F:Nat)(rec:List Int→Int→List Int→Int→Option (Unit⊕(List Int×(Int×Unit))))(x0:List Int)(x1:Int)(x2:List Int)(x3:Int):Option (Unit⊕(List Int×(Int×Unit))):=
 cond (decide (x3<4))
  (cond ((decide (0≤x3))&&(decide (x3<4)))
   (let v75:Int:=(y7 x2 (y6 x3) 0)
   cond (decide (v75<0))
    (some (.inl ()))
    (cond (decide (255<v75))
     (some (.inl ()))
     (rec x0 x1 x2 (y0 .i64 (x3+1)))))
   (none))
  (some (.inr (x0,(x1,()))))
def q2s(F:Nat):Nat→List Int→Int→List Int→Int→Option (Unit⊕(List Int×(Int×Unit)))
 |0,_,_,_,_=>none
 |k+1,x0,x1,x2,x3=>q6b F (q2s F k) x0 x1 x2 x3
def q6c(F:Nat)(rec:List Int→Int→Option (Unit⊕Unit))(x0:List Int)(x1:Int):Option (Unit⊕Unit):=
 cond (decide (x1<16))
  (cond ((decide (0≤x1))&&(decide (x1<16)))
   ((q2s F F x0 x1 (y8 4 (y9 ((y6 x1)*4) x0)) 0).bind fun r79=>match r79 with
    | .inl r79=>(some (.inl ()))
    | .inr r79=>(rec r79.1 (y0 .i64 (r79.2.1+1))))
   (none))
  (some (.inr ()))
def q2t(F:Nat):Nat→List Int→Int→Option (Unit⊕Unit)
 |0,_,_=>none
 |k+1,x0,x1=>q6c F (q2t F k) x0 x1
def q4d(F:Nat)(a0:List Int):Option (Bool×Unit):=
 (q2t F F a0 0).bind fun r81=>match r81 with
  | .inl r81=>(some (false,()))
  | .inr r81=>(some (true,()))
def qn5(F:Nat)(a0:Int)(a1:Int):Option (Int×Unit):=
 (q0f F a0 a1).bind fun r229=>
 some (r229.1,())
def q3p(F:Nat)(rec:Int→List Int→Int→List Int→Int→Int→Option (Int×Unit))(x0:Int)(x1:List Int)(x2:Int)(x3:List Int)(x4:Int)(x5:Int):Option (Int×Unit):=
 cond (decide (x5<x4))
  (cond ((decide (0≤x5))&&(decide (x5<(((ya x3):Nat):Int))))
   (cond ((decide (0≤x0))&&(decide (x0<(((ya x1):Nat):Int))))
    ((q6t F (y0 .i64 ((y7 x3 (y6 x5) 0)-(y7 x1 (y6 x0) 0)))).bind fun r338=>
    rec x0 x1 (y0 .i64 (x2+r338.1)) x3 x4 (y0 .i64 (x5+1)))
    (none))
   (none))
  (some (x2,()))
def q38(F:Nat):Nat→Int→List Int→Int→List Int→Int→Int→Option (Int×Unit)
 |0,_,_,_,_,_,_=>none
 |k+1,x0,x1,x2,x3,x4,x5=>q3p F (q38 F k) x0 x1 x2 x3 x4 x5
def qdm(F:Nat)(a0:Int)(a1:List Int)(a2:List Int):Option (Int×Unit):=
 (q38 F F a0 a2 0 a1 (((ya a1):Nat):Int) 0).bind fun r341=>
 some (r341.1,())
def q0m(F:Nat)(rec:List Int→List Int→Int→Int→Int→Int→Option (Int×Unit))(x0:List Int)(x1:List Int)(x2:Int)(x3:Int)(x4:Int)(x5:Int):Option (Int×Unit):=
 cond (decide (x5<x4))
  ((qdm F x5 x0 x1).bind fun r398=>
  cond (x5==0)
   (rec x0 x1 x5 r398.1 x4 (y0 .i64 (x5+1)))
   (cond (decide (r398.1<x3))
    (rec x0 x1 x5 r398.1 x4 (y0 .i64 (x5+1)))
    (rec x0 x1 x2 x3 x4 (y0 .i64 (x5+1)))))
  (some (x2,()))
def q0k(F:Nat):Nat→List Int→List Int→Int→Int→Int→Int→Option (Int×Unit)
 |0,_,_,_,_,_,_=>none
 |k+1,x0,x1,x2,x3,x4,x5=>q0m F (q0k F k) x0 x1 x2 x3 x4 x5
def q8n(F:Nat)(a0:Int)(a1:List Int)(a2:List Int):Option (Int×Unit):=
 (q0k F F a1 a2 0 0 a0 0).bind fun r404=>
 some (r404.1,())
def q93(F:Nat)(a0:List Int)(a1:List Int):Option (Int×Unit):=
 (q8n F (((ya a0):Nat):Int) a1 a0).bind fun r405=>
 some (r405.1,())
def q4l(F:Nat)(rec:Int→Int→Int→List Int→List Int→Int→Option (Int×(Int×(List Int×Unit))))(x0:Int)(x1:Int)(x2:Int)(x3:List Int)(x4:List Int)(x5:Int):Option (Int×(Int×(List Int×Unit))):=
 cond (decide (x5<16))
  (cond ((decide (0≤x5))&&(decide (x5<16)))
   (let l426:List Int:=(y8 4 (y9 ((y6 x5)*4) x4))
   cond ((decide (0≤x0))&&(decide (x0<4)))
    (let v429:Int:=(y7 l426 (y6 x0) 0)
    cond ((decide (((ya x3)+1)≤1099511627776))&&true)
     (rec x0 x1 x2 (x3++[v429]) x4 (y0 .i64 (x5+1)))
     (none))
    (none))
   (none))
  (some (x1,(x2,(x3,()))))
def q24(F:Nat):Nat→Int→Int→Int→List Int→List Int→Int→Option (Int×(Int×(List Int×Unit)))
 |0,_,_,_,_,_,_=>none
 |k+1,x0,x1,x2,x3,x4,x5=>q4l F (q24 F k) x0 x1 x2 x3 x4 x5
def q1s(F:Nat)(rec:Int→List Int→List Int→Int→Int→Option (List Int×(List Int×Unit)))(x0:Int)(x1:List Int)(x2:List Int)(x3:Int)(x4:Int):Option (List Int×(List Int×Unit)):=
 cond (decide (x4<x3))
  ((qn5 F x4 x0).bind fun r451=>
  cond ((decide (((ya x2)+1)≤1099511627776))&&true)
   (rec x0 x1 (x2++[r451.1]) x3 (y0 .i64 (x4+1)))
   (none))
  (some (x1,(x2,())))
def q1f(F:Nat):Nat→Int→List Int→List Int→Int→Int→Option (List Int×(List Int×Unit))
 |0,_,_,_,_,_=>none
 |k+1,x0,x1,x2,x3,x4=>q1s F (q1f F k) x0 x1 x2 x3 x4
def q7b(F:Nat)(a0:List Int)(a1:Int)(a2:Int)(a3:Int):Option (Int×Unit):=
 (q24 F F a1 a2 a3 [] a0 0).bind fun r434=>
 (q1f F F r434.2.1 r434.2.2.1 [] r434.1 0).bind fun r456=>
 (q93 F r456.2.1 r456.1).bind fun r459=>
 some (r459.1,())
def q7q(F:Nat)(a0:List Int)(a1:Int)(a2:Int):Option (Int×Unit):=
 cond (decide (0≤a2))
  ((q7b F a0 a1 (ishl .i64 1 a2) a2).bind fun r460=>
  some (r460.1,()))
  (none)
def q8f:List Int:=[0,0,0,0,0,0,0,0,0,0,0,0,0,0,0,0]
def q8g(F:Nat)(rec:Int→List Int→List Int→Int→Option (List Int×(List Int×Unit)))(x0:Int)(x1:List Int)(x2:List Int)(x3:Int):Option (List Int×(List Int×Unit)):=
 cond (decide (x3<16))
  (cond ((decide (0≤x3))&&(decide (x3<16)))
   (rec x0 x1 (yx x2 (y6 x3) x0) (y0 .i64 (x3+1)))
   (none))
  (some (x1,(x2,())))
def q3y(F:Nat):Nat→Int→List Int→List Int→Int→Option (List Int×(List Int×Unit))
 |0,_,_,_,_=>none
 |k+1,x0,x1,x2,x3=>q8g F (q3y F k) x0 x1 x2 x3
def q4m(F:Nat)(a0:Int):Option (List Int×Unit):=
 (q3y F F a0 q8f q8f 0).bind fun r474=>
 some (r474.2.1,())
def qpc(F:Nat)(a0:List Int):Option (List Int×Unit):=
 (q7q F a0 0 5).bind fun r774=>
 (q7q F a0 1 6).bind fun r776=>
 (q7q F a0 2 5).bind fun r779=>
 let v780:Int:=(ior .i64 (ior .i64 (ishl .i64 r774.1 11) (ishl .i64 r776.1 5)) r779.1)
 (q4m F 0).bind fun r781=>
 (qhk F v780 v780 r781.1).bind fun r782=>
 some (r782.1,())
def qjn(F:Nat)(a0:Int):Option (Int×Unit):=
 some (a0,())
def q41(F:Nat)(rec:Int→Int→List Int→List Int→Int→Option (Int×(List Int×Unit)))(x0:Int)(x1:Int)(x2:List Int)(x3:List Int)(x4:Int):Option (Int×(List Int×Unit)):=
 cond (decide (x4<16))
  (cond ((decide (0≤x4))&&(decide (x4<16)))
   (let l862:List Int:=(y8 4 (y9 ((y6 x4)*4) x3))
   cond ((decide (0≤x0))&&(decide (x0<4)))
    (let v865:Int:=(y7 l862 (y6 x0) 0)
    cond ((decide (((ya x2)+1)≤1099511627776))&&true)
     (rec x0 x1 (x2++[v865]) x3 (y0 .i64 (x4+1)))
     (none))
    (none))
   (none))
  (some (x1,(x2,())))
def q1t(F:Nat):Nat→Int→Int→List Int→List Int→Int→Option (Int×(List Int×Unit))
 |0,_,_,_,_,_=>none
 |k+1,x0,x1,x2,x3,x4=>q41 F (q1t F k) x0 x1 x2 x3 x4
def q1i(F:Nat)(rec:List Int→List Int→Int→Int→Option (List Int×(List Int×Unit)))(x0:List Int)(x1:List Int)(x2:Int)(x3:Int):Option (List Int×(List Int×Unit)):=
 cond (decide (x3<x2))
  ((qjn F x3).bind fun r887=>
  cond ((decide (((ya x1)+1)≤1099511627776))&&true)
   (rec x0 (x1++[r887.1]) x2 (y0 .i64 (x3+1)))
   (none))
  (some (x0,(x1,())))
def q15(F:Nat):Nat→List Int→List Int→Int→Int→Option (List Int×(List Int×Unit))
 |0,_,_,_,_=>none
 |k+1,x0,x1,x2,x3=>q1i F (q15 F k) x0 x1 x2 x3
def q9u(F:Nat)(a0:List Int)(a1:Int)(a2:Int):Option (Int×Unit):=
 (q1t F F a1 a2 [] a0 0).bind fun r870=>
 (q15 F F r870.2.1 [] r870.1 0).bind fun r892=>
 (q93 F r892.2.1 r892.1).bind fun r895=>
 some (r895.1,())
def qhn(F:Nat)(a0:List Int)(a1:Int):Option (Int×Unit):=
 (q9u F a0 a1 256).bind fun r896=>
 some (r896.1,())
def qeo(F:Nat)(a0:List Int)(a1:Int):Option (List Int×Unit):=
 (qhn F a0 a1).bind fun r921=>
 (q4m F 0).bind fun r922=>
 (qj8 F r921.1 r921.1 r922.1).bind fun r923=>
 some (r923.1,())
def qgu(F:Nat)(a0:Int)(a1:Int):Option (Int×Unit):=
 some ((y0 .i64 ((y0 .i64 (2*a0))+a1)),())
def q3e(F:Nat)(rec:Int→Int→Int→List Int→List Int→Int→Option (Int×(Int×(List Int×Unit))))(x0:Int)(x1:Int)(x2:Int)(x3:List Int)(x4:List Int)(x5:Int):Option (Int×(Int×(List Int×Unit))):=
 cond (decide (x5<16))
  (cond ((decide (0≤x5))&&(decide (x5<16)))
   (let l1020:List Int:=(y8 4 (y9 ((y6 x5)*4) x4))
   cond ((decide (0≤x0))&&(decide (x0<4)))
    (let v1023:Int:=(y7 l1020 (y6 x0) 0)
    cond ((decide (((ya x3)+1)≤1099511627776))&&true)
     (rec x0 x1 x2 (x3++[v1023]) x4 (y0 .i64 (x5+1)))
     (none))
    (none))
   (none))
  (some (x1,(x2,(x3,()))))
def q1j(F:Nat):Nat→Int→Int→Int→List Int→List Int→Int→Option (Int×(Int×(List Int×Unit)))
 |0,_,_,_,_,_,_=>none
 |k+1,x0,x1,x2,x3,x4,x5=>q3e F (q1j F k) x0 x1 x2 x3 x4 x5
def q1a(F:Nat)(rec:Int→List Int→List Int→Int→Int→Option (List Int×(List Int×Unit)))(x0:Int)(x1:List Int)(x2:List Int)(x3:Int)(x4:Int):Option (List Int×(List Int×Unit)):=
 cond (decide (x4<x3))
  ((qgu F x4 x0).bind fun r1045=>
  cond ((decide (((ya x2)+1)≤1099511627776))&&true)
   (rec x0 x1 (x2++[r1045.1]) x3 (y0 .i64 (x4+1)))
   (none))
  (some (x1,(x2,())))
def q0x(F:Nat):Nat→Int→List Int→List Int→Int→Int→Option (List Int×(List Int×Unit))
 |0,_,_,_,_,_=>none
 |k+1,x0,x1,x2,x3,x4=>q1a F (q0x F k) x0 x1 x2 x3 x4
def q5l(F:Nat)(a0:List Int)(a1:Int)(a2:Int)(a3:Int):Option (Int×Unit):=
 (q1j F F a1 a2 a3 [] a0 0).bind fun r1028=>
 (q0x F F r1028.2.1 r1028.2.2.1 [] r1028.1 0).bind fun r1050=>
 (q93 F r1050.2.1 r1050.1).bind fun r1053=>
 some (r1053.1,())
def q9v(F:Nat)(rec:List Int→Int→List Int→Int→Option (Int×(List Int×Unit)))(x0:List Int)(x1:Int)(x2:List Int)(x3:Int):Option (Int×(List Int×Unit)):=
 cond (decide (x3<4))
  ((q5l F x0 x3 128 x1).bind fun r1243=>
  cond ((decide (0≤x3))&&(decide (x3<4)))
   (rec x0 x1 (yx x2 (y6 x3) r1243.1) (y0 .i64 (x3+1)))
   (none))
  (some (x1,(x2,())))
def q4t(F:Nat):Nat→List Int→Int→List Int→Int→Option (Int×(List Int×Unit))
 |0,_,_,_,_=>none
 |k+1,x0,x1,x2,x3=>q9v F (q4t F k) x0 x1 x2 x3
def qep(F:Nat)(a0:Int)(a1:List Int):Option (List Int×Unit):=
 (q4t F F a1 a0 [0,0,0,0] 0).bind fun r1248=>
 (q4m F 0).bind fun r1250=>
 (qay F (r1248.2.1++r1248.2.1) [r1248.1,r1248.1] r1250.1).bind fun r1251=>
 some (r1251.1,())
def qeq(F:Nat)(a0:Int)(a1:List Int)(a2:List Int)(a3:List Int):Option (List Int×Unit):=
 (q92 F a0 a2 a1).bind fun r4705=>
 (q92 F a0 a3 a1).bind fun r4706=>
 cond (decide (r4706.1<r4705.1))
  (some (a3,()))
  (some (a2,()))
def z98(F:Nat)(a0:List Int):Option (List Int×Unit):=
 (qep F 0 a0).bind fun r4710=>
 (qep F 1 a0).bind fun r4712=>
 (qeq F 6 a0 r4710.1 r4712.1).bind fun r4714=>
 some (r4714.1,())
def qgv(F:Nat)(a0:Int):Option (Int×Unit):=
 (q0f F a0 5).bind fun r4750=>
 (q4q F (y0 .i64 (r4750.1+2)) 255).bind fun r4752=>
 some (r4752.1,())
def q3f(F:Nat)(rec:Int→Int→List Int→List Int→Int→Option (Int×(List Int×Unit)))(x0:Int)(x1:Int)(x2:List Int)(x3:List Int)(x4:Int):Option (Int×(List Int×Unit)):=
 cond (decide (x4<16))
  (cond ((decide (0≤x4))&&(decide (x4<16)))
   (let l4794:List Int:=(y8 4 (y9 ((y6 x4)*4) x3))
   cond ((decide (0≤x0))&&(decide (x0<4)))
    (let v4797:Int:=(y7 l4794 (y6 x0) 0)
    cond ((decide (((ya x2)+1)≤1099511627776))&&true)
     (rec x0 x1 (x2++[v4797]) x3 (y0 .i64 (x4+1)))
     (none))
    (none))
   (none))
  (some (x1,(x2,())))
def q1k(F:Nat):Nat→Int→Int→List Int→List Int→Int→Option (Int×(List Int×Unit))
 |0,_,_,_,_,_=>none
 |k+1,x0,x1,x2,x3,x4=>q3f F (q1k F k) x0 x1 x2 x3 x4
def q1b(F:Nat)(rec:List Int→List Int→Int→Int→Option (List Int×(List Int×Unit)))(x0:List Int)(x1:List Int)(x2:Int)(x3:Int):Option (List Int×(List Int×Unit)):=
 cond (decide (x3<x2))
  ((qgv F x3).bind fun r4819=>
  cond ((decide (((ya x1)+1)≤1099511627776))&&true)
   (rec x0 (x1++[r4819.1]) x2 (y0 .i64 (x3+1)))
   (none))
  (some (x0,(x1,())))
def q0y(F:Nat):Nat→List Int→List Int→Int→Int→Option (List Int×(List Int×Unit))
 |0,_,_,_,_=>none
 |k+1,x0,x1,x2,x3=>q1b F (q0y F k) x0 x1 x2 x3
def q5m(F:Nat)(a0:List Int)(a1:Int)(a2:Int):Option (Int×Unit):=
 (q1k F F a1 a2 [] a0 0).bind fun r4802=>
 (q0y F F r4802.2.1 [] r4802.1 0).bind fun r4824=>
 (q93 F r4824.2.1 r4824.1).bind fun r4827=>
 some (r4827.1,())
def q9w(F:Nat)(rec:List Int→List Int→List Int→List Int→List Int→Int→Option (List Int×(List Int×(List Int×(List Int×Unit)))))(x0:List Int)(x1:List Int)(x2:List Int)(x3:List Int)(x4:List Int)(x5:Int):Option (List Int×(List Int×(List Int×(List Int×Unit)))):=
 cond (decide (x5<3))
  ((q5m F x0 x5 32).bind fun r5359=>
  cond ((decide (0≤x5))&&(decide (x5<3)))
   (rec x0 (yx x1 (y6 x5) r5359.1) x2 x3 x4 (y0 .i64 (x5+1)))
   (none))
  (some (x1,(x2,(x3,(x4,())))))
def q4u(F:Nat):Nat→List Int→List Int→List Int→List Int→List Int→Int→Option (List Int×(List Int×(List Int×(List Int×Unit))))
 |0,_,_,_,_,_,_=>none
 |k+1,x0,x1,x2,x3,x4,x5=>q9w F (q4u F k) x0 x1 x2 x3 x4 x5
def qjo(F:Nat)(a0:List Int):Option (List Int×Unit):=
 (q4u F F a0 [0,0,0] [0,0,0] [0,0] q8f 0).bind fun r5364=>
 (qeg F (true,(false,(r5364.1,(r5364.2.1,(r5364.2.2.1,(r5364.2.2.2.1,()))))))).bind fun r5365=>
 some (r5365.1,())
def qb3(F:Nat)(a0:List Int):Option (List Int×Unit):=
 (q7q F a0 0 6).bind fun r5758=>
 (q7q F a0 1 7).bind fun r5759=>
 (q7q F a0 2 6).bind fun r5760=>
 (qhm F [r5758.1,r5759.1,r5760.1] [r5758.1,r5759.1,r5760.1] [r5758.1,r5759.1,r5760.1]).bind fun r5761=>
 some (r5761.1,())
def qn6:List Int:=[0,0,0,0,255,255,0,0]
def qjp(F:Nat)(a0:Int):Option (Int×Unit):=
 (qn3 F a0 1 0 true).bind fun r5962=>
 some (r5962.1,())
def q42(F:Nat)(rec:Int→Int→List Int→List Int→Int→Option (Int×(List Int×Unit)))(x0:Int)(x1:Int)(x2:List Int)(x3:List Int)(x4:Int):Option (Int×(List Int×Unit)):=
 cond (decide (x4<16))
  (cond ((decide (0≤x4))&&(decide (x4<16)))
   (let l6004:List Int:=(y8 4 (y9 ((y6 x4)*4) x3))
   cond ((decide (0≤x0))&&(decide (x0<4)))
    (let v6007:Int:=(y7 l6004 (y6 x0) 0)
    cond ((decide (((ya x2)+1)≤1099511627776))&&true)
     (rec x0 x1 (x2++[v6007]) x3 (y0 .i64 (x4+1)))
     (none))
    (none))
   (none))
  (some (x1,(x2,())))
def q1u(F:Nat):Nat→Int→Int→List Int→List Int→Int→Option (Int×(List Int×Unit))
 |0,_,_,_,_,_=>none
 |k+1,x0,x1,x2,x3,x4=>q42 F (q1u F k) x0 x1 x2 x3 x4
def q1l(F:Nat)(rec:List Int→List Int→Int→Int→Option (List Int×(List Int×Unit)))(x0:List Int)(x1:List Int)(x2:Int)(x3:Int):Option (List Int×(List Int×Unit)):=
 cond (decide (x3<x2))
  ((qjp F x3).bind fun r6029=>
  cond ((decide (((ya x1)+1)≤1099511627776))&&true)
   (rec x0 (x1++[r6029.1]) x2 (y0 .i64 (x3+1)))
   (none))
  (some (x0,(x1,())))
def q16(F:Nat):Nat→List Int→List Int→Int→Int→Option (List Int×(List Int×Unit))
 |0,_,_,_,_=>none
 |k+1,x0,x1,x2,x3=>q1l F (q16 F k) x0 x1 x2 x3
def q6o(F:Nat)(a0:List Int)(a1:Int)(a2:Int):Option (Int×Unit):=
 (q1u F F a1 a2 [] a0 0).bind fun r6012=>
 (q16 F F r6012.2.1 [] r6012.1 0).bind fun r6034=>
 (q93 F r6034.2.1 r6034.1).bind fun r6037=>
 some (r6037.1,())
def qe2(F:Nat)(a0:List Int)(a1:Int):Option (List Int×Unit):=
 (q6o F a0 a1 256).bind fun r6042=>
 (q4m F 4).bind fun r6043=>
 (qta F r6042.1 1 13 r6043.1).bind fun r6044=>
 some (r6044.1,())
def q0g(F:Nat)(a0:Int)(a1:List Int):Option (List Int×Unit):=
 let b6058:Bool:=(a0==2)
 cond b6058
  ((q7q F a1 3 4).bind fun r6059=>
  (q4m F r6059.1).bind fun r6060=>
  (q7z F r6060.1).bind fun r6061=>
  let n6062:Nat:=(ya r6061.1)
  (qpc F a1).bind fun r6063=>
  let n6064:Nat:=(ya r6063.1)
  cond ((decide ((n6062+n6064)≤1099511627776))&&true)
   (some ((r6061.1++r6063.1),()))
   (none))
  (let b6068:Bool:=(a0==3)
  cond b6068
   ((qeo F a1 3).bind fun r6069=>
   let n6070:Nat:=(ya r6069.1)
   (qpc F a1).bind fun r6071=>
   let n6072:Nat:=(ya r6071.1)
   cond ((decide ((n6070+n6072)≤1099511627776))&&true)
    (some ((r6069.1++r6071.1),()))
    (none))
   (let b6076:Bool:=(a0==4)
   cond b6076
    ((qeo F a1 0).bind fun r6077=>
    some (r6077.1,()))
    (let b6079:Bool:=(a0==5)
    cond b6079
     ((qeo F a1 0).bind fun r6080=>
     let n6081:Nat:=(ya r6080.1)
     (qeo F a1 1).bind fun r6082=>
     let n6083:Nat:=(ya r6082.1)
     cond ((decide ((n6081+n6083)≤1099511627776))&&true)
      (some ((r6080.1++r6082.1),()))
      (none))
     (let b6087:Bool:=(a0==6)
     cond b6087
      ((z98 F a1).bind fun r6088=>
      some (r6088.1,()))
      (let b6090:Bool:=(a0==7)
      cond b6090
       ((qjo F a1).bind fun r6091=>
       some (r6091.1,()))
       (let b6093:Bool:=(a0==8)
       cond b6093
        ((qb3 F a1).bind fun r6094=>
        some (r6094.1,()))
        (let b6096:Bool:=(a0==9)
        cond b6096
         ((qb3 F a1).bind fun r6097=>
         (qeq F a0 a1 r6097.1 qn6).bind fun r6099=>
         some (r6099.1,()))
         (let b6101:Bool:=(a0==10)
         cond b6101
          ((qhn F a1 3).bind fun r6102=>
          (q4m F 0).bind fun r6103=>
          (qta F r6102.1 0 0 r6103.1).bind fun r6104=>
          let n6105:Nat:=(ya r6104.1)
          (qb3 F a1).bind fun r6106=>
          let n6107:Nat:=(ya r6106.1)
          cond ((decide ((n6105+n6107)≤1099511627776))&&true)
           (some ((r6104.1++r6106.1),()))
           (none))
          (let b6111:Bool:=(a0==11)
          cond b6111
           ((qe2 F a1 0).bind fun r6112=>
           some (r6112.1,()))
           (let b6114:Bool:=(a0==12)
           cond b6114
            ((qe2 F a1 0).bind fun r6115=>
            let n6116:Nat:=(ya r6115.1)
            (qe2 F a1 1).bind fun r6117=>
            let n6118:Nat:=(ya r6117.1)
            cond ((decide ((n6116+n6118)≤1099511627776))&&true)
             (some ((r6115.1++r6117.1),()))
             (none))
            ((qpc F a1).bind fun r6122=>
            some (r6122.1,()))))))))))))
def q36(F:Nat)(a0:Int)(a1:List Int):Option (List Int×(Int×Unit)):=
 (q7p F a0).bind fun r6126=>
 cond (r6126.2.1 !=0)
  (some ([],(r6126.2.1,())))
  ((q4d F a1).bind fun r6128=>
  cond (!r6128.1)
   (some ([],(1,())))
   ((qc6 F a0 a1).bind fun r6130=>
   (q0g F a0 r6130.1).bind fun r6131=>
   some (r6131.1,(0,()))))
def q8o(F:Nat)(a0:Int)(a1:List Int):Option (List Int×(Int×Unit)):=
 (q36 F a0 a1).bind fun r6135=>
 cond (r6135.2.1 !=0)
  (some ([0,0,0,0],(r6135.2.1,())))
  ((q5k F a0 r6135.1).bind fun r6138=>
  some ((y8 4 r6138.1),(r6138.2.1,())))
def qbo(F:Nat)(rec:Int→List Int→List Int→Int→Option (Int×(List Int×Unit)))(x0:Int)(x1:List Int)(x2:List Int)(x3:Int):Option (Int×(List Int×Unit)):=
 cond (decide (x3<16))
  (cond ((decide (0≤x3))&&(decide (x3<16)))
   (let n6166:Nat:=((y6 x3)*4)
   rec x0 x1 (((y8 n6166 x2)++x1)++(y9 (n6166+4) x2)) (y0 .i64 (x3+1)))
   (none))
  (some (x0,(x2,())))
def q3g(F:Nat):Nat→Int→List Int→List Int→Int→Option (Int×(List Int×Unit))
 |0,_,_,_,_=>none
 |k+1,x0,x1,x2,x3=>qbo F (q3g F k) x0 x1 x2 x3
def q6d(F:Nat)(a0:Int)(a1:List Int):Option (Bool×Unit):=
 (q3g F F a0 a1 q23 0).bind fun r6169=>
 (q36 F r6169.1 r6169.2.1).bind fun r6170=>
 cond (r6170.2.1 !=0)
  (some (false,()))
  ((q92 F r6169.1 r6170.1 r6169.2.1).bind fun r6173=>
  some ((r6173.1==0),()))
def qjq(F:Nat):Option (Bool×Unit):=
 (qrj F [7,1,2,3]).bind fun r13=>
 (q36 F 4 r13.1).bind fun r6133=>
 let n6134:Nat:=(ya r6133.1)
 (q8o F 7 q23).bind fun r6140=>
 (q36 F 0 q23).bind fun r6141=>
 cond (r6133.2.1==0)
  (cond (((n6134:Nat):Int)==8)
   (cond (decide (0<((n6134:Nat):Int)))
    (cond ((y7 r6133.1 0 0)==7)
     (cond (decide (1<((n6134:Nat):Int)))
      (cond ((y7 r6133.1 1 0)==7)
       (cond (decide (2<((n6134:Nat):Int)))
        (cond ((y7 r6133.1 2 0)==0)
         (cond (r6140.2.1==0)
          (cond (r6140.1==[2,2,2,255])
           (cond (r6141.2.1==5)
            ((q6d F 6 [1,3,255,7]).bind fun r6175=>
            cond r6175.1
             ((q6d F 6 [1,2,255,7]).bind fun r6176=>
             some ((!r6176.1),()))
             (some (false,())))
            (some (false,())))
           (some (false,())))
          (some (false,())))
         (some (false,())))
        (none))
       (some (false,())))
      (none))
     (some (false,())))
    (none))
   (some (false,())))
  (some (false,()))
def q5n(F:Nat)(rec:Int→Bool→List Int→Int→Option ((Bool×Unit)⊕(Int×(Bool×(List Int×Unit)))))(x0:Int)(x1:Bool)(x2:List Int)(x3:Int):Option ((Bool×Unit)⊕(Int×(Bool×(List Int×Unit)))):=
 cond (decide (x3<4))
  (cond ((decide (0≤x3))&&(decide (x3<4)))
   (let v6229:Int:=(y7 x2 (y6 x3) 0)
   cond (decide (255<v6229))
    (some (.inl (x1,())))
    (rec x0 x1 x2 (y0 .i64 (x3+1))))
   (none))
  (some (.inr (x0,(x1,(x2,())))))
def q1g(F:Nat):Nat→Int→Bool→List Int→Int→Option ((Bool×Unit)⊕(Int×(Bool×(List Int×Unit))))
 |0,_,_,_,_=>none
 |k+1,x0,x1,x2,x3=>q5n F (q1g F k) x0 x1 x2 x3
def qer(F:Nat)(a0:Int)(a1:List Int):Option (Bool×Unit):=
 (qjq F).bind fun r6215=>
 (q8o F a0 a1).bind fun r6216=>
 cond (r6216.2.1 !=0)
  (some (r6215.1,()))
  ((q1g F F a0 r6215.1 r6216.1 0).bind fun r6232=>match r6232 with
   | .inl r6232=>(some (r6232.1,()))
   | .inr r6232=>((q7p F r6232.1).bind fun r6233=>
    cond r6232.2.1
     (cond r6233.1.2.2.1
      (some (true,()))
      ((q6d F r6232.1 r6232.2.2.1).bind fun r6234=>
      some (r6234.1,())))
     (some (false,()))))
end Go.AE.Gn

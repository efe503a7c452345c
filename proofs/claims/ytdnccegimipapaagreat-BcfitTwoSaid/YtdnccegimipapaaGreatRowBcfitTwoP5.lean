/- A part of the proof, put together of my texts: C11defs, A12defs, E13defs, E13zdefs, E14defs, Y15defs. -/
import Derived.Test.YtdnccegimipapaaGreatRowBcfitTwoP4
set_option linter.unusedSimpArgs false
set_option linter.unusedVariables false
open Go.IntKind renaming wrap → y0
open List renaming length → ya, getD → y7, take → y8, drop → y9, set → yw
open Int renaming toNat → y6, tmod → yu, tdiv → yv
namespace Go.AE.Gn
open Go Go.AE
def zot:LI:=[0,0,0,0,0,0,0,0]
def q5n(F:Nat)(a0:Int)(a1:Int)(a2:Int)(a3:LI):Option (LI×Unit):=
 (q8c F a3 a1 (y0 .i64 ((y0 .i64 (a2-a1))+1)) (y0 .u64 a0)).bind fun r187=>
 some (r187.1,())
def qmf:LI:=[7,9,10,11,12,13,14]
def qnm(F:Nat)(rec:Int→LI→LI→Int→Int→Option (LI×Unit))(x0:Int)(x1:LI)(x2:LI)(x3:Int)(x4:Int):Option (LI×Unit):=
 cond (decide (x4<x3))
  (cond ((decide (0≤x4))&&(decide (x4<(((ya x1):Nat):Int))))
   (let v302:Int:=(y0 .i64 ((y0 .i64 ((((ya x1):Nat):Int)-1))-x4))
   cond (decide (0≤v302))
    ((q8c F x2 (y7 x1 (y6 x4) 0) 1 (y0 .u64 (iand .i64 (ishr .i64 x0 v302) 1))).bind fun r307=>
    rec x0 x1 r307.1 x3 (y0 .i64 (x4+1)))
     none)
    none)
  (some (x2,()))
def qak(F:Nat):Nat→Int→LI→LI→Int→Int→Option (LI×Unit)
 |0,_,_,_,_,_=>none
 |k+1,x0,x1,x2,x3,x4=>qnm F (qak F k) x0 x1 x2 x3 x4
def q5o(F:Nat)(a0:Int)(a1:LI)(a2:LI):Option (LI×Unit):=
 (qak F F a0 a1 a2 (((ya a1):Nat):Int) 0).bind fun r310=>
 some (r310.1,())
def qmg:LI:=[15,19,20,22,23,24]
def qmh:LI:=[25,26,27,28,29,31]
def qmi:LI:=[0,0,0,0,0,0,0,0,0,0,0,0,0,0,0,0]
def q08(F:Nat)(a0:LI)(a1:Bool)(a2:Bool)(a3:LI)(a4:LI)(a5:LI)(a6:LI)(a7:Bool)(a8:Int)(a9:Int):Option (Int×Unit):=
 (qv7 F a0 a8 (y0 .i64 ((y0 .i64 (a9-a8))+1))).bind fun r577=>
 some ((y0 .i64 r577.1),())
def z0c(F:Nat)(rec:LI→LI→LI→LI→Int→Option (Unit⊕(LI×LI×LI×Unit)))(x0:LI)(x1:LI)(x2:LI)(x3:LI)(x4:Int):Option (Unit⊕(LI×LI×LI×Unit)):=
 cond (decide (x4<3))
  (cond ((decide (0≤x4))&&(decide (x4<3)))
   (let l611:LI:=(y8 3 (y9 ((y6 x4)*3) x3))
   cond ((zsb .i64 (ior .i64 (y7 l611 0 0) (y7 l611 2 0)) 63) !=0)
    (some (.inl ()))
    (cond ((zsb .i64 (y7 l611 1 0) 127) !=0)
     (some (.inl ()))
     (rec x0 x1 x2 x3 (y0 .i64 (x4+1)))))
    none)
  (some (.inr (x0,x1,x2,())))
def qi7(F:Nat):Nat→LI→LI→LI→LI→Int→Option (Unit⊕(LI×LI×LI×Unit))
 |0,_,_,_,_,_=>none
 |k+1,x0,x1,x2,x3,x4=>z0c F (qi7 F k) x0 x1 x2 x3 x4
def z0d(F:Nat)(rec:LI→Bool→Bool→LI→LI→LI→LI→Int→Option (LI×Unit))(x0:LI)(x1:Bool)(x2:Bool)(x3:LI)(x4:LI)(x5:LI)(x6:LI)(x7:Int):Option (LI×Unit):=
 cond (decide (x7<2))
  (let b682:Bool:=((decide (0≤x7))&&(decide (x7<3)))
  cond b682
   (cond b682
    (let v686:Int:=(y0 .i64 ((y7 x3 (y6 x7) 0)+(y7 x4 (y6 x7) 0)))
    cond (decide (v686<0))
     ((q5o F 1 [(y0 .i64 (8*x7))] x0).bind fun r689=>
     rec r689.1 x1 x2 x3 x4 x5 x6 (y0 .i64 (x7+1)))
     (cond (decide (31<v686))
      ((q5o F 1 [(y0 .i64 (8*x7))] x0).bind fun r694=>
      rec r694.1 x1 x2 x3 x4 x5 x6 (y0 .i64 (x7+1)))
      (rec x0 x1 x2 x3 x4 x5 x6 (y0 .i64 (x7+1)))))
     none)
    none)
  (some (x0,()))
def qi8(F:Nat):Nat→LI→Bool→Bool→LI→LI→LI→LI→Int→Option (LI×Unit)
 |0,_,_,_,_,_,_,_,_=>none
 |k+1,x0,x1,x2,x3,x4,x5,x6,x7=>z0d F (qi8 F k) x0 x1 x2 x3 x4 x5 x6 x7
def znm(F:Nat)(a0:LI)(a1:LI)(a2:LI):Option (LI×Int×Unit):=
 (qi7 F F a0 a1 a2 (a0++(a1++a2)) 0).bind fun r621=>match r621 with
  | .inl r621=>(some ([],1,()))
  | .inr r621=>((q5n F (y7 r621.1 0 0) 1 6 zot).bind fun r623=>
   (q5o F (y7 r621.1 1 0) qmf r623.1).bind fun r626=>
   (q5o F (y7 r621.1 2 0) qmg r626.1).bind fun r629=>
   (q5o F (y7 r621.2.1 0 0) qmh r629.1).bind fun r632=>
   (q5n F (y7 r621.2.1 1 0) 32 38 r632.1).bind fun r635=>
   (q5n F (y7 r621.2.1 2 0) 39 44 r635.1).bind fun r638=>
   (q5n F (y7 r621.2.2.1 0 0) 45 50 r638.1).bind fun r641=>
   (q5n F (y7 r621.2.2.1 1 0) 51 57 r641.1).bind fun r644=>
   (q5n F (y7 r621.2.2.1 2 0) 58 63 r644.1).bind fun r647=>
   (q5o F 1 [30] r647.1).bind fun r649=>
   (q8f F r649.1).bind fun r651=>
   (qi8 F F r649.1 r651.1.1 r651.1.2.1 r651.1.2.2.1 r651.1.2.2.2.1 r651.1.2.2.2.2.1 r651.1.2.2.2.2.2.1 0).bind fun r698=>
   (q08 F r698.1 false false [0,0,0] [0,0,0] [0,0] qmi false 19 20).bind fun r700=>
   (q08 F r698.1 false false [0,0,0] [0,0,0] [0,0] qmi false 22 23).bind fun r701=>
   let v702:Int:=(y0 .i64 (r700.1+r701.1))
   cond (decide (4≤v702))
    ((q5n F 7 16 18 r698.1).bind fun r704=>
    some (r704.1,0,()))
    ((q5o F 1 [21] r698.1).bind fun r706=>
    some (r706.1,0,())))
def q0h:LI:=[0,0,0,0,0,0,0,0,0,0,0,0,0,0,0,0,0,0,0,0,0,0,0,0,0,0,0,0,0,0,0,0,0,0,0,0,0,0,0,0,0,0,0,0,0,0,0,0,0,0,0,0,0,0,0,0,0,0,0,0,0,0,0,0]
def qho(F:Nat)(rec:LI→Bool→Bool→LI→LI→LI→LI→Bool→Int→LI→Int→Int→Option (Int×Unit))(x0:LI)(x1:Bool)(x2:Bool)(x3:LI)(x4:LI)(x5:LI)(x6:LI)(x7:Bool)(x8:Int)(x9:LI)(x10:Int)(x11:Int):Option (Int×Unit):=
 cond (decide (x11<x10))
  (cond ((decide (0≤x11))&&(decide (x11<(((ya x9):Nat):Int))))
   ((qv7 F x0 (y7 x9 (y6 x11) 0) 1).bind fun r782=>
   rec x0 x1 x2 x3 x4 x5 x6 x7 (ior .i64 (ishl .i64 x8 1) (y0 .i64 r782.1)) x9 x10 (y0 .i64 (x11+1)))
    none)
  (some (x8,()))
def q6z(F:Nat):Nat→LI→Bool→Bool→LI→LI→LI→LI→Bool→Int→LI→Int→Int→Option (Int×Unit)
 |0,_,_,_,_,_,_,_,_,_,_,_,_=>none
 |k+1,x0,x1,x2,x3,x4,x5,x6,x7,x8,x9,x10,x11=>qho F (q6z F k) x0 x1 x2 x3 x4 x5 x6 x7 x8 x9 x10 x11
def q1c(F:Nat)(a0:LI)(a1:Bool)(a2:Bool)(a3:LI)(a4:LI)(a5:LI)(a6:LI)(a7:Bool)(a8:LI):Option (Int×Unit):=
 (q6z F F a0 a1 a2 a3 a4 a5 a6 a7 0 a8 (((ya a8):Nat):Int) 0).bind fun r787=>
 some (r787.1,())
def zfk(F:Nat)(a0:LI)(a1:Bool):Option (LI×Bool×Bool×LI×LI×LI×LI×Bool×Unit):=
 cond (!a1)
  (cond a1
   ((q8c F a0 30 1 1).bind fun r796=>
   (q8f F r796.1).bind fun r798=>
   some (a0,r798.1.1,r798.1.2.1,r798.1.2.2.1,r798.1.2.2.2.1,r798.1.2.2.2.2.1,r798.1.2.2.2.2.2.1,true,()))
   ((q8f F a0).bind fun r799=>
   some (a0,r799.1.1,r799.1.2.1,r799.1.2.2.1,r799.1.2.2.2.1,r799.1.2.2.2.2.1,r799.1.2.2.2.2.2.1,true,())))
  ((q1c F a0 false false [0,0,0] [0,0,0] [0,0] qmi false [30]).bind fun r800=>
  let b801:Bool:=(r800.1==1)
  cond a1
   ((q8c F a0 30 1 1).bind fun r802=>
   (q8f F r802.1).bind fun r804=>
   some (a0,r804.1.1,r804.1.2.1,r804.1.2.2.1,r804.1.2.2.2.1,r804.1.2.2.2.2.1,r804.1.2.2.2.2.2.1,b801,()))
   ((q8f F a0).bind fun r805=>
   some (a0,r805.1.1,r805.1.2.1,r805.1.2.2.1,r805.1.2.2.2.1,r805.1.2.2.2.2.1,r805.1.2.2.2.2.2.1,b801,())))
def qnn(F:Nat)(a0:LI)(a1:Bool)(a2:Bool)(a3:LI)(a4:LI)(a5:LI)(a6:LI)(a7:Bool):Option (Int×Unit):=
 (ql1 F (a1,a2,a3,a4,a5,a6,())).bind fun r946=>
 cond (r946.2.1==3)
  (some (0,()))
  (some ((y0 .i64 (1+r946.2.1)),()))
def qca(F:Nat)(rec:LI→Bool→Bool→LI→LI→LI→LI→Bool→LI→LI→LI→LI→Int→Option (LI×LI×Unit))(x0:LI)(x1:Bool)(x2:Bool)(x3:LI)(x4:LI)(x5:LI)(x6:LI)(x7:Bool)(x8:LI)(x9:LI)(x10:LI)(x11:LI)(x12:Int):Option (LI×LI×Unit):=
 cond (decide (x12<16))
  (let b1178:Bool:=((decide (0≤x12))&&(decide (x12<16)))
  cond b1178
   (cond (!x7)
    (cond ((y7 x11 (y6 x12) 0)==0)
     ((z2d F x2 x12).bind fun r1182=>
     cond ((decide (0≤r1182.1))&&(decide (r1182.1<2)))
      (cond b1178
       (let n1186:Nat:=((y6 x12)*4)
       rec x0 x1 x2 x3 x4 x5 x6 x7 x8 (((y8 n1186 x9)++(y8 4 (y9 ((y6 r1182.1)*4) x10)))++(y9 (n1186+4) x9)) x10 x11 (y0 .i64 (x12+1)))
        none)
       none)
     (rec x0 x1 x2 x3 x4 x5 x6 x7 x8 x9 x10 x11 (y0 .i64 (x12+1))))
    (rec x0 x1 x2 x3 x4 x5 x6 x7 x8 x9 x10 x11 (y0 .i64 (x12+1))))
    none)
  (some (x8,x9,()))
def q4y(F:Nat):Nat→LI→Bool→Bool→LI→LI→LI→LI→Bool→LI→LI→LI→LI→Int→Option (LI×LI×Unit)
 |0,_,_,_,_,_,_,_,_,_,_,_,_,_=>none
 |k+1,x0,x1,x2,x3,x4,x5,x6,x7,x8,x9,x10,x11,x12=>qca F (q4y F k) x0 x1 x2 x3 x4 x5 x6 x7 x8 x9 x10 x11 x12
def qjf(F:Nat)(a0:LI)(a1:Bool)(a2:Bool)(a3:LI)(a4:LI)(a5:LI)(a6:LI)(a7:Bool):Option (LI×Unit):=
 (qvg F (a1,a2,a3,a4,a5,a6,())).bind fun r1150=>
 (ql1 F (a1,a2,a3,a4,a5,a6,())).bind fun r1151=>
 (q4y F F a0 a1 a2 a3 a4 a5 a6 a7 q0h r1150.1 r1151.1 a6 0).bind fun r1191=>
 some (r1191.2.1,())
def qvn(F:Nat)(rec:LI→LI→LI→LI→Int→Option (LI×LI×Unit))(x0:LI)(x1:LI)(x2:LI)(x3:LI)(x4:Int):Option (LI×LI×Unit):=
 cond (decide (x4<3))
  (let b1245:Bool:=((decide (0≤x4))&&(decide (x4<3)))
  cond b1245
   (cond b1245
    ((q0l F (y7 x3 (y6 x4) 0) (y7 x0 (y6 x4) 0)).bind fun r1249=>
    cond ((decide (0≤x4))&&(decide (x4<4)))
     (rec x0 x1 (yw x2 (y6 x4) r1249.1) x3 (y0 .i64 (x4+1)))
      none)
     none)
    none)
  (some (x1,x2,()))
def qf9(F:Nat):Nat→LI→LI→LI→LI→Int→Option (LI×LI×Unit)
 |0,_,_,_,_,_=>none
 |k+1,x0,x1,x2,x3,x4=>qvn F (qf9 F k) x0 x1 x2 x3 x4
def z2f(F:Nat)(a0:LI)(a1:LI):Option (LI×Unit):=
 (qf9 F F a1 [0,0,0,0] [0,0,0,255] a0 0).bind fun r1253=>
 some (r1253.2.1,())
def q8g(F:Nat)(a0:LI):Option (LI×Unit):=
 (z2f F a0 [4,4,4]).bind fun r1254=>
 some (r1254.1,())
def q9r:LI:=[3,6,11,16,23,32,41,64]
def qcb(F:Nat)(a0:Int):Option (Int×Unit):=
 let v1262:Int:=(iand .i64 a0 7)
 cond ((decide (0≤v1262))&&(decide (v1262<8)))
  (some ((y7 q9r (y6 v1262) 0),()))
   none
def qru(F:Nat)(rec:Int→LI→LI→Int→Option (LI×LI×Unit))(x0:Int)(x1:LI)(x2:LI)(x3:Int):Option (LI×LI×Unit):=
 cond (decide (x3<3))
  (let b1279:Bool:=((decide (0≤x3))&&(decide (x3<4)))
  cond b1279
   ((q20 F (y0 .i64 ((y7 x1 (y6 x3) 0)+x0)) 255).bind fun r1283=>
   cond b1279
    (rec x0 (yw x1 (y6 x3) r1283.1) x2 (y0 .i64 (x3+1)))
     none)
    none)
  (some (x1,x2,()))
def qcc(F:Nat):Nat→Int→LI→LI→Int→Option (LI×LI×Unit)
 |0,_,_,_,_=>none
 |k+1,x0,x1,x2,x3=>qru F (qcc F k) x0 x1 x2 x3
def q3d(F:Nat)(a0:LI)(a1:Int):Option (LI×Unit):=
 (qcc F F a1 a0 [0,0,0,0] 0).bind fun r1286=>
 some (r1286.1,())
def qg5(F:Nat)(rec:LI→LI→LI→LI→Int→Option (LI×LI×Unit))(x0:LI)(x1:LI)(x2:LI)(x3:LI)(x4:Int):Option (LI×LI×Unit):=
 cond (decide (x4<16))
  (let b1332:Bool:=((decide (0≤x4))&&(decide (x4<16)))
  cond b1332
   (let v1333:Int:=(y7 x3 (y6 x4) 0)
   cond ((decide (0≤v1333))&&(decide (v1333<4)))
    (cond b1332
     (let n1337:Nat:=((y6 x4)*4)
     rec x0 x1 (((y8 n1337 x2)++(y8 4 (y9 ((y6 v1333)*4) x0)))++(y9 (n1337+4) x2)) x3 (y0 .i64 (x4+1)))
      none)
     none)
    none)
  (some (x1,x2,()))
def q6c(F:Nat):Nat→LI→LI→LI→LI→Int→Option (LI×LI×Unit)
 |0,_,_,_,_,_=>none
 |k+1,x0,x1,x2,x3,x4=>qg5 F (q6c F k) x0 x1 x2 x3 x4
def q9c(F:Nat)(a0:LI)(a1:Bool)(a2:Bool)(a3:LI)(a4:LI)(a5:LI)(a6:LI)(a7:Bool)(a8:LI):Option (LI×Unit):=
 (q6c F F a8 q0h q0h a6 0).bind fun r1340=>
 some (r1340.2.1,())
def qrv(F:Nat)(a0:LI)(a1:Bool)(a2:Bool)(a3:LI)(a4:LI)(a5:LI)(a6:LI)(a7:Bool):Option (LI×Unit):=
 (q1c F a0 a1 a2 a3 a4 a5 a6 a7 [3,4,6,7]).bind fun r1343=>
 (q08 F a0 a1 a2 a3 a4 a5 a6 a7 8 11).bind fun r1344=>
 (q08 F a0 a1 a2 a3 a4 a5 a6 a7 12 15).bind fun r1345=>
 (q8g F [r1343.1,r1344.1,r1345.1]).bind fun r1346=>
 (q08 F a0 a1 a2 a3 a4 a5 a6 a7 16 19).bind fun r1347=>
 (q08 F a0 a1 a2 a3 a4 a5 a6 a7 20 23).bind fun r1348=>
 (q08 F a0 a1 a2 a3 a4 a5 a6 a7 24 27).bind fun r1349=>
 (q8g F [r1347.1,r1348.1,r1349.1]).bind fun r1350=>
 (q1c F a0 a1 a2 a3 a4 a5 a6 a7 [28,29,31]).bind fun r1351=>
 (qcb F r1351.1).bind fun r1352=>
 (q3d F r1350.1 r1352.1).bind fun r1353=>
 (q3d F r1350.1 (y0 .i64 (0-r1352.1))).bind fun r1355=>
 (q9c F a0 a1 a2 a3 a4 a5 a6 a7 (r1346.1++(r1353.1++(r1350.1++r1355.1)))).bind fun r1357=>
 some (r1357.1,())
def qvo:LI:=[1,2,3,4,5,6,7,11,12,14,15,16]
def qrw(F:Nat)(a0:LI)(a1:Bool)(a2:Bool)(a3:LI)(a4:LI)(a5:LI)(a6:LI)(a7:Bool):Option (LI×Unit):=
 (q08 F a0 a1 a2 a3 a4 a5 a6 a7 1 4).bind fun r1409=>
 (q1c F a0 a1 a2 a3 a4 a5 a6 a7 [5,6,7,11]).bind fun r1410=>
 (q1c F a0 a1 a2 a3 a4 a5 a6 a7 [12,14,15,16]).bind fun r1411=>
 (q08 F a0 a1 a2 a3 a4 a5 a6 a7 17 20).bind fun r1412=>
 (q08 F a0 a1 a2 a3 a4 a5 a6 a7 21 24).bind fun r1413=>
 (q08 F a0 a1 a2 a3 a4 a5 a6 a7 25 28).bind fun r1414=>
 (q1c F a0 a1 a2 a3 a4 a5 a6 a7 [29,31]).bind fun r1415=>
 let v1416:Int:=(ishl .i64 r1415.1 1)
 (q1c F a0 a1 a2 a3 a4 a5 a6 a7 qvo).bind fun r1417=>
 (q08 F a0 a1 a2 a3 a4 a5 a6 a7 17 28).bind fun r1418=>
 cond (decide (r1418.1≤r1417.1))
  ((q8g F [r1409.1,r1410.1,r1411.1]).bind fun r1421=>
  (q8g F [r1412.1,r1413.1,r1414.1]).bind fun r1422=>
  (qcb F (y0 .i64 (v1416+1))).bind fun r1423=>
  (q3d F r1421.1 r1423.1).bind fun r1424=>
  let v1425:Int:=(y0 .i64 (0-r1423.1))
  (q3d F r1421.1 v1425).bind fun r1426=>
  (q3d F r1422.1 r1423.1).bind fun r1427=>
  (q3d F r1422.1 v1425).bind fun r1428=>
  (q9c F a0 a1 a2 a3 a4 a5 a6 a7 (r1424.1++(r1426.1++(r1427.1++r1428.1)))).bind fun r1430=>
  some (r1430.1,()))
  ((q8g F [r1409.1,r1410.1,r1411.1]).bind fun r1431=>
  (q8g F [r1412.1,r1413.1,r1414.1]).bind fun r1432=>
  (qcb F v1416).bind fun r1433=>
  (q3d F r1431.1 r1433.1).bind fun r1434=>
  let v1435:Int:=(y0 .i64 (0-r1433.1))
  (q3d F r1431.1 v1435).bind fun r1436=>
  (q3d F r1432.1 r1433.1).bind fun r1437=>
  (q3d F r1432.1 v1435).bind fun r1438=>
  (q9c F a0 a1 a2 a3 a4 a5 a6 a7 (r1434.1++(r1436.1++(r1437.1++r1438.1)))).bind fun r1440=>
  some (r1440.1,()))
def ql5(F:Nat)(a0:LI):Option (LI×Unit):=
 (z2f F a0 [6,7,6]).bind fun r1467=>
 some (r1467.1,())
def qrx(F:Nat)(rec:LI→LI→LI→LI→LI→Int→Int→Int→Option (LI×LI×LI×LI×LI×Int×Unit))(x0:LI)(x1:LI)(x2:LI)(x3:LI)(x4:LI)(x5:Int)(x6:Int)(x7:Int):Option (LI×LI×LI×LI×LI×Int×Unit):=
 cond (decide (x7<3))
  (let b1606:Bool:=((decide (0≤x7))&&(decide (x7<4)))
  cond b1606
   (cond b1606
    (let v1609:Int:=(y7 x0 (y6 x7) 0)
    cond b1606
     (cond b1606
      (cond b1606
       ((q20 F (ishr .i64 (y0 .i64 ((y0 .i64 ((y0 .i64 ((y0 .i64 ((yu x5 4)*(y0 .i64 ((y7 x1 (y6 x7) 0)-v1609))))+(y0 .i64 ((y0 .i64 (yv x5 4))*(y0 .i64 ((y7 x2 (y6 x7) 0)-v1609))))))+(y0 .i64 (4*v1609))))+2)) 2) 255).bind fun r1621=>
       cond ((decide (0≤x5))&&(decide (x5<16)))
        (cond b1606
         (rec x0 x1 x2 x3 (yw x4 (((y6 x5)*4)+(y6 x7)) r1621.1) x5 x6 (y0 .i64 (x7+1)))
          none)
         none)
        none)
       none)
      none)
     none)
    none)
  (some (x0,x1,x2,x3,x4,x6,()))
def qcd(F:Nat):Nat→LI→LI→LI→LI→LI→Int→Int→Int→Option (LI×LI×LI×LI×LI×Int×Unit)
 |0,_,_,_,_,_,_,_,_=>none
 |k+1,x0,x1,x2,x3,x4,x5,x6,x7=>qrx F (qcd F k) x0 x1 x2 x3 x4 x5 x6 x7
def qry(F:Nat)(rec:LI→LI→LI→LI→LI→Int→Option (LI×LI×Unit))(x0:LI)(x1:LI)(x2:LI)(x3:LI)(x4:LI)(x5:Int):Option (LI×LI×Unit):=
 cond (decide (x5<16))
  (cond ((decide (0≤x5))&&(decide (x5<16)))
   ((qcd F F x0 x1 x2 x3 (yw x4 (3+((y6 x5)*4)) 255) x5 x5 0).bind fun r1627=>
   rec r1627.1 r1627.2.1 r1627.2.2.1 r1627.2.2.2.1 r1627.2.2.2.2.1 (y0 .i64 (r1627.2.2.2.2.2.1+1)))
    none)
  (some (x3,x4,()))
def qce(F:Nat):Nat→LI→LI→LI→LI→LI→Int→Option (LI×LI×Unit)
 |0,_,_,_,_,_,_=>none
 |k+1,x0,x1,x2,x3,x4,x5=>qry F (qce F k) x0 x1 x2 x3 x4 x5
def z9p(F:Nat)(a0:LI)(a1:LI)(a2:LI):Option (LI×Unit):=
 (qce F F a0 a1 a2 q0h q0h 0).bind fun r1629=>
 some (r1629.2.1,())
def qjg(F:Nat)(a0:LI)(a1:Bool)(a2:Bool)(a3:LI)(a4:LI)(a5:LI)(a6:LI)(a7:Bool):Option (LI×Unit):=
 (q08 F a0 a1 a2 a3 a4 a5 a6 a7 1 6).bind fun r1632=>
 (q1c F a0 a1 a2 a3 a4 a5 a6 a7 qmf).bind fun r1633=>
 (q1c F a0 a1 a2 a3 a4 a5 a6 a7 qmg).bind fun r1634=>
 (q1c F a0 a1 a2 a3 a4 a5 a6 a7 qmh).bind fun r1635=>
 (q08 F a0 a1 a2 a3 a4 a5 a6 a7 32 38).bind fun r1636=>
 (q08 F a0 a1 a2 a3 a4 a5 a6 a7 39 44).bind fun r1637=>
 (q08 F a0 a1 a2 a3 a4 a5 a6 a7 45 50).bind fun r1638=>
 (q08 F a0 a1 a2 a3 a4 a5 a6 a7 51 57).bind fun r1639=>
 (q08 F a0 a1 a2 a3 a4 a5 a6 a7 58 63).bind fun r1640=>
 (ql5 F [r1632.1,r1633.1,r1634.1]).bind fun r1641=>
 (ql5 F [r1635.1,r1636.1,r1637.1]).bind fun r1642=>
 (ql5 F [r1638.1,r1639.1,r1640.1]).bind fun r1643=>
 (z9p F r1641.1 r1642.1 r1643.1).bind fun r1644=>
 some (r1644.1,())
def qno(F:Nat)(rec:LI→LI→Bool→Bool→LI→LI→LI→LI→Bool→Int→LI→LI→Int→Option (LI×LI×Unit))(x0:LI)(x1:LI)(x2:Bool)(x3:Bool)(x4:LI)(x5:LI)(x6:LI)(x7:LI)(x8:Bool)(x9:Int)(x10:LI)(x11:LI)(x12:Int):Option (LI×LI×Unit):=
 cond (decide (x12<16))
  (let b1214:Bool:=((decide (0≤x12))&&(decide (x12<16)))
  cond b1214
   (cond (!x8)
    (cond (x9 !=3)
     (cond ((y7 x11 (y6 x12) 0)==2)
      (cond b1214
       (let n1219:Nat:=((y6 x12)*4)
       rec x0 x1 x2 x3 x4 x5 x6 x7 x8 x9 (((y8 n1219 x10)++[0,0,0,0])++(y9 (n1219+4) x10)) x11 (y0 .i64 (x12+1)))
        none)
      (rec x0 x1 x2 x3 x4 x5 x6 x7 x8 x9 x10 x11 (y0 .i64 (x12+1))))
     (rec x0 x1 x2 x3 x4 x5 x6 x7 x8 x9 x10 x11 (y0 .i64 (x12+1))))
    (rec x0 x1 x2 x3 x4 x5 x6 x7 x8 x9 x10 x11 (y0 .i64 (x12+1))))
    none)
  (some (x0,x10,()))
def q3n(F:Nat):Nat→LI→LI→Bool→Bool→LI→LI→LI→LI→Bool→Int→LI→LI→Int→Option (LI×LI×Unit)
 |0,_,_,_,_,_,_,_,_,_,_,_,_,_=>none
 |k+1,x0,x1,x2,x3,x4,x5,x6,x7,x8,x9,x10,x11,x12=>qno F (q3n F k) x0 x1 x2 x3 x4 x5 x6 x7 x8 x9 x10 x11 x12
def qi9(F:Nat)(a0:LI)(a1:Bool):Option (LI×Int×Unit):=
 cond ((((ya a0):Nat):Int) !=8)
  (some (q0h,1,()))
  ((zfk F a0 a1).bind fun r806=>
  (qnn F r806.1 r806.2.1 r806.2.2.1 r806.2.2.2.1 r806.2.2.2.2.1 r806.2.2.2.2.2.1 r806.2.2.2.2.2.2.1 r806.2.2.2.2.2.2.2.1).bind fun r949=>
  cond (r949.1==0)
   ((qjf F r806.1 r806.2.1 r806.2.2.1 r806.2.2.2.1 r806.2.2.2.2.1 r806.2.2.2.2.2.1 r806.2.2.2.2.2.2.1 r806.2.2.2.2.2.2.2.1).bind fun r1192=>
   (q3n F F q0h r806.1 r806.2.1 r806.2.2.1 r806.2.2.2.1 r806.2.2.2.2.1 r806.2.2.2.2.2.1 r806.2.2.2.2.2.2.1 r806.2.2.2.2.2.2.2.1 r949.1 r1192.1 r806.2.2.2.2.2.2.1 0).bind fun r1225=>
   some (r1225.2.1,0,()))
   (cond (r949.1==1)
    ((qrv F r806.1 r806.2.1 r806.2.2.1 r806.2.2.2.1 r806.2.2.2.2.1 r806.2.2.2.2.2.1 r806.2.2.2.2.2.2.1 r806.2.2.2.2.2.2.2.1).bind fun r1358=>
    (q3n F F q0h r806.1 r806.2.1 r806.2.2.1 r806.2.2.2.1 r806.2.2.2.2.1 r806.2.2.2.2.2.1 r806.2.2.2.2.2.2.1 r806.2.2.2.2.2.2.2.1 r949.1 r1358.1 r806.2.2.2.2.2.2.1 0).bind fun r1372=>
    some (r1372.2.1,0,()))
    (cond (r949.1==2)
     ((qrw F r806.1 r806.2.1 r806.2.2.1 r806.2.2.2.1 r806.2.2.2.2.1 r806.2.2.2.2.2.1 r806.2.2.2.2.2.2.1 r806.2.2.2.2.2.2.2.1).bind fun r1441=>
     (q3n F F q0h r806.1 r806.2.1 r806.2.2.1 r806.2.2.2.1 r806.2.2.2.2.1 r806.2.2.2.2.2.1 r806.2.2.2.2.2.2.1 r806.2.2.2.2.2.2.2.1 r949.1 r1441.1 r806.2.2.2.2.2.2.1 0).bind fun r1455=>
     some (r1455.2.1,0,()))
     (cond (r949.1==3)
      ((qjg F r806.1 r806.2.1 r806.2.2.1 r806.2.2.2.1 r806.2.2.2.2.1 r806.2.2.2.2.2.1 r806.2.2.2.2.2.2.1 r806.2.2.2.2.2.2.2.1).bind fun r1645=>
      (q3n F F q0h r806.1 r806.2.1 r806.2.2.1 r806.2.2.2.1 r806.2.2.2.2.1 r806.2.2.2.2.2.1 r806.2.2.2.2.2.2.1 r806.2.2.2.2.2.2.2.1 r949.1 r1645.1 r806.2.2.2.2.2.2.1 0).bind fun r1659=>
      some (r1659.2.1,0,()))
       none))))
def qqd(F:Nat)(a0:LI)(a1:Bool):Option ((Bool×Bool×LI×LI×LI×LI×Unit)×Unit):=
 cond a1
  ((ztk F a0 30 1 true 1).bind fun r2404=>
  (qqa F r2404.1).bind fun r2524=>
  some ((r2524.1.1,r2524.1.2.1,r2524.1.2.2.1,r2524.1.2.2.2.1,r2524.1.2.2.2.2.1,r2524.1.2.2.2.2.2.1,()),()))
  ((qqa F a0).bind fun r2525=>
  some ((r2525.1.1,r2525.1.2.1,r2525.1.2.2.1,r2525.1.2.2.2.1,r2525.1.2.2.2.2.1,r2525.1.2.2.2.2.2.1,()),()))
def znn(F:Nat)(a0:LI)(a1:Bool):Option (Int×Unit):=
 cond ((((ya a0):Nat):Int) !=8)
  (some (0,()))
  ((qqd F a0 a1).bind fun r2526=>
  (qje F (r2526.1.1,r2526.1.2.1,r2526.1.2.2.1,r2526.1.2.2.2.1,r2526.1.2.2.2.2.1,r2526.1.2.2.2.2.2.1,())).bind fun r2670=>
  cond (r2670.2.1==3)
   (some (0,()))
   (some ((y0 .i64 (r2670.2.1+1)),())))
def q3u(F:Nat)(a0:LI)(a1:Int)(a2:Int):Option (Int×Unit):=
 (q2w F a0 a1 (y0 .i64 ((y0 .i64 (a2-a1))+1))).bind fun r2679=>
 some (r2679.1,())
def z0e(F:Nat)(rec:LI→LI→Int→Int→Option (Int×Unit))(x0:LI)(x1:LI)(x2:Int)(x3:Int):Option (Int×Unit):=
 let v2704:Int:=(((ya x1):Nat):Int)
 cond (decide (x3<v2704))
  (cond ((decide (0≤x3))&&(decide (x3<(((ya x1):Nat):Int))))
   ((q2w F x0 (y7 x1 (y6 x3) 0) 1).bind fun r2710=>
   rec x0 x1 (y0 .i64 ((y0 .i64 (2*x2))+r2710.1)) (y0 .i64 (x3+1)))
    none)
  (some (x2,()))
def qia(F:Nat):Nat→LI→LI→Int→Int→Option (Int×Unit)
 |0,_,_,_,_=>none
 |k+1,x0,x1,x2,x3=>z0e F (qia F k) x0 x1 x2 x3
def q9d(F:Nat)(a0:LI)(a1:LI):Option (Int×Unit):=
 (qia F F a0 a1 0 0).bind fun r2713=>
 some (r2713.1,())
def qz0(F:Nat)(a0:LI):Option (LI×Unit):=
 (q0e F (y7 a0 0 0) 6).bind fun r2723=>
 (q0e F (y7 a0 1 0) 7).bind fun r2725=>
 (q0e F (y7 a0 2 0) 6).bind fun r2727=>
 some ([r2723.1,r2725.1,r2727.1,255],())
def qvp(F:Nat)(rec:LI→LI→LI→LI→LI→Int→Int→Option (LI×LI×LI×LI×LI×Int×Unit))(x0:LI)(x1:LI)(x2:LI)(x3:LI)(x4:LI)(x5:Int)(x6:Int):Option (LI×LI×LI×LI×LI×Int×Unit):=
 cond (decide (x6<3))
  (let b2879:Bool:=((decide (0≤x6))&&(decide (x6<4)))
  cond b2879
   (cond b2879
    (let v2882:Int:=(y7 x0 (y6 x6) 0)
    cond b2879
     (cond b2879
      (cond b2879
       ((qfw F 0 (y0 .i64 ((y0 .i64 ((y0 .i64 ((y0 .i64 ((yu x5 4)*(y0 .i64 ((y7 x1 (y6 x6) 0)-v2882))))+(y0 .i64 ((y0 .i64 (yv x5 4))*(y0 .i64 ((y7 x2 (y6 x6) 0)-v2882))))))+(y0 .i64 (4*v2882))))+2)) 1 4 0).bind fun r2893=>
       (qec F r2893.1 255).bind fun r2894=>
       cond ((decide (0≤x5))&&(decide (x5<16)))
        (cond b2879
         (rec x0 x1 x2 x3 (yw x4 (((y6 x5)*4)+(y6 x6)) r2894.1) x5 (y0 .i64 (x6+1)))
          none)
         none)
        none)
       none)
      none)
     none)
    none)
  (some (x0,x1,x2,x3,x4,x5,()))
def qfa(F:Nat):Nat→LI→LI→LI→LI→LI→Int→Int→Option (LI×LI×LI×LI×LI×Int×Unit)
 |0,_,_,_,_,_,_,_=>none
 |k+1,x0,x1,x2,x3,x4,x5,x6=>qvp F (qfa F k) x0 x1 x2 x3 x4 x5 x6
def qvq(F:Nat)(rec:LI→LI→LI→LI→LI→Int→Option (LI×LI×Unit))(x0:LI)(x1:LI)(x2:LI)(x3:LI)(x4:LI)(x5:Int):Option (LI×LI×Unit):=
 cond (decide (x5<16))
  (cond ((decide (0≤x5))&&(decide (x5<16)))
   ((qfa F F x0 x1 x2 x3 (yw x4 (3+((y6 x5)*4)) 255) x5 0).bind fun r2900=>
   rec r2900.1 r2900.2.1 r2900.2.2.1 r2900.2.2.2.1 r2900.2.2.2.2.1 (y0 .i64 (r2900.2.2.2.2.2.1+1)))
    none)
  (some (x3,x4,()))
def qfb(F:Nat):Nat→LI→LI→LI→LI→LI→Int→Option (LI×LI×Unit)
 |0,_,_,_,_,_,_=>none
 |k+1,x0,x1,x2,x3,x4,x5=>qvq F (qfb F k) x0 x1 x2 x3 x4 x5
def zfl(F:Nat)(a0:LI)(a1:LI)(a2:LI):Option (LI×Unit):=
 (qfb F F a0 a1 a2 q0h q0h 0).bind fun r2902=>
 some (r2902.2.1,())
def z9q(F:Nat)(a0:LI):Option (LI×Unit):=
 (q3u F a0 1 6).bind fun r2680=>
 (q9d F a0 qmf).bind fun r2714=>
 (q9d F a0 qmg).bind fun r2715=>
 (q9d F a0 qmh).bind fun r2716=>
 (q3u F a0 32 38).bind fun r2717=>
 (q3u F a0 39 44).bind fun r2718=>
 (q3u F a0 45 50).bind fun r2719=>
 (q3u F a0 51 57).bind fun r2720=>
 (q3u F a0 58 63).bind fun r2721=>
 (qz0 F [r2680.1,r2714.1,r2715.1]).bind fun r2728=>
 (qz0 F [r2716.1,r2717.1,r2718.1]).bind fun r2729=>
 (qz0 F [r2719.1,r2720.1,r2721.1]).bind fun r2730=>
 (zfl F r2728.1 r2729.1 r2730.1).bind fun r2903=>
 some (r2903.1,())
def q3e(F:Nat)(a0:LI):Option (LI×Unit):=
 (q0e F (y7 a0 0 0) 4).bind fun r2999=>
 (q0e F (y7 a0 1 0) 4).bind fun r3001=>
 (q0e F (y7 a0 2 0) 4).bind fun r3003=>
 some ([r2999.1,r3001.1,r3003.1,255],())
def qfc(F:Nat)(a0:Int):Option (Int×Unit):=
 let v3010:Int:=(yu a0 8)
 cond (decide (v3010<0))
  (let v3012:Int:=(y0 .i64 (v3010+8))
  cond ((decide (0≤v3012))&&(decide (v3012<8)))
   (some ((y7 q9r (y6 v3012) 0),()))
    none)
  (cond ((decide (0≤v3010))&&(decide (v3010<8)))
   (some ((y7 q9r (y6 v3010) 0),()))
    none)
def qvr(F:Nat)(a0:LI):Option (Int×Unit):=
 some ((y0 .i64 ((y0 .i64 ((y0 .i64 (256*(y7 a0 0 0)))+(y0 .i64 (16*(y7 a0 1 0)))))+(y7 a0 2 0))),())
def z6u(F:Nat)(a0:LI)(a1:Int):Option (LI×Unit):=
 cond (a1==1)
  ((q9d F a0 [3,4,6,7]).bind fun r2995=>
  (q3u F a0 8 11).bind fun r2996=>
  (q3u F a0 12 15).bind fun r2997=>
  (q3e F [r2995.1,r2996.1,r2997.1]).bind fun r3004=>
  (q3u F a0 16 19).bind fun r3005=>
  (q3u F a0 20 23).bind fun r3006=>
  (q3u F a0 24 27).bind fun r3007=>
  (q3e F [r3005.1,r3006.1,r3007.1]).bind fun r3008=>
  (q9d F a0 [28,29,31]).bind fun r3009=>
  (qfc F r3009.1).bind fun r3019=>
  (q7b F r3008.1 r3019.1).bind fun r3020=>
  (q7b F r3008.1 (y0 .i64 (0-r3019.1))).bind fun r3022=>
  some ((r3004.1++(r3020.1++(r3008.1++r3022.1))),()))
  ((q3u F a0 1 4).bind fun r3024=>
  (q9d F a0 [5,6,7,11]).bind fun r3025=>
  (q9d F a0 [12,14,15,16]).bind fun r3026=>
  (q3u F a0 17 20).bind fun r3027=>
  (q3u F a0 21 24).bind fun r3028=>
  (q3u F a0 25 28).bind fun r3029=>
  (q9d F a0 [29,31]).bind fun r3030=>
  let v3031:Int:=(y0 .i64 (2*r3030.1))
  (qvr F [r3024.1,r3025.1,r3026.1]).bind fun r3039=>
  (qvr F [r3027.1,r3028.1,r3029.1]).bind fun r3040=>
  cond (decide (r3040.1≤r3039.1))
   ((qfc F (y0 .i64 (v3031+1))).bind fun r3043=>
   (q3e F [r3024.1,r3025.1,r3026.1]).bind fun r3044=>
   (q7b F r3044.1 r3043.1).bind fun r3045=>
   (q3e F [r3024.1,r3025.1,r3026.1]).bind fun r3046=>
   let v3047:Int:=(y0 .i64 (0-r3043.1))
   (q7b F r3046.1 v3047).bind fun r3048=>
   (q3e F [r3027.1,r3028.1,r3029.1]).bind fun r3049=>
   (q7b F r3049.1 r3043.1).bind fun r3050=>
   (q3e F [r3027.1,r3028.1,r3029.1]).bind fun r3051=>
   (q7b F r3051.1 v3047).bind fun r3052=>
   some ((r3045.1++(r3048.1++(r3050.1++r3052.1))),()))
   ((qfc F v3031).bind fun r3054=>
   (q3e F [r3024.1,r3025.1,r3026.1]).bind fun r3055=>
   (q7b F r3055.1 r3054.1).bind fun r3056=>
   (q3e F [r3024.1,r3025.1,r3026.1]).bind fun r3057=>
   let v3058:Int:=(y0 .i64 (0-r3054.1))
   (q7b F r3057.1 v3058).bind fun r3059=>
   (q3e F [r3027.1,r3028.1,r3029.1]).bind fun r3060=>
   (q7b F r3060.1 r3054.1).bind fun r3061=>
   (q3e F [r3027.1,r3028.1,r3029.1]).bind fun r3062=>
   (q7b F r3062.1 v3058).bind fun r3063=>
   some ((r3056.1++(r3059.1++(r3061.1++r3063.1))),())))
def qrz(F:Nat)(rec:LI→LI→Int→Bool→Bool→Bool→LI→LI→LI→LI→LI→LI→Int→Option (LI×LI×Unit))(x0:LI)(x1:LI)(x2:Int)(x3:Bool)(x4:Bool)(x5:Bool)(x6:LI)(x7:LI)(x8:LI)(x9:LI)(x10:LI)(x11:LI)(x12:Int):Option (LI×LI×Unit):=
 cond (decide (x12<16))
  (cond (x2==1)
   ((z6u F x0 x2).bind fun r3268=>
   let b3269:Bool:=((decide (0≤x12))&&(decide (x12<16)))
   cond b3269
    (let v3271:Int:=(y7 x9 (y6 x12) 0)
    cond ((decide (0≤v3271))&&(decide (v3271<4)))
     (cond b3269
      (let n3274:Nat:=((y6 x12)*4)
      let l3275:LI:=(((y8 n3274 x10)++(y8 4 (y9 ((y6 v3271)*4) r3268.1)))++(y9 (n3274+4) x10))
      cond (!x3)
       (cond b3269
        (cond (v3271==2)
         (cond b3269
          (rec x0 x1 x2 x3 x4 x5 x6 x7 x8 x9 (((y8 n3274 l3275)++[0,0,0,0])++(y9 (n3274+4) l3275)) x11 (y0 .i64 (x12+1)))
           none)
         (rec x0 x1 x2 x3 x4 x5 x6 x7 x8 x9 l3275 x11 (y0 .i64 (x12+1))))
         none)
       (rec x0 x1 x2 x3 x4 x5 x6 x7 x8 x9 l3275 x11 (y0 .i64 (x12+1))))
       none)
      none)
     none)
   (cond (x2==2)
    ((z6u F x0 x2).bind fun r3283=>
    let b3284:Bool:=((decide (0≤x12))&&(decide (x12<16)))
    cond b3284
     (let v3286:Int:=(y7 x9 (y6 x12) 0)
     cond ((decide (0≤v3286))&&(decide (v3286<4)))
      (cond b3284
       (let n3289:Nat:=((y6 x12)*4)
       let l3290:LI:=(((y8 n3289 x10)++(y8 4 (y9 ((y6 v3286)*4) r3283.1)))++(y9 (n3289+4) x10))
       cond (!x3)
        (cond b3284
         (cond (v3286==2)
          (cond b3284
           (rec x0 x1 x2 x3 x4 x5 x6 x7 x8 x9 (((y8 n3289 l3290)++[0,0,0,0])++(y9 (n3289+4) l3290)) x11 (y0 .i64 (x12+1)))
            none)
          (rec x0 x1 x2 x3 x4 x5 x6 x7 x8 x9 l3290 x11 (y0 .i64 (x12+1))))
          none)
        (rec x0 x1 x2 x3 x4 x5 x6 x7 x8 x9 l3290 x11 (y0 .i64 (x12+1))))
        none)
       none)
      none)
    (cond (!x3)
     (let b3298:Bool:=((decide (0≤x12))&&(decide (x12<16)))
     cond b3298
      (let v3300:Int:=(y7 x9 (y6 x12) 0)
      cond (v3300==0)
       ((z6t F x5 x12).bind fun r3302=>
       cond ((decide (0≤r3302.1))&&(decide (r3302.1<2)))
        (cond b3298
         (let n3306:Nat:=((y6 x12)*4)
         let l3307:LI:=(((y8 n3306 x10)++(y8 4 (y9 ((y6 r3302.1)*4) x11)))++(y9 (n3306+4) x10))
         cond (!x3)
          (cond b3298
           (cond (v3300==2)
            (cond b3298
             (rec x0 x1 x2 x3 x4 x5 x6 x7 x8 x9 (((y8 n3306 l3307)++[0,0,0,0])++(y9 (n3306+4) l3307)) x11 (y0 .i64 (x12+1)))
              none)
            (rec x0 x1 x2 x3 x4 x5 x6 x7 x8 x9 l3307 x11 (y0 .i64 (x12+1))))
            none)
          (rec x0 x1 x2 x3 x4 x5 x6 x7 x8 x9 l3307 x11 (y0 .i64 (x12+1))))
          none)
         none)
       (cond (!x3)
        (cond b3298
         (cond (v3300==2)
          (cond b3298
           (let n3314:Nat:=((y6 x12)*4)
           rec x0 x1 x2 x3 x4 x5 x6 x7 x8 x9 (((y8 n3314 x10)++[0,0,0,0])++(y9 (n3314+4) x10)) x11 (y0 .i64 (x12+1)))
            none)
          (rec x0 x1 x2 x3 x4 x5 x6 x7 x8 x9 x10 x11 (y0 .i64 (x12+1))))
          none)
        (rec x0 x1 x2 x3 x4 x5 x6 x7 x8 x9 x10 x11 (y0 .i64 (x12+1)))))
       none)
     (cond (!x3)
      (let b3319:Bool:=((decide (0≤x12))&&(decide (x12<16)))
      cond b3319
       (cond ((y7 x9 (y6 x12) 0)==2)
        (cond b3319
         (let n3323:Nat:=((y6 x12)*4)
         rec x0 x1 x2 x3 x4 x5 x6 x7 x8 x9 (((y8 n3323 x10)++[0,0,0,0])++(y9 (n3323+4) x10)) x11 (y0 .i64 (x12+1)))
          none)
        (rec x0 x1 x2 x3 x4 x5 x6 x7 x8 x9 x10 x11 (y0 .i64 (x12+1))))
        none)
      (rec x0 x1 x2 x3 x4 x5 x6 x7 x8 x9 x10 x11 (y0 .i64 (x12+1)))))))
  (some (x1,x10,()))
def q8h(F:Nat):Nat→LI→LI→Int→Bool→Bool→Bool→LI→LI→LI→LI→LI→LI→Int→Option (LI×LI×Unit)
 |0,_,_,_,_,_,_,_,_,_,_,_,_,_=>none
 |k+1,x0,x1,x2,x3,x4,x5,x6,x7,x8,x9,x10,x11,x12=>qrz F (q8h F k) x0 x1 x2 x3 x4 x5 x6 x7 x8 x9 x10 x11 x12
def q8i(F:Nat)(a0:LI)(a1:Bool):Option (LI×Int×Unit):=
 cond ((((ya a0):Nat):Int) !=8)
  (some (q0h,1,()))
  ((znn F a0 a1).bind fun r3195=>
  cond (r3195.1==3)
   ((z9q F a0).bind fun r3197=>
   some (r3197.1,0,()))
   (cond (!a1)
    ((qqd F a0 a1).bind fun r3199=>
    (qqb F (r3199.1.1,r3199.1.2.1,r3199.1.2.2.1,r3199.1.2.2.2.1,r3199.1.2.2.2.2.1,r3199.1.2.2.2.2.2.1,())).bind fun r3200=>
    (qje F (r3199.1.1,r3199.1.2.1,r3199.1.2.2.1,r3199.1.2.2.2.1,r3199.1.2.2.2.2.1,r3199.1.2.2.2.2.2.1,())).bind fun r3201=>
    (q8h F F a0 q0h r3195.1 true r3199.1.1 r3199.1.2.1 r3199.1.2.2.1 r3199.1.2.2.2.1 r3199.1.2.2.2.2.1 r3199.1.2.2.2.2.2.1 r3200.1 r3201.1 0).bind fun r3328=>
    some (r3328.2.1,0,()))
    ((q2w F a0 30 1).bind fun r3329=>
    (qqd F a0 a1).bind fun r3331=>
    (qqb F (r3331.1.1,r3331.1.2.1,r3331.1.2.2.1,r3331.1.2.2.2.1,r3331.1.2.2.2.2.1,r3331.1.2.2.2.2.2.1,())).bind fun r3332=>
    (qje F (r3331.1.1,r3331.1.2.1,r3331.1.2.2.1,r3331.1.2.2.2.1,r3331.1.2.2.2.2.1,r3331.1.2.2.2.2.2.1,())).bind fun r3333=>
    (q8h F F a0 q0h r3195.1 (r3329.1==1) r3331.1.1 r3331.1.2.1 r3331.1.2.2.1 r3331.1.2.2.2.1 r3331.1.2.2.2.2.1 r3331.1.2.2.2.2.2.1 r3332.1 r3333.1 0).bind fun r3397=>
    some (r3397.2.1,0,()))))
def j3r(F:Nat)(a0:Int):Option (Int×Unit):=
 some ((y0 .i64 (16+(y0 .i64 (3*(y0 .i64 ((y0 .i64 (4*(yu a0 4)))+(y0 .i64 (yv a0 4)))))))),())
def qnp:LI:=[0,0,0,0,0,0,0,0]
def z9r(F:Nat)(rec:LI→LI→LI→Int→Option (LI×LI×Unit))(x0:LI)(x1:LI)(x2:LI)(x3:Int):Option (LI×LI×Unit):=
 let n25:Nat:=((ya x1)/3)
 cond (decide (x3<16))
  (cond ((decide (0≤x3))&&(decide (x3<16)))
   (let v28:Int:=(y7 x2 (y6 x3) 0)
   (j3r F x3).bind fun r29=>
   cond ((decide ((n25+1)≤1099511627776))&&(if(false=true)then(decide (0<1))else true))
    (rec x0 (x1++[r29.1,3,v28]) x2 (y0 .i64 (x3+1)))
     none)
    none)
  (some (x0,x1,()))
def qqe(F:Nat):Nat→LI→LI→LI→Int→Option (LI×LI×Unit)
 |0,_,_,_,_=>none
 |k+1,x0,x1,x2,x3=>z9r F (qqe F k) x0 x1 x2 x3
def z9s(F:Nat)(rec:LI→LI→Int→Int→Option (LI×Bool×Unit))(x0:LI)(x1:LI)(x2:Int)(x3:Int):Option (LI×Bool×Unit):=
 let n67:Nat:=((ya x1)/3)
 cond (decide (x3<x2))
  (cond ((decide (0≤x3))&&(decide (x3<((n67:Nat):Int))))
   (let l71:LI:=(y8 3 (y9 ((y6 x3)*3) x1))
   let l72:LI:=(if((0=0)∧(3=3))then l71 else(((y8 0 [0,0,0])++l71)++(y9 3 [0,0,0])))
   (q8c F x0 (y7 l72 0 0) (y7 l72 1 0) (y0 .u64 (y7 l72 2 0))).bind fun r77=>
   cond (r77.2.1 !=0)
    (some (x0,false,()))
    (rec r77.1 x1 x2 (y0 .i64 (x3+1))))
    none)
  (some (x0,true,()))
def qqf(F:Nat):Nat→LI→LI→Int→Int→Option (LI×Bool×Unit)
 |0,_,_,_,_=>none
 |k+1,x0,x1,x2,x3=>z9s F (qqf F k) x0 x1 x2 x3
def zou(F:Nat)(a0:Int)(a1:Int)(a2:Int)(a3:LI):Option (LI×Int×Unit):=
 (qqe F F qnp [0,8,a0,8,4,a1,12,4,a2] (if((0=0)∧(16=16))then a3 else(y8 16 (y9 0 a3))) 0).bind fun r34=>
 (qqf F F r34.1 r34.2.1 ((((ya r34.2.1)/3):Nat):Int) 0).bind fun r81=>
 cond (!r81.2.1)
  (some ([],1,()))
  (some (r81.1,0,()))
def qg6(F:Nat)(a0:Int)(a1:Int)(a2:LI):Option (Int×Unit):=
 (qv7 F a2 a0 a1).bind fun r85=>
 some ((y0 .i64 r85.1),())
def q8j:LI:=[0,0,0,0,0,0,0,0,0,0,0,0,0,0,0,0]
def z3w(F:Nat)(rec:LI→LI→LI→Int→Option (LI×LI×LI×Unit))(x0:LI)(x1:LI)(x2:LI)(x3:Int):Option (LI×LI×LI×Unit):=
 cond (decide (x3<16))
  ((j3r F x3).bind fun r100=>
  (qg6 F r100.1 3 x2).bind fun r101=>
  cond ((decide (0≤x3))&&(decide (x3<16)))
   (rec x0 (yw x1 (y6 x3) r101.1) x2 (y0 .i64 (x3+1)))
    none)
  (some (x0,x1,x2,()))
def ql6(F:Nat):Nat→LI→LI→LI→Int→Option (LI×LI×LI×Unit)
 |0,_,_,_,_=>none
 |k+1,x0,x1,x2,x3=>z3w F (ql6 F k) x0 x1 x2 x3
def ztl(F:Nat)(a0:LI):Option (Int×Int×Int×LI×Int×Unit):=
 cond ((((ya a0):Nat):Int) !=8)
  (some (0,0,0,q8j,1,()))
  ((ql6 F F q8j q8j a0 0).bind fun r106=>
  (qg6 F 0 8 r106.2.2.1).bind fun r108=>
  (qg6 F 8 4 r106.2.2.1).bind fun r109=>
  (qg6 F 12 4 r106.2.2.1).bind fun r110=>
  some (r108.1,r109.1,r110.1,r106.2.1,0,()))
def ztm:LI:=[-3,-6,-9,-15,2,5,8,14,-3,-7,-10,-13,2,6,9,12,-2,-5,-8,-13,1,4,7,12,-2,-4,-6,-13,1,3,5,12,-3,-6,-8,-12,2,5,7,11,-3,-7,-9,-11,2,6,8,10,-4,-7,-8,-11,3,6,7,10,-3,-5,-8,-11,2,4,7,10,-2,-6,-8,-10,1,5,7,9,-2,-5,-8,-10,1,4,7,9,-2,-4,-8,-10,1,3,7,9,-2,-5,-7,-10,1,4,6,9,-3,-4,-7,-10,2,3,6,9,-1,-2,-3,-10,0,1,2,9,-4,-6,-8,-9,3,5,7,8,-3,-5,-7,-9,2,4,6,8]
def ztn(F:Nat)(a0:Int):Option (LI×Unit):=
 let v118:Int:=(iand .i64 a0 15)
 cond ((decide (0≤v118))&&(decide (v118<16)))
  (let l121:LI:=(y8 8 (y9 ((y6 v118)*8) ztm))
  let l122:LI:=(if((0=0)∧(8=8))then l121 else(((y8 0 qnp)++l121)++(y9 8 qnp)))
  some ((if((0=0)∧(8=8))then l122 else(y8 8 (y9 0 l122))),()))
   none
def zfm(F:Nat)(a0:Int)(a1:Int)(a2:Int)(a3:Bool):Option (Int×Unit):=
 cond (!a3)
  ((q20 F (y0 .i64 (a0+(y0 .i64 (a2*a1)))) 255).bind fun r129=>
  some (r129.1,()))
  (cond (a1==0)
   ((q20 F (y0 .i64 ((y0 .i64 ((y0 .i64 (8*a0))+4))+a2)) 2047).bind fun r134=>
   some (r134.1,()))
   ((q20 F (y0 .i64 ((y0 .i64 (8*(y0 .i64 (a0+(y0 .i64 (a2*a1))))))+4)) 2047).bind fun r139=>
   some (r139.1,())))
def z0f(F:Nat)(rec:Bool→LI→Int→Int→LI→LI→LI→Int→Option (LI×LI×Unit))(x0:Bool)(x1:LI)(x2:Int)(x3:Int)(x4:LI)(x5:LI)(x6:LI)(x7:Int):Option (LI×LI×Unit):=
 cond (decide (x7<16))
  (let b167:Bool:=((decide (0≤x7))&&(decide (x7<16)))
  cond b167
   (let v168:Int:=(y7 x6 (y6 x7) 0)
   cond ((decide (0≤v168))&&(decide (v168<8)))
    ((zfm F x2 x3 (y7 x5 (y6 v168) 0) x0).bind fun r172=>
    cond b167
     (rec x0 x1 x2 x3 (yw x4 (y6 x7) r172.1) x5 x6 (y0 .i64 (x7+1)))
      none)
     none)
    none)
  (some (x1,x4,()))
def qib(F:Nat):Nat→Bool→LI→Int→Int→LI→LI→LI→Int→Option (LI×LI×Unit)
 |0,_,_,_,_,_,_,_,_=>none
 |k+1,x0,x1,x2,x3,x4,x5,x6,x7=>z0f F (qib F k) x0 x1 x2 x3 x4 x5 x6 x7
def z6v(F:Nat)(a0:LI)(a1:Bool):Option (LI×Int×Unit):=
 (ztl F a0).bind fun r141=>
 let l142:LI:=(if((0=0)∧(16=16))then r141.2.2.2.1 else(((y8 0 q8j)++r141.2.2.2.1)++(y9 16 q8j)))
 cond (r141.2.2.2.2.1 !=0)
  (let l144:LI:=(if((0=0)∧(16=16))then l142 else(y8 16 (y9 0 l142)))
  let l145:LI:=(if((0=0)∧(16=16))then l144 else(((y8 0 q8j)++l144)++(y9 16 q8j)))
  some ((if((0=0)∧(16=16))then l145 else(y8 16 (y9 0 l145))),r141.2.2.2.2.1,()))
  ((ztn F r141.2.2.1).bind fun r147=>
  (qib F F a1 q8j r141.1 r141.2.1 l142 (if((0=0)∧(8=8))then r147.1 else(((y8 0 qnp)++r147.1)++(y9 8 qnp))) (if((0=0)∧(16=16))then l142 else(y8 16 (y9 0 l142))) 0).bind fun r176=>
  let l177:LI:=(if((0=0)∧(16=16))then r176.2.1 else(y8 16 (y9 0 r176.2.1)))
  let l178:LI:=(if((0=0)∧(16=16))then l177 else(((y8 0 r176.1)++l177)++(y9 16 r176.1)))
  some ((if((0=0)∧(16=16))then l178 else(y8 16 (y9 0 l178))),0,()))
def q8k(F:Nat)(a0:Int):Option ((Int×Int×Bool×Unit)×Int×Unit):=
 cond (a0==1)
  (some ((8,7,false,()),0,()))
  (cond (a0==7)
   (some ((8,7,false,()),0,()))
   (cond (a0==8)
    (some ((8,7,false,()),0,()))
    (cond (a0==2)
     (some ((16,15,false,()),0,()))
     (cond (a0==3)
      (some ((16,15,false,()),0,()))
      (cond (a0==6)
       (some ((16,15,false,()),0,()))
       (cond (a0==10)
        (some ((16,15,false,()),0,()))
        (cond (a0==9)
         (some ((8,15,false,()),0,()))
         (cond (a0==4)
          (some ((8,1,(a0==11),()),0,()))
          (let b12:Bool:=(a0==11)
          cond b12
           (some ((8,1,b12,()),0,()))
           (cond (a0==5)
            (some ((16,3,(a0==12),()),0,()))
            (let b15:Bool:=(a0==12)
            cond b15
             (some ((16,3,b15,()),0,()))
             (some ((0,0,false,()),5,())))))))))))))
def q2r:LI:=[0,0,0,0,0,0,0,0,0,0,0,0,0,0,0,0,0,0,0,0,0,0,0,0,0,0,0,0,0,0,0,0,0,0,0,0,0,0,0,0,0,0,0,0,0,0,0,0,0,0,0,0,0,0,0,0,0,0,0,0,0,0,0,0]
def qb7(F:Nat)(a0:LI)(a1:Int):Option (LI×Unit):=
 some (a0,())
def qcf(F:Nat)(rec:Int→LI→LI→LI→Int→Option (LI×LI×Unit))(x0:Int)(x1:LI)(x2:LI)(x3:LI)(x4:Int):Option (LI×LI×Unit):=
 cond (decide (x4<16))
  (let b344:Bool:=((decide (0≤x4))&&(decide (x4<16)))
  cond b344
   (cond b344
    (cond ((decide (0≤x0))&&(decide (x0<4)))
     (rec x0 (yw x1 (((y6 x4)*4)+(y6 x0)) (y7 x3 (y6 x4) 0)) x2 x3 (y0 .i64 (x4+1)))
      none)
     none)
    none)
  (some (x1,x2,()))
def q7k(F:Nat):Nat→Int→LI→LI→LI→Int→Option (LI×LI×Unit)
 |0,_,_,_,_,_=>none
 |k+1,x0,x1,x2,x3,x4=>qcf F (q7k F k) x0 x1 x2 x3 x4
def qed(F:Nat)(a0:LI)(a1:Int)(a2:LI)(a3:Int):Option (LI×Unit):=
 (q7k F F a1 a0 q2r a2 0).bind fun r351=>
 some (r351.1,())
def qgt(F:Nat)(a0:LI)(a1:Int)(a2:Int)(a3:Bool):Option (LI×Int×Unit):=
 cond a3
  ((z6v F a0 true).bind fun r598=>
  some (r598.1,r598.2.1,()))
  ((qi0 F a0).bind fun r599=>
  some (r599.1,r599.2.1,()))
def q1v(F:Nat)(a0:LI)(a1:Int)(a2:LI)(a3:Int)(a4:Int)(a5:Bool):Option (LI×Unit):=
 (qgt F a2 a3 a4 a5).bind fun r603=>
 (qed F a0 a1 r603.1 r603.2.1).bind fun r604=>
 some (r604.1,())
def qs0(F:Nat)(rec:Bool→LI→LI→Int→Option (LI×LI×Unit))(x0:Bool)(x1:LI)(x2:LI)(x3:Int):Option (LI×LI×Unit):=
 cond (decide (x3<16))
  (let b618:Bool:=((decide (0≤x3))&&(decide (x3<16)))
  cond b618
   (let n620:Nat:=(3+((y6 x3)*4))
   let l621:LI:=(yw x2 n620 255)
   cond x0
    (cond b618
     (rec x0 x1 (yw l621 n620 2047) (y0 .i64 (x3+1)))
      none)
    (rec x0 x1 l621 (y0 .i64 (x3+1))))
    none)
  (some (x1,x2,()))
def qcg(F:Nat):Nat→Bool→LI→LI→Int→Option (LI×LI×Unit)
 |0,_,_,_,_=>none
 |k+1,x0,x1,x2,x3=>qs0 F (qcg F k) x0 x1 x2 x3
def q8l(F:Nat)(a0:Bool):Option (LI×Unit):=
 (qcg F F a0 q2r q2r 0).bind fun r625=>
 some (r625.2.1,())
def q15(F:Nat)(a0:Int)(a1:(Int×Int×Bool×Unit))(a2:LI)(a3:LI)(a4:LI):Option (LI×Int×Unit):=
 cond (a0==2)
  ((qkz F a2).bind fun r238=>
  (q6n F a3 true).bind fun r329=>
  (qb7 F r329.1 r329.2.1).bind fun r330=>
  (qed F r330.1 3 r238.1 r238.2.1).bind fun r352=>
  some (r352.1,r238.2.1,()))
  (cond (a0==3)
   ((q6n F a3 true).bind fun r354=>
   (qb7 F r354.1 r354.2.1).bind fun r355=>
   (q1v F r355.1 3 a2 a1.1 a1.2.1 a1.2.2.1).bind fun r605=>
   some (r605.1,0,()))
   (cond (a0==4)
    ((q8l F a1.2.2.1).bind fun r626=>
    (q1v F r626.1 0 a2 a1.1 a1.2.1 a1.2.2.1).bind fun r627=>
    some (r627.1,0,()))
    (cond (a0==11)
     ((q8l F a1.2.2.1).bind fun r629=>
     (q1v F r629.1 0 a2 a1.1 a1.2.1 a1.2.2.1).bind fun r630=>
     some (r630.1,0,()))
     (cond (a0==5)
      ((q8l F a1.2.2.1).bind fun r632=>
      (q1v F r632.1 0 a2 a1.1 a1.2.1 a1.2.2.1).bind fun r633=>
      (q1v F r633.1 1 a3 a1.1 a1.2.1 a1.2.2.1).bind fun r634=>
      some (r634.1,0,()))
      (cond (a0==12)
       ((q8l F a1.2.2.1).bind fun r636=>
       (q1v F r636.1 0 a2 a1.1 a1.2.1 a1.2.2.1).bind fun r637=>
       (q1v F r637.1 1 a3 a1.1 a1.2.1 a1.2.2.1).bind fun r638=>
       some (r638.1,0,()))
       (cond (a0==6)
        ((q9w F a4).bind fun r2195=>
        some (r2195.1,r2195.2.1,()))
        (cond (a0==7)
         ((z3u F a4).bind fun r2588=>
         some (r2588.1,r2588.2.1,()))
         (cond (a0==8)
          ((qi9 F a4 (a0==9)).bind fun r3387=>
          some (r3387.1,r3387.2.1,()))
          (let b3388:Bool:=(a0==9)
          cond b3388
           ((qi9 F a4 b3388).bind fun r3389=>
           some (r3389.1,r3389.2.1,()))
           (cond (a0==10)
            ((z6v F a2 false).bind fun r3391=>
            (qi9 F a3 false).bind fun r3392=>
            (qb7 F r3392.1 r3392.2.1).bind fun r3393=>
            (qed F r3393.1 3 r3391.1 r3391.2.1).bind fun r3394=>
            some (r3394.1,r3391.2.1,()))
            ((q6n F a4 false).bind fun r3395=>
            some (r3395.1,r3395.2.1,()))))))))))))
def qic(F:Nat)(a0:Int)(a1:LI):Option (LI×Int×Unit):=
 (q8k F a0).bind fun r20=>
 cond (r20.2.1 !=0)
  (some (q2r,r20.2.1,()))
  (let v22:Int:=(((ya a1):Nat):Int)
  cond (v22 !=r20.1.1)
   (some (q2r,1,()))
   (cond (decide (8≤(ya a1)))
    (let v25:Int:=(y0 .i64 (v22-8))
    cond ((decide (0≤v25))&&((decide ((y6 v25)≤(ya a1)))&&true))
     ((q15 F a0 (r20.1.1,r20.1.2.1,r20.1.2.2.1,()) (y8 8 a1) (y8 (psub (ya a1) (y6 v25)) (y9 (y6 v25) a1)) a1).bind fun r3398=>
     some (r3398.1,r3398.2.1,()))
      none)
     none))
def qal(F:Nat)(rec:LI→LI→Int→Int→LI→Int→Option (LI×LI×Int×Unit))(x0:LI)(x1:LI)(x2:Int)(x3:Int)(x4:LI)(x5:Int):Option (LI×LI×Int×Unit):=
 cond (decide (x5<4))
  (let b3503:Bool:=((decide (0≤x5))&&(decide (x5<4)))
  cond b3503
   (let v3504:Int:=(y7 x4 (y6 x5) 0)
   cond ((decide (0≤x2))&&(decide (x2<16)))
    (cond b3503
     (rec (yw x0 (((y6 x2)*4)+(y6 x5)) (y0 .i64 ((y0 .i64 (8*v3504))+(y0 .i64 (yv v3504 32))))) x1 x2 x3 x4 (y0 .i64 (x5+1)))
      none)
     none)
    none)
  (some (x0,x1,x3,()))
def q6i(F:Nat):Nat→LI→LI→Int→Int→LI→Int→Option (LI×LI×Int×Unit)
 |0,_,_,_,_,_,_=>none
 |k+1,x0,x1,x2,x3,x4,x5=>qal F (q6i F k) x0 x1 x2 x3 x4 x5
def qam(F:Nat)(rec:LI→LI→Int→Option (LI×LI×Unit))(x0:LI)(x1:LI)(x2:Int):Option (LI×LI×Unit):=
 cond (decide (x2<16))
  (cond ((decide (0≤x2))&&(decide (x2<16)))
   ((q6i F F x0 x1 x2 x2 (y8 4 (y9 ((y6 x2)*4) x0)) 0).bind fun r3513=>
   rec r3513.1 r3513.2.1 (y0 .i64 (r3513.2.2.1+1)))
    none)
  (some (x0,x1,()))
def q6j(F:Nat):Nat→LI→LI→Int→Option (LI×LI×Unit)
 |0,_,_,_=>none
 |k+1,x0,x1,x2=>qam F (q6j F k) x0 x1 x2
def qg7(F:Nat)(a0:Int)(a1:LI):Option (LI×Unit):=
 (q8k F a0).bind fun r3432=>
 cond (!r3432.1.2.2.1)
  (some (a1,()))
  ((q6j F F a1 q2r 0).bind fun r3515=>
  some (r3515.1,()))
def qch(F:Nat)(rec:Int→LI→LI→Int→Int→Int→Int→Option (Int×LI×LI×Int×Int×Unit))(x0:Int)(x1:LI)(x2:LI)(x3:Int)(x4:Int)(x5:Int)(x6:Int):Option (Int×LI×LI×Int×Int×Unit):=
 cond (decide (x6<4))
  (cond (decide (0≤x6))
   (cond ((iand .i64 (ishr .i64 x0 x6) 1)==1)
    (let b3612:Bool:=((decide (0≤x4))&&(decide (x4<16)))
    cond b3612
     (let b3614:Bool:=((decide (0≤x6))&&(decide (x6<4)))
     cond b3614
      (let n3615:Nat:=(((y6 x4)*4)+(y6 x6))
      cond b3612
       (cond b3614
        ((q42 F (y0 .i64 ((y7 x1 n3615 0)-(y7 x2 n3615 0)))).bind fun r3619=>
        rec x0 x1 x2 (y0 .i64 (x3+r3619.1)) x4 x5 (y0 .i64 (x6+1)))
         none)
        none)
       none)
      none)
    (rec x0 x1 x2 x3 x4 x5 (y0 .i64 (x6+1))))
    none)
  (some (x0,x1,x2,x3,x5,()))
def q7l(F:Nat):Nat→Int→LI→LI→Int→Int→Int→Int→Option (Int×LI×LI×Int×Int×Unit)
 |0,_,_,_,_,_,_,_=>none
 |k+1,x0,x1,x2,x3,x4,x5,x6=>qch F (q7l F k) x0 x1 x2 x3 x4 x5 x6
def qci(F:Nat)(rec:Int→LI→LI→Int→Int→Option (Int×Unit))(x0:Int)(x1:LI)(x2:LI)(x3:Int)(x4:Int):Option (Int×Unit):=
 cond (decide (x4<16))
  ((q7l F F x0 x1 x2 x3 x4 x4 0).bind fun r3623=>
  rec r3623.1 r3623.2.1 r3623.2.2.1 r3623.2.2.2.1 (y0 .i64 (r3623.2.2.2.2.1+1)))
  (some (x3,()))
def q7m(F:Nat):Nat→Int→LI→LI→Int→Int→Option (Int×Unit)
 |0,_,_,_,_,_=>none
 |k+1,x0,x1,x2,x3,x4=>qci F (q7m F k) x0 x1 x2 x3 x4
def qqg(F:Nat)(a0:LI)(a1:LI)(a2:Int):Option (Int×Unit):=
 (q7m F F a2 a0 a1 0 0).bind fun r3625=>
 some (r3625.1,())
def q6p(F:Nat)(a0:Int)(a1:LI)(a2:LI):Option (Int×Int×Unit):=
 (qic F a0 a1).bind fun r3429=>
 cond (r3429.2.1 !=0)
  (some (0,r3429.2.1,()))
  ((q8k F a0).bind fun r3431=>
  (qg7 F a0 a2).bind fun r3516=>
  (qqg F r3516.1 r3429.1 r3431.1.2.1).bind fun r3626=>
  some (r3626.1,0,()))
def qz1(F:Nat)(a0:Int):Option ((Int×Int×Bool×Unit)×Int×Unit):=
 cond (decide (a0<1))
  (some ((0,0,false,()),5,()))
  (cond (decide (12<a0))
   (some ((0,0,false,()),5,()))
   (cond (a0==0)
    (some ((0,0,false,()),0,()))
    (cond (a0==1)
     (some ((8,7,false,()),0,()))
     (cond (a0==2)
      (some ((16,15,false,()),0,()))
      (cond (a0==3)
       (some ((16,15,false,()),0,()))
       (cond (a0==4)
        (some ((8,1,false,()),0,()))
        (cond (a0==5)
         (some ((16,3,false,()),0,()))
         (cond (a0==6)
          (some ((16,15,false,()),0,()))
          (cond (a0==7)
           (some ((8,7,false,()),0,()))
           (cond (a0==8)
            (some ((8,7,false,()),0,()))
            (cond (a0==9)
             (some ((8,15,false,()),0,()))
             (cond (a0==10)
              (some ((16,15,false,()),0,()))
              (cond (a0==11)
               (some ((8,1,true,()),0,()))
               (cond (a0==12)
                (some ((16,3,true,()),0,()))
                 none))))))))))))))
def q2i:LI:=[0,0,0,0,0,0,0,0,0,0,0,0,0,0,0,0,0,0,0,0,0,0,0,0,0,0,0,0,0,0,0,0,0,0,0,0,0,0,0,0,0,0,0,0,0,0,0,0,0,0,0,0,0,0,0,0,0,0,0,0,0,0,0,0]
def q7n(F:Nat)(rec:LI→Int→LI→Int→Option (Unit⊕(LI×Int×Unit)))(x0:LI)(x1:Int)(x2:LI)(x3:Int):Option (Unit⊕(LI×Int×Unit)):=
 cond (decide (x3<4))
  (cond ((decide (0≤x3))&&(decide (x3<4)))
   (let v75:Int:=(y7 x2 (y6 x3) 0)
   cond (decide (v75<0))
    (some (.inl ()))
    (cond (decide (255<v75))
     (some (.inl ()))
     (rec x0 x1 x2 (y0 .i64 (x3+1)))))
    none)
  (some (.inr (x0,x1,())))
def q33(F:Nat):Nat→LI→Int→LI→Int→Option (Unit⊕(LI×Int×Unit))
 |0,_,_,_,_=>none
 |k+1,x0,x1,x2,x3=>q7n F (q33 F k) x0 x1 x2 x3
def q7o(F:Nat)(rec:LI→Int→Option (Unit⊕Unit))(x0:LI)(x1:Int):Option (Unit⊕Unit):=
 cond (decide (x1<16))
  (cond ((decide (0≤x1))&&(decide (x1<16)))
   ((q33 F F x0 x1 (y8 4 (y9 ((y6 x1)*4) x0)) 0).bind fun r79=>match r79 with
    | .inl r79=>(some (.inl ()))
    | .inr r79=>(rec r79.1 (y0 .i64 (r79.2.1+1))))
    none)
  (some (.inr ()))
def q34(F:Nat):Nat→LI→Int→Option (Unit⊕Unit)
 |0,_,_=>none
 |k+1,x0,x1=>q7o F (q34 F k) x0 x1
def qb8(F:Nat)(a0:LI):Option (Bool×Unit):=
 (q34 F F a0 0).bind fun r81=>match r81 with
  | .inl r81=>(some (false,()))
  | .inr r81=>(some (true,()))
def qvs(F:Nat)(a0:Int)(a1:Int):Option (Int×Unit):=
 (q0l F a0 a1).bind fun r229=>
 some (r229.1,())
def q4d(F:Nat)(rec:Int→LI→Int→LI→Int→Int→Option (Int×Unit))(x0:Int)(x1:LI)(x2:Int)(x3:LI)(x4:Int)(x5:Int):Option (Int×Unit):=
 cond (decide (x5<x4))
  (cond ((decide (0≤x5))&&(decide (x5<(((ya x3):Nat):Int))))
   (cond ((decide (0≤x0))&&(decide (x0<(((ya x1):Nat):Int))))
    ((q42 F (y0 .i64 ((y7 x3 (y6 x5) 0)-(y7 x1 (y6 x0) 0)))).bind fun r338=>
    rec x0 x1 (y0 .i64 (x2+r338.1)) x3 x4 (y0 .i64 (x5+1)))
     none)
    none)
  (some (x2,()))
def q3o(F:Nat):Nat→Int→LI→Int→LI→Int→Int→Option (Int×Unit)
 |0,_,_,_,_,_,_=>none
 |k+1,x0,x1,x2,x3,x4,x5=>q4d F (q3o F k) x0 x1 x2 x3 x4 x5
def qid(F:Nat)(a0:Int)(a1:LI)(a2:LI):Option (Int×Unit):=
 (q3o F F a0 a2 0 a1 (((ya a1):Nat):Int) 0).bind fun r341=>
 some (r341.1,())
def q13(F:Nat)(rec:LI→LI→Int→Int→Int→Int→Option (Int×Unit))(x0:LI)(x1:LI)(x2:Int)(x3:Int)(x4:Int)(x5:Int):Option (Int×Unit):=
 cond (decide (x5<x4))
  ((qid F x5 x0 x1).bind fun r398=>
  cond (x5==0)
   (rec x0 x1 x5 r398.1 x4 (y0 .i64 (x5+1)))
   (cond (decide (r398.1<x3))
    (rec x0 x1 x5 r398.1 x4 (y0 .i64 (x5+1)))
    (rec x0 x1 x2 x3 x4 (y0 .i64 (x5+1)))))
  (some (x2,()))
def q0x(F:Nat):Nat→LI→LI→Int→Int→Int→Int→Option (Int×Unit)
 |0,_,_,_,_,_,_=>none
 |k+1,x0,x1,x2,x3,x4,x5=>q13 F (q0x F k) x0 x1 x2 x3 x4 x5
def qaw(F:Nat)(a0:Int)(a1:LI)(a2:LI):Option (Int×Unit):=
 (q0x F F a1 a2 0 0 a0 0).bind fun r404=>
 some (r404.1,())
def qb9(F:Nat)(a0:LI)(a1:LI):Option (Int×Unit):=
 (qaw F (((ya a0):Nat):Int) a1 a0).bind fun r405=>
 some (r405.1,())
def q5p(F:Nat)(rec:Int→Int→Int→LI→LI→Int→Option (Int×Int×LI×Unit))(x0:Int)(x1:Int)(x2:Int)(x3:LI)(x4:LI)(x5:Int):Option (Int×Int×LI×Unit):=
 cond (decide (x5<16))
  (cond ((decide (0≤x5))&&(decide (x5<16)))
   (let l426:LI:=(y8 4 (y9 ((y6 x5)*4) x4))
   cond ((decide (0≤x0))&&(decide (x0<4)))
    (let v429:Int:=(y7 l426 (y6 x0) 0)
    cond ((decide (((ya x3)+1)≤1099511627776))&&true)
     (rec x0 x1 x2 (x3++[v429]) x4 (y0 .i64 (x5+1)))
      none)
     none)
    none)
  (some (x1,x2,x3,()))
def q2k(F:Nat):Nat→Int→Int→Int→LI→LI→Int→Option (Int×Int×LI×Unit)
 |0,_,_,_,_,_,_=>none
 |k+1,x0,x1,x2,x3,x4,x5=>q5p F (q2k F k) x0 x1 x2 x3 x4 x5
def q29(F:Nat)(rec:Int→LI→LI→Int→Int→Option (LI×LI×Unit))(x0:Int)(x1:LI)(x2:LI)(x3:Int)(x4:Int):Option (LI×LI×Unit):=
 cond (decide (x4<x3))
  ((qvs F x4 x0).bind fun r451=>
  cond ((decide (((ya x2)+1)≤1099511627776))&&true)
   (rec x0 x1 (x2++[r451.1]) x3 (y0 .i64 (x4+1)))
    none)
  (some (x1,x2,()))
def q21(F:Nat):Nat→Int→LI→LI→Int→Int→Option (LI×LI×Unit)
 |0,_,_,_,_,_=>none
 |k+1,x0,x1,x2,x3,x4=>q29 F (q21 F k) x0 x1 x2 x3 x4
def q9e(F:Nat)(a0:LI)(a1:Int)(a2:Int)(a3:Int):Option (Int×Unit):=
 (q2k F F a1 a2 a3 [] a0 0).bind fun r434=>
 (q21 F F r434.2.1 r434.2.2.1 [] r434.1 0).bind fun r456=>
 (qb9 F r456.2.1 r456.1).bind fun r459=>
 some (r459.1,())
def q9x(F:Nat)(a0:LI)(a1:Int)(a2:Int):Option (Int×Unit):=
 cond (decide (0≤a2))
  ((q9e F a0 a1 (ishl .i64 1 a2) a2).bind fun r460=>
  some (r460.1,()))
   none
def q3p:LI:=[0,0,0,0,0,0,0,0,0,0,0,0,0,0,0,0]
def qan(F:Nat)(rec:Int→LI→LI→Int→Option (LI×LI×Unit))(x0:Int)(x1:LI)(x2:LI)(x3:Int):Option (LI×LI×Unit):=
 cond (decide (x3<16))
  (cond ((decide (0≤x3))&&(decide (x3<16)))
   (rec x0 x1 (yw x2 (y6 x3) x0) (y0 .i64 (x3+1)))
    none)
  (some (x1,x2,()))
def q4o(F:Nat):Nat→Int→LI→LI→Int→Option (LI×LI×Unit)
 |0,_,_,_,_=>none
 |k+1,x0,x1,x2,x3=>qan F (q4o F k) x0 x1 x2 x3
def q5q(F:Nat)(a0:Int):Option (LI×Unit):=
 (q4o F F a0 q3p q3p 0).bind fun r474=>
 some (r474.2.1,())
def qz2(F:Nat)(a0:LI):Option (LI×Unit):=
 (q9x F a0 0 5).bind fun r774=>
 (q9x F a0 1 6).bind fun r776=>
 (q9x F a0 2 5).bind fun r779=>
 let v780:Int:=(ior .i64 (ior .i64 (ishl .i64 r774.1 11) (ishl .i64 r776.1 5)) r779.1)
 (q5q F 0).bind fun r781=>
 (qb5 F v780 v780 r781.1).bind fun r782=>
 some (r782.1,())
def qqh(F:Nat)(a0:Int):Option (Int×Unit):=
 some (a0,())
def q4z(F:Nat)(rec:Int→Int→LI→LI→Int→Option (Int×LI×Unit))(x0:Int)(x1:Int)(x2:LI)(x3:LI)(x4:Int):Option (Int×LI×Unit):=
 cond (decide (x4<16))
  (cond ((decide (0≤x4))&&(decide (x4<16)))
   (let l862:LI:=(y8 4 (y9 ((y6 x4)*4) x3))
   cond ((decide (0≤x0))&&(decide (x0<4)))
    (let v865:Int:=(y7 l862 (y6 x0) 0)
    cond ((decide (((ya x2)+1)≤1099511627776))&&true)
     (rec x0 x1 (x2++[v865]) x3 (y0 .i64 (x4+1)))
      none)
     none)
    none)
  (some (x1,x2,()))
def q2a(F:Nat):Nat→Int→Int→LI→LI→Int→Option (Int×LI×Unit)
 |0,_,_,_,_,_=>none
 |k+1,x0,x1,x2,x3,x4=>q4z F (q2a F k) x0 x1 x2 x3 x4
def q23(F:Nat)(rec:LI→LI→Int→Int→Option (LI×LI×Unit))(x0:LI)(x1:LI)(x2:Int)(x3:Int):Option (LI×LI×Unit):=
 cond (decide (x3<x2))
  ((qqh F x3).bind fun r887=>
  cond ((decide (((ya x1)+1)≤1099511627776))&&true)
   (rec x0 (x1++[r887.1]) x2 (y0 .i64 (x3+1)))
    none)
  (some (x0,x1,()))
def q1l(F:Nat):Nat→LI→LI→Int→Int→Option (LI×LI×Unit)
 |0,_,_,_,_=>none
 |k+1,x0,x1,x2,x3=>q23 F (q1l F k) x0 x1 x2 x3
def qcj(F:Nat)(a0:LI)(a1:Int)(a2:Int):Option (Int×Unit):=
 (q2a F F a1 a2 [] a0 0).bind fun r870=>
 (q1l F F r870.2.1 [] r870.1 0).bind fun r892=>
 (qb9 F r892.2.1 r892.1).bind fun r895=>
 some (r895.1,())
def qnq(F:Nat)(a0:LI)(a1:Int):Option (Int×Unit):=
 (qcj F a0 a1 256).bind fun r896=>
 some (r896.1,())
def qjh(F:Nat)(a0:LI)(a1:Int):Option (LI×Unit):=
 (qnq F a0 a1).bind fun r921=>
 (q5q F 0).bind fun r922=>
 (q6w F r921.1 r921.1 r922.1).bind fun r923=>
 some (r923.1,())
def qmj(F:Nat)(a0:Int)(a1:Int):Option (Int×Unit):=
 some ((y0 .i64 ((y0 .i64 (2*a0))+a1)),())
def q3w(F:Nat)(rec:Int→Int→Int→LI→LI→Int→Option (Int×Int×LI×Unit))(x0:Int)(x1:Int)(x2:Int)(x3:LI)(x4:LI)(x5:Int):Option (Int×Int×LI×Unit):=
 cond (decide (x5<16))
  (cond ((decide (0≤x5))&&(decide (x5<16)))
   (let l1020:LI:=(y8 4 (y9 ((y6 x5)*4) x4))
   cond ((decide (0≤x0))&&(decide (x0<4)))
    (let v1023:Int:=(y7 l1020 (y6 x0) 0)
    cond ((decide (((ya x3)+1)≤1099511627776))&&true)
     (rec x0 x1 x2 (x3++[v1023]) x4 (y0 .i64 (x5+1)))
      none)
     none)
    none)
  (some (x1,x2,x3,()))
def q24(F:Nat):Nat→Int→Int→Int→LI→LI→Int→Option (Int×Int×LI×Unit)
 |0,_,_,_,_,_,_=>none
 |k+1,x0,x1,x2,x3,x4,x5=>q3w F (q24 F k) x0 x1 x2 x3 x4 x5
def q1x(F:Nat)(rec:Int→LI→LI→Int→Int→Option (LI×LI×Unit))(x0:Int)(x1:LI)(x2:LI)(x3:Int)(x4:Int):Option (LI×LI×Unit):=
 cond (decide (x4<x3))
  ((qmj F x4 x0).bind fun r1045=>
  cond ((decide (((ya x2)+1)≤1099511627776))&&true)
   (rec x0 x1 (x2++[r1045.1]) x3 (y0 .i64 (x4+1)))
    none)
  (some (x1,x2,()))
def q1e(F:Nat):Nat→Int→LI→LI→Int→Int→Option (LI×LI×Unit)
 |0,_,_,_,_,_=>none
 |k+1,x0,x1,x2,x3,x4=>q1x F (q1e F k) x0 x1 x2 x3 x4
def q70(F:Nat)(a0:LI)(a1:Int)(a2:Int)(a3:Int):Option (Int×Unit):=
 (q24 F F a1 a2 a3 [] a0 0).bind fun r1028=>
 (q1e F F r1028.2.1 r1028.2.2.1 [] r1028.1 0).bind fun r1050=>
 (qb9 F r1050.2.1 r1050.1).bind fun r1053=>
 some (r1053.1,())
def qck(F:Nat)(rec:LI→Int→LI→Int→Option (Int×LI×Unit))(x0:LI)(x1:Int)(x2:LI)(x3:Int):Option (Int×LI×Unit):=
 cond (decide (x3<4))
  ((q70 F x0 x3 128 x1).bind fun r1243=>
  cond ((decide (0≤x3))&&(decide (x3<4)))
   (rec x0 x1 (yw x2 (y6 x3) r1243.1) (y0 .i64 (x3+1)))
    none)
  (some (x1,x2,()))
def q61(F:Nat):Nat→LI→Int→LI→Int→Option (Int×LI×Unit)
 |0,_,_,_,_=>none
 |k+1,x0,x1,x2,x3=>qck F (q61 F k) x0 x1 x2 x3
def qji(F:Nat)(a0:Int)(a1:LI):Option (LI×Unit):=
 (q61 F F a1 a0 [0,0,0,0] 0).bind fun r1248=>
 (q5q F 0).bind fun r1250=>
 (q4g F (r1248.2.1++r1248.2.1) [r1248.1,r1248.1] r1250.1).bind fun r1251=>
 some (r1251.1,())
def qjj(F:Nat)(a0:Int)(a1:LI)(a2:LI)(a3:LI):Option (LI×Unit):=
 (q6p F a0 a2 a1).bind fun r4705=>
 (q6p F a0 a3 a1).bind fun r4706=>
 cond (decide (r4706.1<r4705.1))
  (some (a3,()))
  (some (a2,()))
def zov(F:Nat)(a0:LI):Option (LI×Unit):=
 (qji F 0 a0).bind fun r4710=>
 (qji F 1 a0).bind fun r4712=>
 (qjj F 6 a0 r4710.1 r4712.1).bind fun r4714=>
 some (r4714.1,())
def z0g(F:Nat)(a0:Int):Option (Int×Unit):=
 (q0l F a0 5).bind fun r4750=>
 (q20 F (y0 .i64 (r4750.1+2)) 255).bind fun r4752=>
 some (r4752.1,())
def qcl(F:Nat)(rec:Int→Int→LI→LI→Int→Option (Int×LI×Unit))(x0:Int)(x1:Int)(x2:LI)(x3:LI)(x4:Int):Option (Int×LI×Unit):=
 cond (decide (x4<16))
  (cond ((decide (0≤x4))&&(decide (x4<16)))
   (let l4794:LI:=(y8 4 (y9 ((y6 x4)*4) x3))
   cond ((decide (0≤x0))&&(decide (x0<4)))
    (let v4797:Int:=(y7 l4794 (y6 x0) 0)
    cond ((decide (((ya x2)+1)≤1099511627776))&&true)
     (rec x0 x1 (x2++[v4797]) x3 (y0 .i64 (x4+1)))
      none)
     none)
    none)
  (some (x1,x2,()))
def q50(F:Nat):Nat→Int→Int→LI→LI→Int→Option (Int×LI×Unit)
 |0,_,_,_,_,_=>none
 |k+1,x0,x1,x2,x3,x4=>qcl F (q50 F k) x0 x1 x2 x3 x4
def qcm(F:Nat)(rec:LI→LI→Int→Int→Option (LI×LI×Unit))(x0:LI)(x1:LI)(x2:Int)(x3:Int):Option (LI×LI×Unit):=
 cond (decide (x3<x2))
  ((z0g F x3).bind fun r4819=>
  cond ((decide (((ya x1)+1)≤1099511627776))&&true)
   (rec x0 (x1++[r4819.1]) x2 (y0 .i64 (x3+1)))
    none)
  (some (x0,x1,()))
def q51(F:Nat):Nat→LI→LI→Int→Int→Option (LI×LI×Unit)
 |0,_,_,_,_=>none
 |k+1,x0,x1,x2,x3=>qcm F (q51 F k) x0 x1 x2 x3
def qjk(F:Nat)(a0:LI)(a1:Int)(a2:Int):Option (Int×Unit):=
 (q50 F F a1 a2 [] a0 0).bind fun r4802=>
 (q51 F F r4802.2.1 [] r4802.1 0).bind fun r4824=>
 (qb9 F r4824.2.1 r4824.1).bind fun r4827=>
 some (r4827.1,())
def qvt(F:Nat)(rec:LI→LI→LI→LI→LI→Int→Option (LI×LI×LI×LI×Unit))(x0:LI)(x1:LI)(x2:LI)(x3:LI)(x4:LI)(x5:Int):Option (LI×LI×LI×LI×Unit):=
 cond (decide (x5<3))
  ((qjk F x0 x5 32).bind fun r5359=>
  cond ((decide (0≤x5))&&(decide (x5<3)))
   (rec x0 (yw x1 (y6 x5) r5359.1) x2 x3 x4 (y0 .i64 (x5+1)))
    none)
  (some (x1,x2,x3,x4,()))
def qfd(F:Nat):Nat→LI→LI→LI→LI→LI→Int→Option (LI×LI×LI×LI×Unit)
 |0,_,_,_,_,_,_=>none
 |k+1,x0,x1,x2,x3,x4,x5=>qvt F (qfd F k) x0 x1 x2 x3 x4 x5
def zfn(F:Nat)(a0:LI):Option (LI×Unit):=
 (qfd F F a0 [0,0,0] [0,0,0] [0,0] q3p 0).bind fun r5364=>
 (zfh F (true,false,r5364.1,r5364.2.1,r5364.2.2.1,r5364.2.2.2.1,())).bind fun r5365=>
 some (r5365.1,())
def qqi(F:Nat)(a0:LI):Option (LI×Unit):=
 (q9x F a0 0 6).bind fun r5758=>
 (q9x F a0 1 7).bind fun r5759=>
 (q9x F a0 2 6).bind fun r5760=>
 (znm F [r5758.1,r5759.1,r5760.1] [r5758.1,r5759.1,r5760.1] [r5758.1,r5759.1,r5760.1]).bind fun r5761=>
 some (r5761.1,())
def zfo:LI:=[0,0,0,0,255,255,0,0]
def z3x(F:Nat)(a0:Int):Option (Int×Unit):=
 (zfm F a0 1 0 true).bind fun r5962=>
 some (r5962.1,())
def qdv(F:Nat)(rec:Int→Int→LI→LI→Int→Option (Int×LI×Unit))(x0:Int)(x1:Int)(x2:LI)(x3:LI)(x4:Int):Option (Int×LI×Unit):=
 cond (decide (x4<16))
  (cond ((decide (0≤x4))&&(decide (x4<16)))
   (let l6004:LI:=(y8 4 (y9 ((y6 x4)*4) x3))
   cond ((decide (0≤x0))&&(decide (x0<4)))
    (let v6007:Int:=(y7 l6004 (y6 x0) 0)
    cond ((decide (((ya x2)+1)≤1099511627776))&&true)
     (rec x0 x1 (x2++[v6007]) x3 (y0 .i64 (x4+1)))
      none)
     none)
    none)
  (some (x1,x2,()))
def q5r(F:Nat):Nat→Int→Int→LI→LI→Int→Option (Int×LI×Unit)
 |0,_,_,_,_,_=>none
 |k+1,x0,x1,x2,x3,x4=>qdv F (q5r F k) x0 x1 x2 x3 x4
def qdw(F:Nat)(rec:LI→LI→Int→Int→Option (LI×LI×Unit))(x0:LI)(x1:LI)(x2:Int)(x3:Int):Option (LI×LI×Unit):=
 cond (decide (x3<x2))
  ((z3x F x3).bind fun r6029=>
  cond ((decide (((ya x1)+1)≤1099511627776))&&true)
   (rec x0 (x1++[r6029.1]) x2 (y0 .i64 (x3+1)))
    none)
  (some (x0,x1,()))
def q5s(F:Nat):Nat→LI→LI→Int→Int→Option (LI×LI×Unit)
 |0,_,_,_,_=>none
 |k+1,x0,x1,x2,x3=>qdw F (q5s F k) x0 x1 x2 x3
def ql7(F:Nat)(a0:LI)(a1:Int)(a2:Int):Option (Int×Unit):=
 (q5r F F a1 a2 [] a0 0).bind fun r6012=>
 (q5s F F r6012.2.1 [] r6012.1 0).bind fun r6034=>
 (qb9 F r6034.2.1 r6034.1).bind fun r6037=>
 some (r6037.1,())
def qz3(F:Nat)(a0:LI)(a1:Int):Option (LI×Unit):=
 (ql7 F a0 a1 256).bind fun r6042=>
 (q5q F 4).bind fun r6043=>
 (zou F r6042.1 1 13 r6043.1).bind fun r6044=>
 some (r6044.1,())
def q2l(F:Nat)(a0:Int)(a1:LI):Option (LI×Unit):=
 let b6058:Bool:=(a0==2)
 cond b6058
  ((q9x F a1 3 4).bind fun r6059=>
  (q5q F r6059.1).bind fun r6060=>
  (q3m F r6060.1).bind fun r6061=>
  let n6062:Nat:=(ya r6061.1)
  (qz2 F a1).bind fun r6063=>
  let n6064:Nat:=(ya r6063.1)
  cond ((decide ((n6062+n6064)≤1099511627776))&&true)
   (some ((r6061.1++r6063.1),()))
    none)
  (let b6068:Bool:=(a0==3)
  cond b6068
   ((qjh F a1 3).bind fun r6069=>
   let n6070:Nat:=(ya r6069.1)
   (qz2 F a1).bind fun r6071=>
   let n6072:Nat:=(ya r6071.1)
   cond ((decide ((n6070+n6072)≤1099511627776))&&true)
    (some ((r6069.1++r6071.1),()))
     none)
   (let b6076:Bool:=(a0==4)
   cond b6076
    ((qjh F a1 0).bind fun r6077=>
    some (r6077.1,()))
    (let b6079:Bool:=(a0==5)
    cond b6079
     ((qjh F a1 0).bind fun r6080=>
     let n6081:Nat:=(ya r6080.1)
     (qjh F a1 1).bind fun r6082=>
     let n6083:Nat:=(ya r6082.1)
     cond ((decide ((n6081+n6083)≤1099511627776))&&true)
      (some ((r6080.1++r6082.1),()))
       none)
     (let b6087:Bool:=(a0==6)
     cond b6087
      ((zov F a1).bind fun r6088=>
      some (r6088.1,()))
      (let b6090:Bool:=(a0==7)
      cond b6090
       ((zfn F a1).bind fun r6091=>
       some (r6091.1,()))
       (let b6093:Bool:=(a0==8)
       cond b6093
        ((qqi F a1).bind fun r6094=>
        some (r6094.1,()))
        (let b6096:Bool:=(a0==9)
        cond b6096
         ((qqi F a1).bind fun r6097=>
         (qjj F a0 a1 r6097.1 zfo).bind fun r6099=>
         some (r6099.1,()))
         (let b6101:Bool:=(a0==10)
         cond b6101
          ((qnq F a1 3).bind fun r6102=>
          (q5q F 0).bind fun r6103=>
          (zou F r6102.1 0 0 r6103.1).bind fun r6104=>
          let n6105:Nat:=(ya r6104.1)
          (qqi F a1).bind fun r6106=>
          let n6107:Nat:=(ya r6106.1)
          cond ((decide ((n6105+n6107)≤1099511627776))&&true)
           (some ((r6104.1++r6106.1),()))
            none)
          (let b6111:Bool:=(a0==11)
          cond b6111
           ((qz3 F a1 0).bind fun r6112=>
           some (r6112.1,()))
           (let b6114:Bool:=(a0==12)
           cond b6114
            ((qz3 F a1 0).bind fun r6115=>
            let n6116:Nat:=(ya r6115.1)
            (qz3 F a1 1).bind fun r6117=>
            let n6118:Nat:=(ya r6117.1)
            cond ((decide ((n6116+n6118)≤1099511627776))&&true)
             (some ((r6115.1++r6117.1),()))
              none)
            ((qz2 F a1).bind fun r6122=>
            some (r6122.1,()))))))))))))
def q5h(F:Nat)(a0:Int)(a1:LI):Option (LI×Int×Unit):=
 (q8k F a0).bind fun r6126=>
 cond (r6126.2.1 !=0)
  (some ([],r6126.2.1,()))
  ((qb8 F a1).bind fun r6128=>
  cond (!r6128.1)
   (some ([],1,()))
   ((qg7 F a0 a1).bind fun r6130=>
   (q2l F a0 r6130.1).bind fun r6131=>
   some (r6131.1,0,())))
def qfe(F:Nat)(rec:Int→LI→LI→Int→Option (Int×LI×Unit))(x0:Int)(x1:LI)(x2:LI)(x3:Int):Option (Int×LI×Unit):=
 cond (decide (x3<16))
  (cond ((decide (0≤x3))&&(decide (x3<16)))
   (let n6166:Nat:=((y6 x3)*4)
   rec x0 x1 (((y8 n6166 x2)++x1)++(y9 (n6166+4) x2)) (y0 .i64 (x3+1)))
    none)
  (some (x0,x2,()))
def q9f(F:Nat):Nat→Int→LI→LI→Int→Option (Int×LI×Unit)
 |0,_,_,_,_=>none
 |k+1,x0,x1,x2,x3=>qfe F (q9f F k) x0 x1 x2 x3
def qba(F:Nat)(a0:Int)(a1:LI):Option (Bool×Unit):=
 (q9f F F a0 a1 q2i 0).bind fun r6169=>
 (q5h F r6169.1 r6169.2.1).bind fun r6170=>
 cond (r6170.2.1 !=0)
  (some (false,()))
  ((q6p F r6169.1 r6170.1 r6169.2.1).bind fun r6173=>
  some ((r6173.1==0),()))
def qcn(F:Nat)(rec:LI→LI→Int→Int→Bool→Int→Int→Bool→Option (LI×LI×Int×Int×Bool×Int×Bool×Unit))(x0:LI)(x1:LI)(x2:Int)(x3:Int)(x4:Bool)(x5:Int)(x6:Int)(x7:Bool):Option (LI×LI×Int×Int×Bool×Int×Bool×Unit):=
 cond (decide (x6<4))
  (let b6381:Bool:=((decide (0≤x5))&&(decide (x5<16)))
  cond b6381
   (let b6383:Bool:=((decide (0≤x6))&&(decide (x6<4)))
   cond b6383
    (let n6384:Nat:=(((y6 x5)*4)+(y6 x6))
    let v6385:Int:=(y7 x0 n6384 0)
    cond b6381
     (cond b6383
      (cond b6381
       (cond b6383
        (rec (yw x0 n6384 (y0 .i64 ((y0 .i64 (8*v6385))+(y0 .i64 (yv v6385 32))))) x1 x2 x3 x4 x5 (y0 .i64 (x6+1)) x7)
         none)
        none)
       none)
      none)
     none)
    none)
  (some (x0,x1,x2,x3,x4,x5,x7,()))
def q7p(F:Nat):Nat→LI→LI→Int→Int→Bool→Int→Int→Bool→Option (LI×LI×Int×Int×Bool×Int×Bool×Unit)
 |0,_,_,_,_,_,_,_,_=>none
 |k+1,x0,x1,x2,x3,x4,x5,x6,x7=>qcn F (q7p F k) x0 x1 x2 x3 x4 x5 x6 x7
def qco(F:Nat)(rec:LI→LI→Int→Int→Bool→Int→Option (LI×LI×Unit))(x0:LI)(x1:LI)(x2:Int)(x3:Int)(x4:Bool)(x5:Int):Option (LI×LI×Unit):=
 cond (decide (x5<16))
  (cond x4
   ((q7p F F x0 x1 x2 x3 x4 x5 0 x4).bind fun r6391=>
   rec r6391.1 r6391.2.1 r6391.2.2.1 r6391.2.2.2.1 r6391.2.2.2.2.1 (y0 .i64 (r6391.2.2.2.2.2.1+1)))
   (some (x0,x1,())))
  (some (x0,x1,()))
def q7q(F:Nat):Nat→LI→LI→Int→Int→Bool→Int→Option (LI×LI×Unit)
 |0,_,_,_,_,_,_=>none
 |k+1,x0,x1,x2,x3,x4,x5=>qco F (q7q F k) x0 x1 x2 x3 x4 x5
def qqj(F:Nat)(a0:Int)(a1:LI):Option (LI×Unit):=
 (qz1 F a0).bind fun r6318=>
 (q7q F F a1 q2i r6318.1.1 r6318.1.2.1 r6318.1.2.2.1 0).bind fun r6393=>
 some (r6393.1,())
def qff(F:Nat)(rec:Int→LI→LI→LI→Int→Option (LI×LI×Unit))(x0:Int)(x1:LI)(x2:LI)(x3:LI)(x4:Int):Option (LI×LI×Unit):=
 cond (decide (x4<16))
  (let b8409:Bool:=((decide (0≤x4))&&(decide (x4<16)))
  cond b8409
   (cond b8409
    (cond ((decide (0≤x0))&&(decide (x0<4)))
     (rec x0 (yw x1 (((y6 x4)*4)+(y6 x0)) (y7 x2 (y6 x4) 0)) x2 x3 (y0 .i64 (x4+1)))
      none)
     none)
    none)
  (some (x1,x3,()))
def q9g(F:Nat):Nat→Int→LI→LI→LI→Int→Option (LI×LI×Unit)
 |0,_,_,_,_,_=>none
 |k+1,x0,x1,x2,x3,x4=>qff F (q9g F k) x0 x1 x2 x3 x4
def q14(F:Nat)(a0:LI)(a1:LI)(a2:Int):Option (LI×Unit):=
 (q9g F F a2 a0 a1 q2i 0).bind fun r8417=>
 some (r8417.1,())
def qvu(F:Nat)(rec:Int→LI→LI→Int→Option (LI×LI×Unit))(x0:Int)(x1:LI)(x2:LI)(x3:Int):Option (LI×LI×Unit):=
 cond (decide (x3<16))
  (cond ((decide (0≤x3))&&(decide (x3<16)))
   (rec x0 x1 (yw x2 (3+((y6 x3)*4)) x0) (y0 .i64 (x3+1)))
    none)
  (some (x1,x2,()))
def qfg(F:Nat):Nat→Int→LI→LI→Int→Option (LI×LI×Unit)
 |0,_,_,_,_=>none
 |k+1,x0,x1,x2,x3=>qvu F (qfg F k) x0 x1 x2 x3
def q4p(F:Nat)(a0:Int):Option (LI×Unit):=
 (qfg F F a0 q2i q2i 0).bind fun r8436=>
 some (r8436.2.1,())
def qvv(F:Nat)(rec:LI→LI→LI→Int→Option (LI×LI×LI×Unit))(x0:LI)(x1:LI)(x2:LI)(x3:Int):Option (LI×LI×LI×Unit):=
 cond (decide (x3<16))
  ((q2w F x0 (y0 .i64 (16+(y0 .i64 (3*(y0 .i64 ((y0 .i64 (4*(yu x3 4)))+(y0 .i64 (yv x3 4)))))))) 3).bind fun r13166=>
  cond ((decide (0≤x3))&&(decide (x3<16)))
   (rec x0 x1 (yw x2 (y6 x3) r13166.1) (y0 .i64 (x3+1)))
    none)
  (some (x0,x1,x2,()))
def qfh(F:Nat):Nat→LI→LI→LI→Int→Option (LI×LI×LI×Unit)
 |0,_,_,_,_=>none
 |k+1,x0,x1,x2,x3=>qvv F (qfh F k) x0 x1 x2 x3
def zfp(F:Nat)(a0:LI):Option (Int×Int×Int×LI×Int×Unit):=
 cond ((((ya a0):Nat):Int) !=8)
  (some (0,0,0,q3p,1,()))
  ((qfh F F a0 q3p q3p 0).bind fun r13171=>
  (q2w F r13171.1 0 8).bind fun r13173=>
  (q2w F r13171.1 8 4).bind fun r13174=>
  (q2w F r13171.1 12 4).bind fun r13175=>
  some (r13173.1,r13174.1,r13175.1,r13171.2.2.1,0,()))
def qnr:LI:=[-3,-6,-9,-15,2,5,8,14,-3,-7,-10,-13,2,6,9,12,-2,-5,-8,-13,1,4,7,12,-2,-4,-6,-13,1,3,5,12,-3,-6,-8,-12,2,5,7,11,-3,-7,-9,-11,2,6,8,10,-4,-7,-8,-11,3,6,7,10,-3,-5,-8,-11,2,4,7,10,-2,-6,-8,-10,1,5,7,9,-2,-5,-8,-10,1,4,7,9,-2,-4,-8,-10,1,3,7,9,-2,-5,-7,-10,1,4,6,9,-3,-4,-7,-10,2,3,6,9,-1,-2,-3,-10,0,1,2,9,-4,-6,-8,-9,3,5,7,8,-3,-5,-7,-9,2,4,6,8]
def zfq(F:Nat)(a0:Int):Option (LI×Unit):=
 let v13179:Int:=(yu a0 16)
 cond (decide (v13179<0))
  (let v13181:Int:=(y0 .i64 (v13179+16))
  cond ((decide (0≤v13181))&&(decide (v13181<16)))
   (some ((y8 8 (y9 ((y6 v13181)*8) qnr)),()))
    none)
  (cond ((decide (0≤v13179))&&(decide (v13179<16)))
   (some ((y8 8 (y9 ((y6 v13179)*8) qnr)),()))
    none)
def zfr(F:Nat)(a0:Int)(a1:Int)(a2:Int)(a3:Bool):Option (Int×Unit):=
 cond (!a3)
  ((qec F (y0 .i64 (a0+(y0 .i64 (a2*a1)))) 255).bind fun r13212=>
  some (r13212.1,()))
  (cond (a1==0)
   ((qec F (y0 .i64 ((y0 .i64 ((y0 .i64 (8*a0))+4))+(y0 .i64 (a2*1)))) 2047).bind fun r13219=>
   some (r13219.1,()))
   ((qec F (y0 .i64 ((y0 .i64 ((y0 .i64 (8*a0))+4))+(y0 .i64 (a2*(y0 .i64 (8*a1)))))) 2047).bind fun r13224=>
   some (r13224.1,())))
def qs1(F:Nat)(rec:Bool→LI→Int→Int→Int→LI→Int→Option (LI×LI×Unit))(x0:Bool)(x1:LI)(x2:Int)(x3:Int)(x4:Int)(x5:LI)(x6:Int):Option (LI×LI×Unit):=
 cond (decide (x6<16))
  ((zfq F x4).bind fun r13238=>
  let b13239:Bool:=((decide (0≤x6))&&(decide (x6<16)))
  cond b13239
   (let v13241:Int:=(y7 x5 (y6 x6) 0)
   cond ((decide (0≤v13241))&&(decide (v13241<8)))
    ((zfr F x2 x3 (y7 r13238.1 (y6 v13241) 0) x0).bind fun r13244=>
    cond b13239
     (rec x0 x1 x2 x3 x4 (yw x5 (y6 x6) r13244.1) (y0 .i64 (x6+1)))
      none)
     none)
    none)
  (some (x1,x5,()))
def qcp(F:Nat):Nat→Bool→LI→Int→Int→Int→LI→Int→Option (LI×LI×Unit)
 |0,_,_,_,_,_,_,_=>none
 |k+1,x0,x1,x2,x3,x4,x5,x6=>qs1 F (qcp F k) x0 x1 x2 x3 x4 x5 x6
def q8m(F:Nat)(a0:LI)(a1:Bool):Option (LI×Int×Unit):=
 (zfp F a0).bind fun r13176=>
 cond (r13176.2.2.2.2.1 !=0)
  (some (r13176.2.2.2.1,r13176.2.2.2.2.1,()))
  ((qcp F F a1 q3p r13176.1 r13176.2.1 r13176.2.2.1 r13176.2.2.2.1 0).bind fun r13247=>
  some (r13247.2.1,0,()))
def ql8(F:Nat)(a0:Int)(a1:LI):Option (LI×Int×Unit):=
 (qz1 F a0).bind fun r8143=>
 cond (r8143.2.1 !=0)
  (some (q2i,r8143.2.1,()))
  (let v8145:Int:=(((ya a1):Nat):Int)
  cond (v8145 !=r8143.1.1)
   (some (q2i,1,()))
   (cond (decide (8≤(ya a1)))
    (let v8148:Int:=(y0 .i64 (v8145-8))
    cond ((decide (0≤v8148))&&((decide ((y6 v8148)≤(ya a1)))&&true))
     (let l8257:LI:=(y8 8 a1)
     (qfx F l8257).bind fun r8258=>
     let l8259:LI:=(y8 (psub (ya a1) (y6 v8148)) (y9 (y6 v8148) a1))
     (qfx F l8259).bind fun r8260=>
     cond (a0==1)
      ((q44 F a1 false).bind fun r8365=>
      some (r8365.1,r8365.2.1,()))
      (cond (a0==2)
       ((q44 F l8259 true).bind fun r8367=>
       (qjc F l8257).bind fun r8394=>
       (q14 F r8367.1 r8394.1 3).bind fun r8418=>
       some (r8418.1,0,()))
       (cond (a0==3)
        ((q44 F l8259 true).bind fun r8420=>
        (q14 F r8420.1 r8258.1 3).bind fun r8421=>
        some (r8421.1,0,()))
        (cond (a0==4)
         ((q4p F 255).bind fun r8437=>
         (q14 F r8437.1 r8258.1 0).bind fun r8438=>
         some (r8438.1,0,()))
         (cond (a0==5)
          ((q4p F 255).bind fun r8440=>
          (q14 F r8440.1 r8258.1 0).bind fun r8441=>
          (q14 F r8441.1 r8260.1 1).bind fun r8442=>
          some (r8442.1,0,()))
          (cond (a0==6)
           ((qg3 F a1).bind fun r12176=>
           some (r12176.1,r12176.2.1,()))
           (cond (a0==7)
            ((qvm F a1).bind fun r12480=>
            some (r12480.1,r12480.2.1,()))
            (cond (a0==8)
             ((q8i F a1 false).bind fun r13133=>
             some (r13133.1,r13133.2.1,()))
             (cond (a0==9)
              ((q8i F a1 true).bind fun r13135=>
              some (r13135.1,r13135.2.1,()))
              (cond (a0==10)
               ((q8i F l8259 false).bind fun r13137=>
               (q8m F l8257 false).bind fun r13248=>
               (q14 F r13137.1 r13248.1 3).bind fun r13249=>
               some (r13249.1,0,()))
               ((q8m F l8257 true).bind fun r13250=>
               (q8m F l8259 true).bind fun r13251=>
               cond (a0==11)
                ((q4p F 2047).bind fun r13253=>
                (q14 F r13253.1 r13250.1 0).bind fun r13254=>
                some (r13254.1,0,()))
                ((q4p F 2047).bind fun r13255=>
                (q14 F r13255.1 r13250.1 0).bind fun r13256=>
                (q14 F r13256.1 r13251.1 1).bind fun r13257=>
                some (r13257.1,0,())))))))))))))
      none)
     none))
def qcq(F:Nat)(rec:Int→LI→LI→Int→Int→Int→Option (Int×LI×LI×Int×Int×Unit))(x0:Int)(x1:LI)(x2:LI)(x3:Int)(x4:Int)(x5:Int):Option (Int×LI×LI×Int×Int×Unit):=
 cond (decide (x5<4))
  ((qjb F x0 16).bind fun r13365=>
  (qau F x5).bind fun r13366=>
  cond (!(r13366.1==0))
   (cond ((yu (y0 .i64 (yv r13365.1 r13366.1)) 2)==1)
    (let b13371:Bool:=((decide (0≤x4))&&(decide (x4<16)))
    cond b13371
     (let b13373:Bool:=((decide (0≤x5))&&(decide (x5<4)))
     cond b13373
      (let n13374:Nat:=(((y6 x4)*4)+(y6 x5))
      cond b13371
       (cond b13373
        ((qjd F (y0 .i64 ((y7 x1 n13374 0)-(y7 x2 n13374 0)))).bind fun r13378=>
        rec x0 x1 x2 (y0 .i64 (x3+r13378.1)) x4 (y0 .i64 (x5+1)))
         none)
        none)
       none)
      none)
    (rec x0 x1 x2 x3 x4 (y0 .i64 (x5+1))))
    none)
  (some (x0,x1,x2,x3,x4,()))
def q7r(F:Nat):Nat→Int→LI→LI→Int→Int→Int→Option (Int×LI×LI×Int×Int×Unit)
 |0,_,_,_,_,_,_=>none
 |k+1,x0,x1,x2,x3,x4,x5=>qcq F (q7r F k) x0 x1 x2 x3 x4 x5
def qcr(F:Nat)(rec:Int→LI→LI→Int→Int→Option (Int×Unit))(x0:Int)(x1:LI)(x2:LI)(x3:Int)(x4:Int):Option (Int×Unit):=
 cond (decide (x4<16))
  ((q7r F F x0 x1 x2 x3 x4 0).bind fun r13382=>
  rec r13382.1 r13382.2.1 r13382.2.2.1 r13382.2.2.2.1 (y0 .i64 (r13382.2.2.2.2.1+1)))
  (some (x3,()))
def q7s(F:Nat):Nat→Int→LI→LI→Int→Int→Option (Int×Unit)
 |0,_,_,_,_,_=>none
 |k+1,x0,x1,x2,x3,x4=>qcr F (q7s F k) x0 x1 x2 x3 x4
def z2g(F:Nat)(a0:LI)(a1:LI)(a2:Int):Option (Int×Unit):=
 (q7s F F a2 a0 a1 0 0).bind fun r13384=>
 some (r13384.1,())
def qqk(F:Nat)(a0:Int)(a1:LI)(a2:LI):Option (Int×Int×Unit):=
 (ql8 F a0 a1).bind fun r13258=>
 cond (r13258.2.1 !=0)
  (some (0,r13258.2.1,()))
  ((qz1 F a0).bind fun r13260=>
  (qqj F a0 a2).bind fun r13261=>
  (z2g F r13261.1 r13258.1 r13260.1.2.1).bind fun r13385=>
  some (r13385.1,0,()))
def q12:LI:=[0,0,0,0,0,0,0,0,0,0,0,0,0,0,0,0,0,0,0,0,0,0,0,0,0,0,0,0,0,0,0,0,0,0,0,0,0,0,0,0,0,0,0,0,0,0,0,0,0,0,0,0,0,0,0,0,0,0,0,0,0,0,0,0]
def qie(F:Nat)(rec:Int→LI→LI→LI→LI→Int→Option (LI×LI×Unit))(x0:Int)(x1:LI)(x2:LI)(x3:LI)(x4:LI)(x5:Int):Option (LI×LI×Unit):=
 cond (decide (x5<16))
  (let b256019:Bool:=((decide (0≤x5))&&(decide (x5<16)))
  cond b256019
   (let n256020:Nat:=((y6 x5)*4)
   let l256021:LI:=(((y8 n256020 x4)++x1)++(y9 (n256020+4) x4))
   cond ((iand .i64 x0 1)==1)
    (cond b256019
     (rec (ishr .i64 x0 1) x1 x2 x3 (((y8 n256020 l256021)++x2)++(y9 (n256020+4) l256021)) (y0 .i64 (x5+1)))
      none)
    (rec (ishr .i64 x0 1) x1 x2 x3 l256021 (y0 .i64 (x5+1))))
    none)
  (some (x3,x4,()))
def q8n(F:Nat):Nat→Int→LI→LI→LI→LI→Int→Option (LI×LI×Unit)
 |0,_,_,_,_,_,_=>none
 |k+1,x0,x1,x2,x3,x4,x5=>qie F (q8n F k) x0 x1 x2 x3 x4 x5
def qg8(F:Nat)(a0:LI)(a1:LI)(a2:Int):Option (LI×Unit):=
 (q8n F F a2 a0 a1 q12 q12 0).bind fun r256029=>
 some (r256029.2.1,())
def qfi(F:Nat)(a0:LI):Option (List (LI×LI)):=some (znj a0)
def q9h(F:Nat)(rec:LI→LI→Int→Int→Int→Option (Int×Unit))(x0:LI)(x1:LI)(x2:Int)(x3:Int)(x4:Int):Option (Int×Unit):=
 cond (decide (x4<x3))
  (let b256063:Bool:=((decide (0≤x4))&&(decide (x4<4)))
  cond b256063
   (cond b256063
    (let v256067:Int:=(y0 .i64 ((y7 x0 (y6 x4) 0)-(y7 x1 (y6 x4) 0)))
    cond b256063
     (cond b256063
      (rec x0 x1 (y0 .i64 (x2+(y0 .i64 (v256067*v256067)))) x3 (y0 .i64 (x4+1)))
       none)
      none)
     none)
    none)
  (some (x2,()))
def q8o(F:Nat):Nat→LI→LI→Int→Int→Int→Option (Int×Unit)
 |0,_,_,_,_,_=>none
 |k+1,x0,x1,x2,x3,x4=>q9h F (q8o F k) x0 x1 x2 x3 x4
def qjl(F:Nat)(a0:LI)(a1:LI)(a2:Int):Option (Int×Unit):=
 (q8o F F a0 a1 0 a2 0).bind fun r256071=>
 some (r256071.1,())
def q7t(F:Nat)(x:LI×LI)(x0:Int)(x1:LI)(x2:LI)(x3:LI)(x4:LI):Option ((Int×LI×LI×LI×LI×Unit)⊕Unit):=
 (qjl F x.1 x.2 x0).bind fun r256075=>
 (qjl F x3 x4 x0).bind fun r256076=>
 cond (decide (r256076.1<r256075.1))
  (some (.inl (x0,x1,x2,x.1,x.2,())))
  (some (.inl (x0,x1,x2,x3,x4,())))
def q6q(F:Nat)(a0:LI)(a1:Int):Option (LI×LI×Unit):=
 let l256046:LI:=(y8 4 a0)
 (qfi F a0).bind fun l256078=>
 (runL (fun x=>u5 (q7t F x)) l256078 (a1,[0,0,0,0],[0,0,0,0],l256046,l256046,())).bind fun r256079=>match r256079 with
  | .inl r256079=>(some (r256079.2.2.2.1,r256079.2.2.2.2.1,()))
  | .inr r256079=>none
def q1w:LI:=[0,0,0,0,0,0,0,0,0,0,0,0,0,0,0,0]
def qg9(F:Nat)(a0:LI)(a1:LI):Option (Int×Unit):=
 (qjl F a1 a0 3).bind fun r256108=>
 some (r256108.1,())
def q0m(F:Nat)(rec:LI→LI→Int→Int→Int→Option (Int×Unit))(x0:LI)(x1:LI)(x2:Int)(x3:Int)(x4:Int):Option (Int×Unit):=
 let n256185:Nat:=((ya x0)/4)
 cond (decide (x4<x3))
  (cond ((decide (0≤x4))&&(decide (x4<((n256185:Nat):Int))))
   (cond ((decide (0≤x2))&&(decide (x2<((n256185:Nat):Int))))
    ((qg9 F (y8 4 (y9 ((y6 x4)*4) x0)) x1).bind fun r256193=>
    (qg9 F (y8 4 (y9 ((y6 x2)*4) x0)) x1).bind fun r256194=>
    cond (decide (r256193.1<r256194.1))
     (rec x0 x1 x4 x3 (y0 .i64 (x4+1)))
     (rec x0 x1 x2 x3 (y0 .i64 (x4+1))))
     none)
    none)
  (some (x2,()))
def q0b(F:Nat):Nat→LI→LI→Int→Int→Int→Option (Int×Unit)
 |0,_,_,_,_,_=>none
 |k+1,x0,x1,x2,x3,x4=>q0m F (q0b F k) x0 x1 x2 x3 x4
def q22(F:Nat)(a0:LI)(a1:LI):Option (Int×Unit):=
 (q0b F F a0 a1 0 ((((ya a0)/4):Nat):Int) 0).bind fun r256198=>
 some (r256198.1,())
def qif(F:Nat)(rec:Int→Int→LI→LI→LI→Int→Option (Int×Int×LI×Unit))(x0:Int)(x1:Int)(x2:LI)(x3:LI)(x4:LI)(x5:Int):Option (Int×Int×LI×Unit):=
 cond (decide (x5<16))
  (let b256230:Bool:=((decide (0≤x5))&&(decide (x5<16)))
  cond b256230
   ((q22 F x2 (y8 4 (y9 ((y6 x5)*4) x4))).bind fun r256232=>
   cond b256230
    (rec x0 x1 x2 (yw x3 (y6 x5) r256232.1) x4 (y0 .i64 (x5+1)))
     none)
    none)
  (some (x0,x1,x3,()))
def q8p(F:Nat):Nat→Int→Int→LI→LI→LI→Int→Option (Int×Int×LI×Unit)
 |0,_,_,_,_,_,_=>none
 |k+1,x0,x1,x2,x3,x4,x5=>qif F (q8p F k) x0 x1 x2 x3 x4 x5
def qns(F:Nat)(a0:LI)(a1:Int)(a2:Int)(a3:Bool):Option (LI×Unit):=
 (q93 F a1 a2 a3).bind fun r256218=>
 (q8p F F a1 a2 r256218.1 q1w a0 0).bind fun r256236=>
 (qb5 F r256236.1 r256236.2.1 r256236.2.2.1).bind fun r256237=>
 some (r256237.1,())
def q0o(F:Nat)(a0:LI)(a1:Int)(a2:LI)(a3:Int)(a4:LI):Option (Bool×Int×LI×LI×Int×Unit):=
 (q6p F a1 a4 a2).bind fun r256291=>
 cond (r256291.2.1 !=0)
  (some (false,a1,a2,a0,a3,()))
  (cond (decide (a3≤r256291.1))
   (some (false,a1,a2,a0,a3,()))
   (some (true,a1,a2,a4,r256291.1,())))
def q0f(F:Nat)(a0:Int)(a1:Int)(a2:LI)(a3:Int)(a4:LI)(a5:Int)(a6:LI)(a7:LI)(a8:Bool):Option (Bool×Int×LI×LI×Int×Unit):=
 let v256305:Int:=(((ya a6):Nat):Int)
 let b256306:Bool:=((decide (0≤v256305))&&((decide (0≤v256305))&&((decide ((y6 v256305)≤(ya a6)))&&(decide ((y6 v256305)=(y6 v256305))))))
 cond b256306
  ((qns F a7 a0 a1 a8).bind fun r256308=>
  let n256309:Nat:=(ya r256308.1)
  cond ((decide (((y6 v256305)+n256309)≤1099511627776))&&(decide (0<n256309)))
   (let n256311:Nat:=((y6 v256305)+n256309)
   let l256312:LI:=((y8 (y6 v256305) a6)++r256308.1)
   (q0o F a2 a3 a4 a5 l256312).bind fun r256313=>
   let n256314:Nat:=(ya r256313.2.2.2.1)
   cond b256306
    ((qns F a7 a1 a0 a8).bind fun r256315=>
    let n256316:Nat:=(ya r256315.1)
    cond ((decide (((y6 v256305)+n256316)≤1099511627776))&&(decide (0<n256316)))
     ((q0o F r256313.2.2.2.1 r256313.2.1 r256313.2.2.1 r256313.2.2.2.2.1 ((y8 (y6 v256305) a6)++r256315.1)).bind fun r256320=>
     cond r256313.1
      (some (true,r256320.2.1,r256320.2.2.1,r256320.2.2.2.1,r256320.2.2.2.2.1,()))
      (some (r256320.1,r256320.2.1,r256320.2.2.1,r256320.2.2.2.1,r256320.2.2.2.2.1,())))
      none)
     none)
    none)
   none
def bcfit_stepsT256328:LI:=[2048,-2048,32,-32,1,-1]
def z2h(F:Nat):Option (LI×Unit):=
 some (bcfit_stepsT256328,())
def q3x(F:Nat)(rec:LI→Int→LI→Int→Int→LI→LI→Bool→Int→Int→Int→Int→Bool→LI→Int→Option (LI×Int×LI×Int×Int×LI×LI×Bool×Int×Int×Int×Int×Bool×Unit))(x0:LI)(x1:Int)(x2:LI)(x3:Int)(x4:Int)(x5:LI)(x6:LI)(x7:Bool)(x8:Int)(x9:Int)(x10:Int)(x11:Int)(x12:Bool)(x13:LI)(x14:Int):Option (LI×Int×LI×Int×Int×LI×LI×Bool×Int×Int×Int×Int×Bool×Unit):=
 cond (decide (x14<6))
  (cond ((decide (0≤x14))&&(decide (x14<6)))
   (let v257012:Int:=(y7 x13 (y6 x14) 0)
   let v257013:Int:=(y0 .i64 (x8+v257012))
   cond (decide (0≤v257013))
    (cond ((ishr .i64 v257013 16)==0)
     ((q0f F v257013 x9 x0 x1 x2 x3 x5 x6 x7).bind fun r257017=>
     cond r257017.1
      (let v257019:Int:=(y0 .i64 (x9+v257012))
      cond (decide (0≤v257019))
       (cond ((ishr .i64 v257019 16)==0)
        ((q0f F v257013 v257019 r257017.2.2.2.1 r257017.2.1 r257017.2.2.1 r257017.2.2.2.2.1 x5 x6 x7).bind fun r257023=>
        cond r257023.1
         (rec r257023.2.2.2.1 r257023.2.1 r257023.2.2.1 r257023.2.2.2.2.1 x4 x5 x6 x7 v257013 v257019 x10 x11 x12 x13 (y0 .i64 (x14+1)))
         (rec r257023.2.2.2.1 r257023.2.1 r257023.2.2.1 r257023.2.2.2.2.1 x4 x5 x6 x7 v257013 x9 x10 x11 x12 x13 (y0 .i64 (x14+1))))
        (rec r257017.2.2.2.1 r257017.2.1 r257017.2.2.1 r257017.2.2.2.2.1 x4 x5 x6 x7 v257013 x9 x10 x11 x12 x13 (y0 .i64 (x14+1))))
       (rec r257017.2.2.2.1 r257017.2.1 r257017.2.2.1 r257017.2.2.2.2.1 x4 x5 x6 x7 v257013 x9 x10 x11 x12 x13 (y0 .i64 (x14+1))))
      (let v257029:Int:=(y0 .i64 (x9+v257012))
      cond (decide (0≤v257029))
       (cond ((ishr .i64 v257029 16)==0)
        ((q0f F x8 v257029 r257017.2.2.2.1 r257017.2.1 r257017.2.2.1 r257017.2.2.2.2.1 x5 x6 x7).bind fun r257033=>
        cond r257033.1
         (rec r257033.2.2.2.1 r257033.2.1 r257033.2.2.1 r257033.2.2.2.2.1 x4 x5 x6 x7 x8 v257029 x10 x11 x12 x13 (y0 .i64 (x14+1)))
         (rec r257033.2.2.2.1 r257033.2.1 r257033.2.2.1 r257033.2.2.2.2.1 x4 x5 x6 x7 x8 x9 x10 x11 x12 x13 (y0 .i64 (x14+1))))
        (rec r257017.2.2.2.1 r257017.2.1 r257017.2.2.1 r257017.2.2.2.2.1 x4 x5 x6 x7 x8 x9 x10 x11 x12 x13 (y0 .i64 (x14+1))))
       (rec r257017.2.2.2.1 r257017.2.1 r257017.2.2.1 r257017.2.2.2.2.1 x4 x5 x6 x7 x8 x9 x10 x11 x12 x13 (y0 .i64 (x14+1)))))
     (let v257039:Int:=(y0 .i64 (x9+v257012))
     cond (decide (0≤v257039))
      (cond ((ishr .i64 v257039 16)==0)
       ((q0f F x8 v257039 x0 x1 x2 x3 x5 x6 x7).bind fun r257043=>
       cond r257043.1
        (rec r257043.2.2.2.1 r257043.2.1 r257043.2.2.1 r257043.2.2.2.2.1 x4 x5 x6 x7 x8 v257039 x10 x11 x12 x13 (y0 .i64 (x14+1)))
        (rec r257043.2.2.2.1 r257043.2.1 r257043.2.2.1 r257043.2.2.2.2.1 x4 x5 x6 x7 x8 x9 x10 x11 x12 x13 (y0 .i64 (x14+1))))
       (rec x0 x1 x2 x3 x4 x5 x6 x7 x8 x9 x10 x11 x12 x13 (y0 .i64 (x14+1))))
      (rec x0 x1 x2 x3 x4 x5 x6 x7 x8 x9 x10 x11 x12 x13 (y0 .i64 (x14+1)))))
    (let v257049:Int:=(y0 .i64 (x9+v257012))
    cond (decide (0≤v257049))
     (cond ((ishr .i64 v257049 16)==0)
      ((q0f F x8 v257049 x0 x1 x2 x3 x5 x6 x7).bind fun r257053=>
      cond r257053.1
       (rec r257053.2.2.2.1 r257053.2.1 r257053.2.2.1 r257053.2.2.2.2.1 x4 x5 x6 x7 x8 v257049 x10 x11 x12 x13 (y0 .i64 (x14+1)))
       (rec r257053.2.2.2.1 r257053.2.1 r257053.2.2.1 r257053.2.2.2.2.1 x4 x5 x6 x7 x8 x9 x10 x11 x12 x13 (y0 .i64 (x14+1))))
      (rec x0 x1 x2 x3 x4 x5 x6 x7 x8 x9 x10 x11 x12 x13 (y0 .i64 (x14+1))))
     (rec x0 x1 x2 x3 x4 x5 x6 x7 x8 x9 x10 x11 x12 x13 (y0 .i64 (x14+1)))))
    none)
  (some (x0,x1,x2,x3,x4,x5,x6,x7,x8,x9,x10,x11,x12,()))
def q0a(F:Nat):Nat→LI→Int→LI→Int→Int→LI→LI→Bool→Int→Int→Int→Int→Bool→LI→Int→Option (LI×Int×LI×Int×Int×LI×LI×Bool×Int×Int×Int×Int×Bool×Unit)
 |0,_,_,_,_,_,_,_,_,_,_,_,_,_,_,_=>none
 |k+1,x0,x1,x2,x3,x4,x5,x6,x7,x8,x9,x10,x11,x12,x13,x14=>q3x F (q0a F k) x0 x1 x2 x3 x4 x5 x6 x7 x8 x9 x10 x11 x12 x13 x14
def q1y(F:Nat)(rec:LI→Int→LI→Int→Int→LI→LI→Bool→Int→Int→Int→Option (LI×Int×LI×Int×Unit))(x0:LI)(x1:Int)(x2:LI)(x3:Int)(x4:Int)(x5:LI)(x6:LI)(x7:Bool)(x8:Int)(x9:Int)(x10:Int):Option (LI×Int×LI×Int×Unit):=
 cond (decide (x10<3))
  (let b256955:Bool:=(x4==2)
  cond b256955
   ((z2h F).bind fun r256956=>
   (q0a F F x0 x1 x2 x3 x4 x5 x6 x7 x8 x9 x10 x4 b256955 r256956.1 0).bind fun r257059=>
   rec r257059.1 r257059.2.1 r257059.2.2.1 r257059.2.2.2.1 r257059.2.2.2.2.1 r257059.2.2.2.2.2.1 r257059.2.2.2.2.2.2.1 r257059.2.2.2.2.2.2.2.1 r257059.2.2.2.2.2.2.2.2.1 r257059.2.2.2.2.2.2.2.2.2.1 (y0 .i64 (r257059.2.2.2.2.2.2.2.2.2.2.1+1)))
   (some (x0,x1,x2,x3,())))
  (some (x0,x1,x2,x3,()))
def q0y(F:Nat):Nat→LI→Int→LI→Int→Int→LI→LI→Bool→Int→Int→Int→Option (LI×Int×LI×Int×Unit)
 |0,_,_,_,_,_,_,_,_,_,_,_=>none
 |k+1,x0,x1,x2,x3,x4,x5,x6,x7,x8,x9,x10=>q1y F (q0y F k) x0 x1 x2 x3 x4 x5 x6 x7 x8 x9 x10
def q1a(F:Nat)(a0:LI)(a1:Int)(a2:LI)(a3:Int)(a4:LI)(a5:LI)(a6:Bool)(a7:Int):Option (Int×LI×LI×Int×Unit):=
 (q6q F a4 3).bind fun r256694=>
 (qiw F r256694.1).bind fun r256695=>
 (qiw F r256694.2.1).bind fun r256696=>
 (q0f F r256695.1 r256696.1 a0 a1 a2 a3 a5 a4 a6).bind fun r256697=>
 (q0y F F r256697.2.2.2.1 r256697.2.1 r256697.2.2.1 r256697.2.2.2.2.1 a7 a5 a4 a6 r256695.1 r256696.1 0).bind fun r257063=>
 some (r257063.2.1,r257063.2.2.1,r257063.1,r257063.2.2.2.1,())
def qcs(F:Nat)(rec:LI→LI→Int→Option (LI×Unit))(x0:LI)(x1:LI)(x2:Int):Option (LI×Unit):=
 cond (decide (x2<16))
  (let b257104:Bool:=((decide (0≤x2))&&(decide (x2<16)))
  cond b257104
   ((q7i F (y7 (y8 4 (y9 ((y6 x2)*4) x1)) 3 0) 4).bind fun r257107=>
   cond b257104
    (rec (yw x0 (y6 x2) r257107.1) x1 (y0 .i64 (x2+1)))
     none)
    none)
  (some (x0,()))
def q62(F:Nat):Nat→LI→LI→Int→Option (LI×Unit)
 |0,_,_,_=>none
 |k+1,x0,x1,x2=>qcs F (q62 F k) x0 x1 x2
def qjm(F:Nat)(a0:LI):Option (LI×Unit):=
 (q62 F F q1w a0 0).bind fun r257111=>
 (q3m F r257111.1).bind fun r257112=>
 some (r257112.1,())
def q9i(F:Nat)(rec:Int→LI→LI→Int→Option (LI×Unit))(x0:Int)(x1:LI)(x2:LI)(x3:Int):Option (LI×Unit):=
 cond (decide (x3<16))
  (let b257164:Bool:=((decide (0≤x3))&&(decide (x3<16)))
  cond b257164
   (cond ((decide (0≤x0))&&(decide (x0<4)))
    (cond b257164
     (rec x0 (yw x1 ((y6 x3)*4) (y7 (y8 4 (y9 ((y6 x3)*4) x2)) (y6 x0) 0)) x2 (y0 .i64 (x3+1)))
      none)
     none)
    none)
  (some (x1,()))
def q3q(F:Nat):Nat→Int→LI→LI→Int→Option (LI×Unit)
 |0,_,_,_,_=>none
 |k+1,x0,x1,x2,x3=>q9i F (q3q F k) x0 x1 x2 x3
def q9j(F:Nat)(a0:LI)(a1:Int):Option (Int×Unit):=
 (q3q F F a1 q12 a0 0).bind fun r257172=>
 (q5h F 4 r257172.1).bind fun r257173=>
 let n257174:Nat:=(ya r257173.1)
 cond (decide (0<((n257174:Nat):Int)))
  (some ((y7 r257173.1 0 0),()))
   none
def q1d:LI:=[0,0,0,0,0,0,0,0]
def q7c(F:Nat)(a0:Int)(a1:Int):Option (Int×Unit):=
 let v257193:Int:=(y0 .i64 (a0-a1))
 some ((y0 .i64 (v257193*v257193)),())
def q0q(F:Nat)(rec:LI→Int→Int→Int→Int→Option (Int×Unit))(x0:LI)(x1:Int)(x2:Int)(x3:Int)(x4:Int):Option (Int×Unit):=
 cond (decide (x4<x3))
  (cond ((decide (0≤x4))&&(decide (x4<(((ya x0):Nat):Int))))
   (cond ((decide (0≤x2))&&(decide (x2<(((ya x0):Nat):Int))))
    ((q7c F (y7 x0 (y6 x4) 0) x1).bind fun r257279=>
    (q7c F (y7 x0 (y6 x2) 0) x1).bind fun r257280=>
    cond (decide (r257279.1<r257280.1))
     (rec x0 x1 x4 x3 (y0 .i64 (x4+1)))
     (rec x0 x1 x2 x3 (y0 .i64 (x4+1))))
     none)
    none)
  (some (x2,()))
def q0i(F:Nat):Nat→LI→Int→Int→Int→Int→Option (Int×Unit)
 |0,_,_,_,_,_=>none
 |k+1,x0,x1,x2,x3,x4=>q0q F (q0i F k) x0 x1 x2 x3 x4
def q1g(F:Nat)(a0:LI)(a1:Int):Option (Int×Unit):=
 (q0i F F a0 a1 0 (((ya a0):Nat):Int) 0).bind fun r257284=>
 some (r257284.1,())
def q9k(F:Nat)(rec:Int→Int→Int→LI→LI→LI→Int→LI→Int→Option (Int×Int×Int×LI×LI×Int×Unit))(x0:Int)(x1:Int)(x2:Int)(x3:LI)(x4:LI)(x5:LI)(x6:Int)(x7:LI)(x8:Int):Option (Int×Int×Int×LI×LI×Int×Unit):=
 cond (decide (x8<16))
  (let b257464:Bool:=((decide (0≤x8))&&(decide (x8<16)))
  cond b257464
   (let v257465:Int:=(y7 x7 (y6 x8) 0)
   (q1g F x4 v257465).bind fun r257466=>
   cond b257464
    (let l257468:LI:=(yw x5 (y6 x8) r257466.1)
    cond b257464
     (let v257469:Int:=(y7 l257468 (y6 x8) 0)
     let b257470:Bool:=((decide (0≤v257469))&&(decide (v257469<8)))
     cond b257470
      (let v257473:Int:=(y0 .i64 ((y7 x4 (y6 v257469) 0)-v257465))
      cond b257464
       (cond b257470
        (rec x0 x1 x2 x3 x4 l257468 (y0 .i64 (x6+(y0 .i64 (v257473*v257473)))) x7 (y0 .i64 (x8+1)))
         none)
        none)
       none)
      none)
     none)
    none)
  (some (x0,x1,x2,x3,x5,x6,()))
def q3r(F:Nat):Nat→Int→Int→Int→LI→LI→LI→Int→LI→Int→Option (Int×Int×Int×LI×LI×Int×Unit)
 |0,_,_,_,_,_,_,_,_,_=>none
 |k+1,x0,x1,x2,x3,x4,x5,x6,x7,x8=>q9k F (q3r F k) x0 x1 x2 x3 x4 x5 x6 x7 x8
def q1b(F:Nat)(a0:Int)(a1:Int)(a2:LI)(a3:Int)(a4:LI):Option (Int×LI×Unit):=
 (q20 F a0 255).bind fun r257433=>
 (q20 F a1 255).bind fun r257434=>
 (qe9 F r257433.1 r257434.1).bind fun r257435=>
 (q3r F F r257433.1 r257434.1 a3 a4 r257435.1 q1w 0 a2 0).bind fun r257477=>
 cond (decide (r257477.2.2.1<0))
  ((q6w F r257477.1 r257477.2.1 r257477.2.2.2.2.1).bind fun r257480=>
  some (r257477.2.2.2.2.2.1,r257480.1,()))
  (cond (decide (r257477.2.2.2.2.2.1<r257477.2.2.1))
   ((q6w F r257477.1 r257477.2.1 r257477.2.2.2.2.1).bind fun r257483=>
   some (r257477.2.2.2.2.2.1,r257483.1,()))
   (some (r257477.2.2.1,r257477.2.2.2.1,())))
def qfj(F:Nat)(rec:Int→Int→LI→LI→Int→Int→LI→Int→Option (Int×Int×LI×LI×Int×Int×Unit))(x0:Int)(x1:Int)(x2:LI)(x3:LI)(x4:Int)(x5:Int)(x6:LI)(x7:Int):Option (Int×Int×LI×LI×Int×Int×Unit):=
 cond (decide (x7<16))
  (let b257550:Bool:=((decide (0≤x7))&&(decide (x7<16)))
  cond b257550
   (let b257552:Bool:=((decide (0≤x0))&&(decide (x0<4)))
   cond b257552
    (let v257554:Int:=(y7 (y8 4 (y9 ((y6 x7)*4) x6)) (y6 x0) 0)
    cond b257550
     (cond b257552
      (cond b257552
       (rec x0 x1 x2 (yw x3 (y6 x7) v257554) (min x4 v257554) (max x5 v257554) x6 (y0 .i64 (x7+1)))
        none)
       none)
      none)
     none)
    none)
  (some (x0,x1,x2,x3,x4,x5,()))
def q71(F:Nat):Nat→Int→Int→LI→LI→Int→Int→LI→Int→Option (Int×Int×LI×LI×Int×Int×Unit)
 |0,_,_,_,_,_,_,_,_=>none
 |k+1,x0,x1,x2,x3,x4,x5,x6,x7=>qfj F (q71 F k) x0 x1 x2 x3 x4 x5 x6 x7
def qfk(F:Nat)(rec:Int→Int→LI→LI→Int→Int→Option (LI×Unit))(x0:Int)(x1:Int)(x2:LI)(x3:LI)(x4:Int)(x5:Int):Option (LI×Unit):=
 cond (decide (x5≤3))
  (let v257595:Int:=(y0 .i64 (x1-x5))
  let v257596:Int:=(y0 .i64 (x0+x5))
  (q1b F v257595 v257596 x3 x4 x2).bind fun r257597=>
  (q1b F v257596 v257595 x3 r257597.1 r257597.2.1).bind fun r257599=>
  (q1b F v257595 x0 x3 r257599.1 r257599.2.1).bind fun r257601=>
  (q1b F x1 v257596 x3 r257601.1 r257601.2.1).bind fun r257603=>
  rec x0 x1 r257603.2.1 x3 r257603.1 (y0 .i64 (x5+1)))
  (some (x2,()))
def q5t(F:Nat):Nat→Int→Int→LI→LI→Int→Int→Option (LI×Unit)
 |0,_,_,_,_,_,_=>none
 |k+1,x0,x1,x2,x3,x4,x5=>qfk F (q5t F k) x0 x1 x2 x3 x4 x5
def q5i(F:Nat)(a0:LI)(a1:Int)(a2:Int):Option (LI×Unit):=
 (q71 F F a1 a2 a0 q1w 255 0 a0 0).bind fun r257560=>
 (q9j F r257560.2.2.1 r257560.1).bind fun r257561=>
 (q1b F r257561.1 r257561.1 r257560.2.2.2.1 (-1) []).bind fun r257562=>
 (q1b F r257560.2.2.2.2.2.1 r257560.2.2.2.2.1 r257560.2.2.2.1 r257562.1 r257562.2.1).bind fun r257564=>
 (q1b F r257560.2.2.2.2.1 r257560.2.2.2.2.2.1 r257560.2.2.2.1 r257564.1 r257564.2.1).bind fun r257566=>
 cond (r257560.2.1==2)
  ((q5t F F r257560.2.2.2.2.1 r257560.2.2.2.2.2.1 r257566.2.1 r257560.2.2.2.1 r257566.1 1).bind fun r257606=>
  some (r257606.1,()))
  (some (r257566.2.1,()))
def qig(F:Nat)(rec:LI→LI→LI→LI→Int→Int→LI→Int→Option (LI×LI×LI×LI×Int×Unit))(x0:LI)(x1:LI)(x2:LI)(x3:LI)(x4:Int)(x5:Int)(x6:LI)(x7:Int):Option (LI×LI×LI×LI×Int×Unit):=
 cond (decide (x7<4))
  (let b257748:Bool:=((decide (0≤x7))&&(decide (x7<4)))
  cond b257748
   (let v257749:Int:=(y7 x6 (y6 x7) 0)
   (q20 F (y0 .i64 (yv (y0 .i64 ((y0 .i64 (v257749+1))-x4)) 2)) 127).bind fun r257753=>
   let b257754:Bool:=((decide (0≤x4))&&(decide (x4<2)))
   cond b257754
    (cond b257748
     (let n257756:Nat:=(((y6 x4)*4)+(y6 x7))
     let l257757:LI:=(yw x2 n257756 r257753.1)
     cond b257754
      (cond b257748
       (let v257761:Int:=(y0 .i64 ((y0 .i64 ((y0 .i64 (2*(y7 l257757 n257756 0)))+x4))-v257749))
       cond b257754
        (cond b257754
         (rec x0 x1 l257757 (yw x3 (y6 x4) (y0 .i64 ((y7 x3 (y6 x4) 0)+(y0 .i64 (v257761*v257761))))) x4 x5 x6 (y0 .i64 (x7+1)))
          none)
         none)
        none)
       none)
      none)
     none)
    none)
  (some (x0,x1,x2,x3,x5,()))
def qbb(F:Nat):Nat→LI→LI→LI→LI→Int→Int→LI→Int→Option (LI×LI×LI×LI×Int×Unit)
 |0,_,_,_,_,_,_,_,_=>none
 |k+1,x0,x1,x2,x3,x4,x5,x6,x7=>qig F (qbb F k) x0 x1 x2 x3 x4 x5 x6 x7
def qih(F:Nat)(rec:LI→LI→LI→LI→Int→Option (LI×LI×LI×Unit))(x0:LI)(x1:LI)(x2:LI)(x3:LI)(x4:Int):Option (LI×LI×LI×Unit):=
 cond (decide (x4<2))
  ((qbb F F x0 x1 x2 x3 x4 x4 x0 0).bind fun r257768=>
  rec r257768.1 r257768.2.1 r257768.2.2.1 r257768.2.2.2.1 (y0 .i64 (r257768.2.2.2.2.1+1)))
  (some (x1,x2,x3,()))
def q8q(F:Nat):Nat→LI→LI→LI→LI→Int→Option (LI×LI×LI×Unit)
 |0,_,_,_,_,_=>none
 |k+1,x0,x1,x2,x3,x4=>qih F (q8q F k) x0 x1 x2 x3 x4
def qga(F:Nat)(a0:LI):Option (LI×Int×Unit):=
 (q8q F F a0 [0,0,0,0] q1d [0,0] 0).bind fun r257770=>
 let v257771:Int:=(y7 r257770.2.2.1 1 0)
 let v257772:Int:=(y7 r257770.2.2.1 0 0)
 cond (decide (v257771<v257772))
  (some ((y8 4 (y9 4 r257770.2.1)),1,()))
  (some ((y8 4 r257770.2.1),0,()))
def qgb(F:Nat)(a0:LI)(a1:LI):Option (Int×Unit):=
 (qjl F a1 a0 4).bind fun r257962=>
 some (r257962.1,())
def q0n(F:Nat)(rec:LI→LI→Int→Int→Int→Option (Int×Unit))(x0:LI)(x1:LI)(x2:Int)(x3:Int)(x4:Int):Option (Int×Unit):=
 let n258039:Nat:=((ya x0)/4)
 cond (decide (x4<x3))
  (cond ((decide (0≤x4))&&(decide (x4<((n258039:Nat):Int))))
   (cond ((decide (0≤x2))&&(decide (x2<((n258039:Nat):Int))))
    ((qgb F (y8 4 (y9 ((y6 x4)*4) x0)) x1).bind fun r258047=>
    (qgb F (y8 4 (y9 ((y6 x2)*4) x0)) x1).bind fun r258048=>
    cond (decide (r258047.1<r258048.1))
     (rec x0 x1 x4 x3 (y0 .i64 (x4+1)))
     (rec x0 x1 x2 x3 (y0 .i64 (x4+1))))
     none)
    none)
  (some (x2,()))
def q0c(F:Nat):Nat→LI→LI→Int→Int→Int→Option (Int×Unit)
 |0,_,_,_,_,_=>none
 |k+1,x0,x1,x2,x3,x4=>q0n F (q0c F k) x0 x1 x2 x3 x4
def q18(F:Nat)(a0:LI)(a1:LI):Option (Int×Unit):=
 (q0c F F a0 a1 0 ((((ya a0)/4):Nat):Int) 0).bind fun r258052=>
 some (r258052.1,())
def qii(F:Nat)(rec:LI→LI→LI→LI→LI→Int→Option (LI×LI×LI×Unit))(x0:LI)(x1:LI)(x2:LI)(x3:LI)(x4:LI)(x5:Int):Option (LI×LI×LI×Unit):=
 cond (decide (x5<16))
  (let b258117:Bool:=((decide (0≤x5))&&(decide (x5<16)))
  cond b258117
   ((q18 F x2 (y8 4 (y9 ((y6 x5)*4) x4))).bind fun r258119=>
   cond b258117
    (rec x0 x1 x2 (yw x3 (y6 x5) r258119.1) x4 (y0 .i64 (x5+1)))
     none)
    none)
  (some (x0,x1,x3,()))
def q8r(F:Nat):Nat→LI→LI→LI→LI→LI→Int→Option (LI×LI×LI×Unit)
 |0,_,_,_,_,_,_=>none
 |k+1,x0,x1,x2,x3,x4,x5=>qii F (q8r F k) x0 x1 x2 x3 x4 x5
def qij(F:Nat)(rec:LI→LI→LI→LI→Int→Option (LI×LI×LI×Unit))(x0:LI)(x1:LI)(x2:LI)(x3:LI)(x4:Int):Option (LI×LI×LI×Unit):=
 cond (decide (x4<16))
  (let b258145:Bool:=((decide (0≤x4))&&(decide (x4<16)))
  cond b258145
   (cond b258145
    (rec x0 x1 (yw x2 (y6 x4) (y0 .i64 (15-(y7 x3 (y6 x4) 0)))) x3 (y0 .i64 (x4+1)))
     none)
    none)
  (some (x0,x1,x2,()))
def q6r(F:Nat):Nat→LI→LI→LI→LI→Int→Option (LI×LI×LI×Unit)
 |0,_,_,_,_,_=>none
 |k+1,x0,x1,x2,x3,x4=>qij F (q6r F k) x0 x1 x2 x3 x4
def qct(F:Nat)(a0:LI)(a1:LI)(a2:LI):Option (LI×Unit):=
 (qg4 F a1 a2).bind fun r258102=>
 (qb6 F (y8 4 r258102.1) (y8 4 (y9 4 r258102.1))).bind fun r258105=>
 (q8r F F a1 a2 r258105.1 q1w a0 0).bind fun r258123=>
 let v258124:Int:=(y7 r258123.2.2.1 0 0)
 cond (decide (8≤v258124))
  (let l258130:LI:=(((y8 0 r258123.1)++(y8 4 (y9 4 r258123.1)))++(y9 4 r258123.1))
  (q6r F F (((y8 4 l258130)++(y8 4 r258123.1))++(y9 8 l258130)) (yw (yw r258123.2.1 0 (y7 r258123.2.1 1 0)) 1 (y7 r258123.2.1 0 0)) r258123.2.2.1 r258123.2.2.1 0).bind fun r258151=>
  (q4g F r258151.1 r258151.2.1 r258151.2.2.1).bind fun r258152=>
  some (r258152.1,()))
  ((q4g F r258123.1 r258123.2.1 r258123.2.2.1).bind fun r258154=>
  some (r258154.1,()))
def q52(F:Nat)(rec:LI→Int→LI→Int→Int→LI→LI→Int→Int→Int→Bool→Int→LI→Int→Option (LI×Int×LI×Int×Int×LI×LI×Int×Int×Bool×Int×Unit))(x0:LI)(x1:Int)(x2:LI)(x3:Int)(x4:Int)(x5:LI)(x6:LI)(x7:Int)(x8:Int)(x9:Int)(x10:Bool)(x11:Int)(x12:LI)(x13:Int):Option (LI×Int×LI×Int×Int×LI×LI×Int×Int×Bool×Int×Unit):=
 cond (decide (x13<2))
  (cond ((decide (0≤x13))&&(decide (x13<2)))
   (let v258973:Int:=(y0 .i64 (yv x8 4))
   let v258974:Int:=(yu x8 4)
   cond ((decide (0≤v258973))&&(decide (v258973<2)))
    (cond ((decide (0≤v258974))&&(decide (v258974<4)))
     (let n258978:Nat:=(((y6 v258973)*4)+(y6 v258974))
     (q20 F (y0 .i64 ((y7 x5 n258978 0)+(y7 x12 (y6 x13) 0))) 127).bind fun r258981=>
     let l258982:LI:=(yw x5 n258978 r258981.1)
     (qct F x2 l258982 x6).bind fun r258983=>
     (q0o F x0 x1 x2 x3 r258983.1).bind fun r258985=>
     cond r258985.1
      (rec r258985.2.2.2.1 r258985.2.1 r258985.2.2.1 r258985.2.2.2.2.1 x4 l258982 x6 x7 x8 x9 x10 x11 x12 (y0 .i64 (x13+1)))
      (rec r258985.2.2.2.1 r258985.2.1 r258985.2.2.1 r258985.2.2.2.2.1 x4 x5 x6 x7 x8 x9 x10 x11 x12 (y0 .i64 (x13+1))))
      none)
     none)
    none)
  (some (x0,x1,x2,x3,x4,x5,x6,x7,x9,x10,x11,()))
def q1m(F:Nat):Nat→LI→Int→LI→Int→Int→LI→LI→Int→Int→Int→Bool→Int→LI→Int→Option (LI×Int×LI×Int×Int×LI×LI×Int×Int×Bool×Int×Unit)
 |0,_,_,_,_,_,_,_,_,_,_,_,_,_,_=>none
 |k+1,x0,x1,x2,x3,x4,x5,x6,x7,x8,x9,x10,x11,x12,x13=>q52 F (q1m F k) x0 x1 x2 x3 x4 x5 x6 x7 x8 x9 x10 x11 x12 x13
def q53(F:Nat)(rec:LI→Int→LI→Int→Int→LI→LI→Int→Int→Bool→Int→Option (LI×Int×LI×Int×Int×LI×LI×Int×Int×Bool×Unit))(x0:LI)(x1:Int)(x2:LI)(x3:Int)(x4:Int)(x5:LI)(x6:LI)(x7:Int)(x8:Int)(x9:Bool)(x10:Int):Option (LI×Int×LI×Int×Int×LI×LI×Int×Int×Bool×Unit):=
 cond (decide (x10<8))
  ((q1m F F x0 x1 x2 x3 x4 x5 x6 x7 x10 x8 x9 x10 [1,(-1)] 0).bind fun r258989=>
  rec r258989.1 r258989.2.1 r258989.2.2.1 r258989.2.2.2.1 r258989.2.2.2.2.1 r258989.2.2.2.2.2.1 r258989.2.2.2.2.2.2.1 r258989.2.2.2.2.2.2.2.1 r258989.2.2.2.2.2.2.2.2.1 r258989.2.2.2.2.2.2.2.2.2.1 (y0 .i64 (r258989.2.2.2.2.2.2.2.2.2.2.1+1)))
  (some (x0,x1,x2,x3,x4,x5,x6,x7,x8,x9,()))
def q1n(F:Nat):Nat→LI→Int→LI→Int→Int→LI→LI→Int→Int→Bool→Int→Option (LI×Int×LI×Int×Int×LI×LI×Int×Int×Bool×Unit)
 |0,_,_,_,_,_,_,_,_,_,_,_=>none
 |k+1,x0,x1,x2,x3,x4,x5,x6,x7,x8,x9,x10=>q53 F (q1n F k) x0 x1 x2 x3 x4 x5 x6 x7 x8 x9 x10
def q54(F:Nat)(rec:LI→Int→LI→Int→Int→LI→LI→Int→Int→Bool→Int→Option (LI×Int×LI×Int×Int×LI×LI×Int×Int×Bool×Unit))(x0:LI)(x1:Int)(x2:LI)(x3:Int)(x4:Int)(x5:LI)(x6:LI)(x7:Int)(x8:Int)(x9:Bool)(x10:Int):Option (LI×Int×LI×Int×Int×LI×LI×Int×Int×Bool×Unit):=
 cond (decide (x10<2))
  (let b259009:Bool:=((decide (0≤x10))&&(decide (x10<2)))
  cond b259009
   (cond b259009
    (let l259013:LI:=(yw x6 (y6 x10) (y0 .i64 (1-(y7 x6 (y6 x10) 0))))
    (qct F x2 x5 l259013).bind fun r259014=>
    (q0o F x0 x1 x2 x3 r259014.1).bind fun r259016=>
    cond r259016.1
     (rec r259016.2.2.2.1 r259016.2.1 r259016.2.2.1 r259016.2.2.2.2.1 x4 x5 l259013 x7 x8 x9 (y0 .i64 (x10+1)))
     (rec r259016.2.2.2.1 r259016.2.1 r259016.2.2.1 r259016.2.2.2.2.1 x4 x5 x6 x7 x8 x9 (y0 .i64 (x10+1))))
     none)
    none)
  (some (x0,x1,x2,x3,x4,x5,x6,x7,x8,x9,()))
def q1o(F:Nat):Nat→LI→Int→LI→Int→Int→LI→LI→Int→Int→Bool→Int→Option (LI×Int×LI×Int×Int×LI×LI×Int×Int×Bool×Unit)
 |0,_,_,_,_,_,_,_,_,_,_,_=>none
 |k+1,x0,x1,x2,x3,x4,x5,x6,x7,x8,x9,x10=>q54 F (q1o F k) x0 x1 x2 x3 x4 x5 x6 x7 x8 x9 x10
def q25(F:Nat)(rec:LI→Int→LI→Int→Int→LI→LI→Int→Option (LI×Int×LI×Int×Unit))(x0:LI)(x1:Int)(x2:LI)(x3:Int)(x4:Int)(x5:LI)(x6:LI)(x7:Int):Option (LI×Int×LI×Int×Unit):=
 cond (decide (x7<3))
  (let b258901:Bool:=(x4==2)
  cond b258901
   ((q1n F F x0 x1 x2 x3 x4 x5 x6 x7 x4 b258901 0).bind fun r258992=>
   (q1o F F r258992.1 r258992.2.1 r258992.2.2.1 r258992.2.2.2.1 r258992.2.2.2.2.1 r258992.2.2.2.2.2.1 r258992.2.2.2.2.2.2.1 r258992.2.2.2.2.2.2.2.1 r258992.2.2.2.2.2.2.2.2.1 r258992.2.2.2.2.2.2.2.2.2.1 0).bind fun r259020=>
   rec r259020.1 r259020.2.1 r259020.2.2.1 r259020.2.2.2.1 r259020.2.2.2.2.1 r259020.2.2.2.2.2.1 r259020.2.2.2.2.2.2.1 (y0 .i64 (r259020.2.2.2.2.2.2.2.1+1)))
   (some (x0,x1,x2,x3,())))
  (some (x0,x1,x2,x3,()))
def q0s(F:Nat):Nat→LI→Int→LI→Int→Int→LI→LI→Int→Option (LI×Int×LI×Int×Unit)
 |0,_,_,_,_,_,_,_,_=>none
 |k+1,x0,x1,x2,x3,x4,x5,x6,x7=>q25 F (q0s F k) x0 x1 x2 x3 x4 x5 x6 x7
def q5u(F:Nat)(a0:LI)(a1:Int)(a2:LI)(a3:Int)(a4:Int):Option (Int×LI×LI×Int×Unit):=
 (q6q F a2 4).bind fun r258595=>
 (qga F r258595.1).bind fun r258596=>
 let l258597:LI:=(((y8 0 q1d)++r258596.1)++(y9 4 q1d))
 (qga F r258595.2.1).bind fun r258598=>
 let l258599:LI:=(((y8 4 l258597)++r258598.1)++(y9 8 l258597))
 (qct F a2 l258599 [r258596.2.1,r258598.2.1]).bind fun r258600=>
 (q0o F a0 a1 a2 a3 r258600.1).bind fun r258602=>
 (q0s F F r258602.2.2.2.1 r258602.2.1 r258602.2.2.1 r258602.2.2.2.2.1 a4 l258599 [r258596.2.1,r258598.2.1] 0).bind fun r259023=>
 some (r259023.2.1,r259023.2.2.1,r259023.1,r259023.2.2.2.1,())
def q16(F:Nat)(rec:Int→Int→LI→LI→Int→LI→Int→Int→Option (LI×Int×LI×Int×Unit))(x0:Int)(x1:Int)(x2:LI)(x3:LI)(x4:Int)(x5:LI)(x6:Int)(x7:Int):Option (LI×Int×LI×Int×Unit):=
 cond (decide (x7≤x1))
  (let b259187:Bool:=(x0==1)
  cond b259187
   ((q1a F x3 x4 x5 x6 x2 [] false x7).bind fun r259188=>
   rec x0 x1 x2 r259188.2.2.1 r259188.1 r259188.2.1 r259188.2.2.2.1 (y0 .i64 (x7+1)))
   (let b259191:Bool:=(x0==2)
   cond b259191
    ((qjm F x2).bind fun r259192=>
    (q1a F x3 x4 x5 x6 x2 r259192.1 true x7).bind fun r259194=>
    rec x0 x1 x2 r259194.2.2.1 r259194.1 r259194.2.1 r259194.2.2.2.1 (y0 .i64 (x7+1)))
    (let b259197:Bool:=(x0==3)
    cond b259197
     ((q5i F x2 3 x7).bind fun r259198=>
     (q1a F x3 x4 x5 x6 x2 r259198.1 true x7).bind fun r259200=>
     rec x0 x1 x2 r259200.2.2.1 r259200.1 r259200.2.1 r259200.2.2.2.1 (y0 .i64 (x7+1)))
     (let b259203:Bool:=(x0==4)
     cond b259203
      ((q5i F x2 0 x7).bind fun r259204=>
      (q0o F x3 x4 x5 x6 r259204.1).bind fun r259206=>
      rec x0 x1 x2 r259206.2.2.2.1 r259206.2.1 r259206.2.2.1 r259206.2.2.2.2.1 (y0 .i64 (x7+1)))
      (let b259209:Bool:=(x0==5)
      cond b259209
       ((q5i F x2 0 x7).bind fun r259210=>
       let n259211:Nat:=(ya r259210.1)
       (q5i F x2 1 x7).bind fun r259212=>
       let n259213:Nat:=(ya r259212.1)
       cond ((decide ((n259211+n259213)≤1099511627776))&&true)
        ((q0o F x3 x4 x5 x6 (r259210.1++r259212.1)).bind fun r259217=>
        rec x0 x1 x2 r259217.2.2.2.1 r259217.2.1 r259217.2.2.1 r259217.2.2.2.2.1 (y0 .i64 (x7+1)))
         none)
       ((q5u F x3 x4 x5 x6 x7).bind fun r259220=>
       rec x0 x1 x2 r259220.2.2.1 r259220.1 r259220.2.1 r259220.2.2.2.1 (y0 .i64 (x7+1))))))))
  (some (x3,x4,x5,x6,()))
def q1p(F:Nat):Nat→Int→Int→LI→LI→Int→LI→Int→Int→Option (LI×Int×LI×Int×Unit)
 |0,_,_,_,_,_,_,_,_=>none
 |k+1,x0,x1,x2,x3,x4,x5,x6,x7=>q16 F (q1p F k) x0 x1 x2 x3 x4 x5 x6 x7
def q2x(F:Nat)(a0:Int)(a1:LI)(a2:Int):Option (LI×Int×Int×Unit):=
 cond (decide (a0<1))
  (some ([],0,5,()))
  (cond (decide (6<a0))
   (some ([],0,5,()))
   ((q5h F a0 a1).bind fun r259107=>
   cond (r259107.2.1 !=0)
    (some ([],0,1,()))
    (cond (decide (a2<0))
     (some ([],0,1,()))
     (cond (decide (2<a2))
      (some ([],0,1,()))
      ((q5h F a0 a1).bind fun r259112=>
      (q6p F a0 r259112.1 a1).bind fun r259114=>
      (q1p F F a0 a2 a1 r259112.1 a0 a1 r259114.1 1).bind fun r259223=>
      some (r259223.1,r259223.2.2.2.1,0,()))))))
def qjn(F:Nat):Option (Bool×Unit):=
 (qg8 F [0,9,9,9] [255,9,9,9] 21).bind fun r256030=>
 (q2x F 4 r256030.1 1).bind fun r259225=>
 (q2x F 4 r256030.1 0).bind fun r259227=>
 (q2x F 7 r256030.1 1).bind fun r259229=>
 cond ((((ya r259225.1):Nat):Int)==8)
  (cond (r259225.2.1==0)
   (cond (r259225.2.2.1==0)
    (cond ((((ya r259227.1):Nat):Int)==8)
     (cond (decide (0<r259227.2.1))
      (cond (r259227.2.2.1==0)
       (some ((r259229.2.2.1==5),()))
       (some (false,())))
      (some (false,())))
     (some (false,())))
    (some (false,())))
   (some (false,())))
  (some (false,()))
def q86(F:Nat)(rec:Int→Bool→LI→Int→Option (Unit⊕(Bool×Unit)))(x0:Int)(x1:Bool)(x2:LI)(x3:Int):Option (Unit⊕(Bool×Unit)):=
 cond (decide (x3≤2))
  ((q2x F x0 x2 x3).bind fun r259300=>
  (qqk F x0 r259300.1 x2).bind fun r259302=>
  cond (r259300.2.2.1 !=0)
   (some (.inl ()))
   (cond (r259300.2.1 !=0)
    (some (.inl ()))
    (cond (r259302.2.1 !=0)
     (some (.inl ()))
     (cond (r259302.1 !=0)
      (some (.inl ()))
      (rec x0 x1 x2 (y0 .i64 (x3+1)))))))
  (some (.inr (x1,())))
def q2b(F:Nat):Nat→Int→Bool→LI→Int→Option (Unit⊕(Bool×Unit))
 |0,_,_,_,_=>none
 |k+1,x0,x1,x2,x3=>q86 F (q2b F k) x0 x1 x2 x3
def qmk(F:Nat)(a0:Int)(a1:LI)(a2:Int):Option (Bool×Unit):=
 (qjn F).bind fun r259273=>
 cond (decide (a0<1))
  (some (r259273.1,()))
  (cond (decide (6<a0))
   (some (r259273.1,()))
   (let l259276:LI:=(y8 4 a1)
   (qba F a0 l259276).bind fun r259277=>
   cond (!r259277.1)
    (some (r259273.1,()))
    (let l259279:LI:=(y8 4 (y9 4 a1))
    (qba F a0 l259279).bind fun r259280=>
    cond (!r259280.1)
     (some (r259273.1,()))
     ((qg8 F l259276 l259279 a2).bind fun r259282=>
     (q2b F F a0 r259273.1 r259282.1 1).bind fun r259308=>match r259308 with
      | .inl r259308=>(some (false,()))
      | .inr r259308=>(some (r259308.1,()))))))
end Go.AE.Gn

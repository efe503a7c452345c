/- A part of the proof, put together of my texts: C11defs, A12defs, X16defs. -/
import Derived.Test.YtdnccegimipapaaGreatRowEtcfitLessP3
set_option linter.unusedSimpArgs false
set_option linter.unusedVariables false
open Go.IntKind renaming wrap → y0
open List renaming length → ya, getD → y7, take → y8, drop → y9, set → yy
open Int renaming toNat → y6, tmod → yw, tdiv → yx
namespace Go.AE.Gn
open Go Go.AE
def qpj:LI:=[0,0,0,0,0,0,0,0]
def q3s(F:Nat)(a0:Int)(a1:Int)(a2:Int)(a3:LI):Option (LI×Unit):=
 (q2r F a3 a1 (y0 .i64 ((y0 .i64 (a2-a1))+1)) (y0 .u64 a0)).bind fun r187=>
 some (r187.1,())
def q8o:LI:=[7,9,10,11,12,13,14]
def qan(F:Nat)(rec:Int→LI→LI→Int→Int→Option (LI×Unit))(x0:Int)(x1:LI)(x2:LI)(x3:Int)(x4:Int):Option (LI×Unit):=
 cond (decide (x4<x3))
  (cond ((decide (0≤x4))&&(decide (x4<(((ya x1):Nat):Int))))
   (let v302:Int:=(y0 .i64 ((y0 .i64 ((((ya x1):Nat):Int)-1))-x4))
   cond (decide (0≤v302))
    ((q2r F x2 (y7 x1 (y6 x4) 0) 1 (y0 .u64 (iand .i64 (ishr .i64 x0 v302) 1))).bind fun r307=>
    rec x0 x1 r307.1 x3 (y0 .i64 (x4+1)))
     none)
    none)
  (some (x2,()))
def q3d(F:Nat):Nat→Int→LI→LI→Int→Int→Option (LI×Unit)
 |0,_,_,_,_,_=>none
 |k+1,x0,x1,x2,x3,x4=>qan F (q3d F k) x0 x1 x2 x3 x4
def q3t(F:Nat)(a0:Int)(a1:LI)(a2:LI):Option (LI×Unit):=
 (q3d F F a0 a1 a2 (((ya a1):Nat):Int) 0).bind fun r310=>
 some (r310.1,())
def q8p:LI:=[15,19,20,22,23,24]
def q8q:LI:=[25,26,27,28,29,31]
def q6r:LI:=[0,0,0,0,0,0,0,0,0,0,0,0,0,0,0,0]
def q04(F:Nat)(a0:LI)(a1:Bool)(a2:Bool)(a3:LI)(a4:LI)(a5:LI)(a6:LI)(a7:Bool)(a8:Int)(a9:Int):Option (Int×Unit):=
 (qdg F a0 a8 (y0 .i64 ((y0 .i64 (a9-a8))+1))).bind fun r577=>
 some ((y0 .i64 r577.1),())
def qg8(F:Nat)(rec:LI→LI→LI→LI→Int→Option (Unit⊕(LI×LI×LI×Unit)))(x0:LI)(x1:LI)(x2:LI)(x3:LI)(x4:Int):Option (Unit⊕(LI×LI×LI×Unit)):=
 cond (decide (x4<3))
  (cond ((decide (0≤x4))&&(decide (x4<3)))
   (let l611:LI:=(y8 3 (y9 ((y6 x4)*3) x3))
   cond ((z0b .i64 (ior .i64 (y7 l611 0 0) (y7 l611 2 0)) 63) !=0)
    (some (.inl ()))
    (cond ((z0b .i64 (y7 l611 1 0) 127) !=0)
     (some (.inl ()))
     (rec x0 x1 x2 x3 (y0 .i64 (x4+1)))))
    none)
  (some (.inr (x0,x1,x2,())))
def q3u(F:Nat):Nat→LI→LI→LI→LI→Int→Option (Unit⊕(LI×LI×LI×Unit))
 |0,_,_,_,_,_=>none
 |k+1,x0,x1,x2,x3,x4=>qg8 F (q3u F k) x0 x1 x2 x3 x4
def qg9(F:Nat)(rec:LI→Bool→Bool→LI→LI→LI→LI→Int→Option (LI×Unit))(x0:LI)(x1:Bool)(x2:Bool)(x3:LI)(x4:LI)(x5:LI)(x6:LI)(x7:Int):Option (LI×Unit):=
 cond (decide (x7<2))
  (let b682:Bool:=((decide (0≤x7))&&(decide (x7<3)))
  cond b682
   (cond b682
    (let v686:Int:=(y0 .i64 ((y7 x3 (y6 x7) 0)+(y7 x4 (y6 x7) 0)))
    cond (decide (v686<0))
     ((q3t F 1 [(y0 .i64 (8*x7))] x0).bind fun r689=>
     rec r689.1 x1 x2 x3 x4 x5 x6 (y0 .i64 (x7+1)))
     (cond (decide (31<v686))
      ((q3t F 1 [(y0 .i64 (8*x7))] x0).bind fun r694=>
      rec r694.1 x1 x2 x3 x4 x5 x6 (y0 .i64 (x7+1)))
      (rec x0 x1 x2 x3 x4 x5 x6 (y0 .i64 (x7+1)))))
     none)
    none)
  (some (x0,()))
def q4p(F:Nat):Nat→LI→Bool→Bool→LI→LI→LI→LI→Int→Option (LI×Unit)
 |0,_,_,_,_,_,_,_,_=>none
 |k+1,x0,x1,x2,x3,x4,x5,x6,x7=>qg9 F (q4p F k) x0 x1 x2 x3 x4 x5 x6 x7
def qjj(F:Nat)(a0:LI)(a1:LI)(a2:LI):Option (LI×Int×Unit):=
 (q3u F F a0 a1 a2 (a0++(a1++a2)) 0).bind fun r621=>match r621 with
  | .inl r621=>(some ([],1,()))
  | .inr r621=>((q3s F (y7 r621.1 0 0) 1 6 qpj).bind fun r623=>
   (q3t F (y7 r621.1 1 0) q8o r623.1).bind fun r626=>
   (q3t F (y7 r621.1 2 0) q8p r626.1).bind fun r629=>
   (q3t F (y7 r621.2.1 0 0) q8q r629.1).bind fun r632=>
   (q3s F (y7 r621.2.1 1 0) 32 38 r632.1).bind fun r635=>
   (q3s F (y7 r621.2.1 2 0) 39 44 r635.1).bind fun r638=>
   (q3s F (y7 r621.2.2.1 0 0) 45 50 r638.1).bind fun r641=>
   (q3s F (y7 r621.2.2.1 1 0) 51 57 r641.1).bind fun r644=>
   (q3s F (y7 r621.2.2.1 2 0) 58 63 r644.1).bind fun r647=>
   (q3t F 1 [30] r647.1).bind fun r649=>
   (q40 F r649.1).bind fun r651=>
   (q4p F F r649.1 r651.1.1 r651.1.2.1 r651.1.2.2.1 r651.1.2.2.2.1 r651.1.2.2.2.2.1 r651.1.2.2.2.2.2.1 0).bind fun r698=>
   (q04 F r698.1 false false [0,0,0] [0,0,0] [0,0] q6r false 19 20).bind fun r700=>
   (q04 F r698.1 false false [0,0,0] [0,0,0] [0,0] q6r false 22 23).bind fun r701=>
   let v702:Int:=(y0 .i64 (r700.1+r701.1))
   cond (decide (4≤v702))
    ((q3s F 7 16 18 r698.1).bind fun r704=>
    some (r704.1,0,()))
    ((q3t F 1 [21] r698.1).bind fun r706=>
    some (r706.1,0,())))
def q02:LI:=[0,0,0,0,0,0,0,0,0,0,0,0,0,0,0,0,0,0,0,0,0,0,0,0,0,0,0,0,0,0,0,0,0,0,0,0,0,0,0,0,0,0,0,0,0,0,0,0,0,0,0,0,0,0,0,0,0,0,0,0,0,0,0,0]
def q74(F:Nat)(rec:LI→Bool→Bool→LI→LI→LI→LI→Bool→Int→LI→Int→Int→Option (Int×Unit))(x0:LI)(x1:Bool)(x2:Bool)(x3:LI)(x4:LI)(x5:LI)(x6:LI)(x7:Bool)(x8:Int)(x9:LI)(x10:Int)(x11:Int):Option (Int×Unit):=
 cond (decide (x11<x10))
  (cond ((decide (0≤x11))&&(decide (x11<(((ya x9):Nat):Int))))
   ((qdg F x0 (y7 x9 (y6 x11) 0) 1).bind fun r782=>
   rec x0 x1 x2 x3 x4 x5 x6 x7 (ior .i64 (ishl .i64 x8 1) (y0 .i64 r782.1)) x9 x10 (y0 .i64 (x11+1)))
    none)
  (some (x8,()))
def q2q(F:Nat):Nat→LI→Bool→Bool→LI→LI→LI→LI→Bool→Int→LI→Int→Int→Option (Int×Unit)
 |0,_,_,_,_,_,_,_,_,_,_,_,_=>none
 |k+1,x0,x1,x2,x3,x4,x5,x6,x7,x8,x9,x10,x11=>q74 F (q2q F k) x0 x1 x2 x3 x4 x5 x6 x7 x8 x9 x10 x11
def q06(F:Nat)(a0:LI)(a1:Bool)(a2:Bool)(a3:LI)(a4:LI)(a5:LI)(a6:LI)(a7:Bool)(a8:LI):Option (Int×Unit):=
 (q2q F F a0 a1 a2 a3 a4 a5 a6 a7 0 a8 (((ya a8):Nat):Int) 0).bind fun r787=>
 some (r787.1,())
def qk0(F:Nat)(a0:LI)(a1:Bool):Option (LI×Bool×Bool×LI×LI×LI×LI×Bool×Unit):=
 cond (!a1)
  (cond a1
   ((q2r F a0 30 1 1).bind fun r796=>
   (q40 F r796.1).bind fun r798=>
   some (a0,r798.1.1,r798.1.2.1,r798.1.2.2.1,r798.1.2.2.2.1,r798.1.2.2.2.2.1,r798.1.2.2.2.2.2.1,true,()))
   ((q40 F a0).bind fun r799=>
   some (a0,r799.1.1,r799.1.2.1,r799.1.2.2.1,r799.1.2.2.2.1,r799.1.2.2.2.2.1,r799.1.2.2.2.2.2.1,true,())))
  ((q06 F a0 false false [0,0,0] [0,0,0] [0,0] q6r false [30]).bind fun r800=>
  let b801:Bool:=(r800.1==1)
  cond a1
   ((q2r F a0 30 1 1).bind fun r802=>
   (q40 F r802.1).bind fun r804=>
   some (a0,r804.1.1,r804.1.2.1,r804.1.2.2.1,r804.1.2.2.2.1,r804.1.2.2.2.2.1,r804.1.2.2.2.2.2.1,b801,()))
   ((q40 F a0).bind fun r805=>
   some (a0,r805.1.1,r805.1.2.1,r805.1.2.2.1,r805.1.2.2.2.1,r805.1.2.2.2.2.1,r805.1.2.2.2.2.2.1,b801,())))
def q7b(F:Nat)(a0:LI)(a1:Bool)(a2:Bool)(a3:LI)(a4:LI)(a5:LI)(a6:LI)(a7:Bool):Option (Int×Unit):=
 (q9u F (a1,a2,a3,a4,a5,a6,())).bind fun r946=>
 cond (r946.2.1==3)
  (some (0,()))
  (some ((y0 .i64 (1+r946.2.1)),()))
def q4q(F:Nat)(rec:LI→Bool→Bool→LI→LI→LI→LI→Bool→LI→LI→LI→LI→Int→Option (LI×LI×Unit))(x0:LI)(x1:Bool)(x2:Bool)(x3:LI)(x4:LI)(x5:LI)(x6:LI)(x7:Bool)(x8:LI)(x9:LI)(x10:LI)(x11:LI)(x12:Int):Option (LI×LI×Unit):=
 cond (decide (x12<16))
  (let b1178:Bool:=((decide (0≤x12))&&(decide (x12<16)))
  cond b1178
   (cond (!x7)
    (cond ((y7 x11 (y6 x12) 0)==0)
     ((q9v F x2 x12).bind fun r1182=>
     cond ((decide (0≤r1182.1))&&(decide (r1182.1<2)))
      (cond b1178
       (let n1186:Nat:=((y6 x12)*4)
       rec x0 x1 x2 x3 x4 x5 x6 x7 x8 (((y8 n1186 x9)++(y8 4 (y9 ((y6 r1182.1)*4) x10)))++(y9 (n1186+4) x9)) x10 x11 (y0 .i64 (x12+1)))
        none)
       none)
     (rec x0 x1 x2 x3 x4 x5 x6 x7 x8 x9 x10 x11 (y0 .i64 (x12+1))))
    (rec x0 x1 x2 x3 x4 x5 x6 x7 x8 x9 x10 x11 (y0 .i64 (x12+1))))
    none)
  (some (x8,x9,()))
def q1d(F:Nat):Nat→LI→Bool→Bool→LI→LI→LI→LI→Bool→LI→LI→LI→LI→Int→Option (LI×LI×Unit)
 |0,_,_,_,_,_,_,_,_,_,_,_,_,_=>none
 |k+1,x0,x1,x2,x3,x4,x5,x6,x7,x8,x9,x10,x11,x12=>q4q F (q1d F k) x0 x1 x2 x3 x4 x5 x6 x7 x8 x9 x10 x11 x12
def q7y(F:Nat)(a0:LI)(a1:Bool)(a2:Bool)(a3:LI)(a4:LI)(a5:LI)(a6:LI)(a7:Bool):Option (LI×Unit):=
 (qgs F (a1,a2,a3,a4,a5,a6,())).bind fun r1150=>
 (q9u F (a1,a2,a3,a4,a5,a6,())).bind fun r1151=>
 (q1d F F a0 a1 a2 a3 a4 a5 a6 a7 q02 r1150.1 r1151.1 a6 0).bind fun r1191=>
 some (r1191.2.1,())
def q7c(F:Nat)(rec:LI→LI→LI→LI→Int→Option (LI×LI×Unit))(x0:LI)(x1:LI)(x2:LI)(x3:LI)(x4:Int):Option (LI×LI×Unit):=
 cond (decide (x4<3))
  (let b1245:Bool:=((decide (0≤x4))&&(decide (x4<3)))
  cond b1245
   (cond b1245
    ((q10 F (y7 x3 (y6 x4) 0) (y7 x0 (y6 x4) 0)).bind fun r1249=>
    cond ((decide (0≤x4))&&(decide (x4<4)))
     (rec x0 x1 (yy x2 (y6 x4) r1249.1) x3 (y0 .i64 (x4+1)))
      none)
     none)
    none)
  (some (x1,x2,()))
def q3v(F:Nat):Nat→LI→LI→LI→LI→Int→Option (LI×LI×Unit)
 |0,_,_,_,_,_=>none
 |k+1,x0,x1,x2,x3,x4=>q7c F (q3v F k) x0 x1 x2 x3 x4
def qk1(F:Nat)(a0:LI)(a1:LI):Option (LI×Unit):=
 (q3v F F a1 [0,0,0,0] [0,0,0,255] a0 0).bind fun r1253=>
 some (r1253.2.1,())
def q6i(F:Nat)(a0:LI):Option (LI×Unit):=
 (qk1 F a0 [4,4,4]).bind fun r1254=>
 some (r1254.1,())
def etctwo_DistanceT1261:LI:=[3,6,11,16,23,32,41,64]
def q7d(F:Nat)(a0:Int):Option (Int×Unit):=
 let v1262:Int:=(iand .i64 a0 7)
 cond ((decide (0≤v1262))&&(decide (v1262<8)))
  (some ((y7 etctwo_DistanceT1261 (y6 v1262) 0),()))
   none
def q6b(F:Nat)(rec:Int→LI→LI→Int→Option (LI×LI×Unit))(x0:Int)(x1:LI)(x2:LI)(x3:Int):Option (LI×LI×Unit):=
 cond (decide (x3<3))
  (let b1279:Bool:=((decide (0≤x3))&&(decide (x3<4)))
  cond b1279
   ((q32 F (y0 .i64 ((y7 x1 (y6 x3) 0)+x0)) 255).bind fun r1283=>
   cond b1279
    (rec x0 (yy x1 (y6 x3) r1283.1) x2 (y0 .i64 (x3+1)))
     none)
    none)
  (some (x1,x2,()))
def q34(F:Nat):Nat→Int→LI→LI→Int→Option (LI×LI×Unit)
 |0,_,_,_,_=>none
 |k+1,x0,x1,x2,x3=>q6b F (q34 F k) x0 x1 x2 x3
def q0g(F:Nat)(a0:LI)(a1:Int):Option (LI×Unit):=
 (q34 F F a1 a0 [0,0,0,0] 0).bind fun r1286=>
 some (r1286.1,())
def q6j(F:Nat)(rec:LI→LI→LI→LI→Int→Option (LI×LI×Unit))(x0:LI)(x1:LI)(x2:LI)(x3:LI)(x4:Int):Option (LI×LI×Unit):=
 cond (decide (x4<16))
  (let b1332:Bool:=((decide (0≤x4))&&(decide (x4<16)))
  cond b1332
   (let v1333:Int:=(y7 x3 (y6 x4) 0)
   cond ((decide (0≤v1333))&&(decide (v1333<4)))
    (cond b1332
     (let n1337:Nat:=((y6 x4)*4)
     rec x0 x1 (((y8 n1337 x2)++(y8 4 (y9 ((y6 v1333)*4) x0)))++(y9 (n1337+4) x2)) x3 (y0 .i64 (x4+1)))
      none)
     none)
    none)
  (some (x1,x2,()))
def q27(F:Nat):Nat→LI→LI→LI→LI→Int→Option (LI×LI×Unit)
 |0,_,_,_,_,_=>none
 |k+1,x0,x1,x2,x3,x4=>q6j F (q27 F k) x0 x1 x2 x3 x4
def q5a(F:Nat)(a0:LI)(a1:Bool)(a2:Bool)(a3:LI)(a4:LI)(a5:LI)(a6:LI)(a7:Bool)(a8:LI):Option (LI×Unit):=
 (q27 F F a8 q02 q02 a6 0).bind fun r1340=>
 some (r1340.2.1,())
def qbx(F:Nat)(a0:LI)(a1:Bool)(a2:Bool)(a3:LI)(a4:LI)(a5:LI)(a6:LI)(a7:Bool):Option (LI×Unit):=
 (q06 F a0 a1 a2 a3 a4 a5 a6 a7 [3,4,6,7]).bind fun r1343=>
 (q04 F a0 a1 a2 a3 a4 a5 a6 a7 8 11).bind fun r1344=>
 (q04 F a0 a1 a2 a3 a4 a5 a6 a7 12 15).bind fun r1345=>
 (q6i F [r1343.1,r1344.1,r1345.1]).bind fun r1346=>
 (q04 F a0 a1 a2 a3 a4 a5 a6 a7 16 19).bind fun r1347=>
 (q04 F a0 a1 a2 a3 a4 a5 a6 a7 20 23).bind fun r1348=>
 (q04 F a0 a1 a2 a3 a4 a5 a6 a7 24 27).bind fun r1349=>
 (q6i F [r1347.1,r1348.1,r1349.1]).bind fun r1350=>
 (q06 F a0 a1 a2 a3 a4 a5 a6 a7 [28,29,31]).bind fun r1351=>
 (q7d F r1351.1).bind fun r1352=>
 (q0g F r1350.1 r1352.1).bind fun r1353=>
 (q0g F r1350.1 (y0 .i64 (0-r1352.1))).bind fun r1355=>
 (q5a F a0 a1 a2 a3 a4 a5 a6 a7 (r1346.1++(r1353.1++(r1350.1++r1355.1)))).bind fun r1357=>
 some (r1357.1,())
def qgv:LI:=[1,2,3,4,5,6,7,11,12,14,15,16]
def qby(F:Nat)(a0:LI)(a1:Bool)(a2:Bool)(a3:LI)(a4:LI)(a5:LI)(a6:LI)(a7:Bool):Option (LI×Unit):=
 (q04 F a0 a1 a2 a3 a4 a5 a6 a7 1 4).bind fun r1409=>
 (q06 F a0 a1 a2 a3 a4 a5 a6 a7 [5,6,7,11]).bind fun r1410=>
 (q06 F a0 a1 a2 a3 a4 a5 a6 a7 [12,14,15,16]).bind fun r1411=>
 (q04 F a0 a1 a2 a3 a4 a5 a6 a7 17 20).bind fun r1412=>
 (q04 F a0 a1 a2 a3 a4 a5 a6 a7 21 24).bind fun r1413=>
 (q04 F a0 a1 a2 a3 a4 a5 a6 a7 25 28).bind fun r1414=>
 (q06 F a0 a1 a2 a3 a4 a5 a6 a7 [29,31]).bind fun r1415=>
 let v1416:Int:=(ishl .i64 r1415.1 1)
 (q06 F a0 a1 a2 a3 a4 a5 a6 a7 qgv).bind fun r1417=>
 (q04 F a0 a1 a2 a3 a4 a5 a6 a7 17 28).bind fun r1418=>
 cond (decide (r1418.1≤r1417.1))
  ((q6i F [r1409.1,r1410.1,r1411.1]).bind fun r1421=>
  (q6i F [r1412.1,r1413.1,r1414.1]).bind fun r1422=>
  (q7d F (y0 .i64 (v1416+1))).bind fun r1423=>
  (q0g F r1421.1 r1423.1).bind fun r1424=>
  let v1425:Int:=(y0 .i64 (0-r1423.1))
  (q0g F r1421.1 v1425).bind fun r1426=>
  (q0g F r1422.1 r1423.1).bind fun r1427=>
  (q0g F r1422.1 v1425).bind fun r1428=>
  (q5a F a0 a1 a2 a3 a4 a5 a6 a7 (r1424.1++(r1426.1++(r1427.1++r1428.1)))).bind fun r1430=>
  some (r1430.1,()))
  ((q6i F [r1409.1,r1410.1,r1411.1]).bind fun r1431=>
  (q6i F [r1412.1,r1413.1,r1414.1]).bind fun r1432=>
  (q7d F v1416).bind fun r1433=>
  (q0g F r1431.1 r1433.1).bind fun r1434=>
  let v1435:Int:=(y0 .i64 (0-r1433.1))
  (q0g F r1431.1 v1435).bind fun r1436=>
  (q0g F r1432.1 r1433.1).bind fun r1437=>
  (q0g F r1432.1 v1435).bind fun r1438=>
  (q5a F a0 a1 a2 a3 a4 a5 a6 a7 (r1434.1++(r1436.1++(r1437.1++r1438.1)))).bind fun r1440=>
  some (r1440.1,()))
def qcq(F:Nat)(a0:LI):Option (LI×Unit):=
 (qk1 F a0 [6,7,6]).bind fun r1467=>
 some (r1467.1,())
def qbz(F:Nat)(rec:LI→LI→LI→LI→LI→Int→Int→Int→Option (LI×LI×LI×LI×LI×Int×Unit))(x0:LI)(x1:LI)(x2:LI)(x3:LI)(x4:LI)(x5:Int)(x6:Int)(x7:Int):Option (LI×LI×LI×LI×LI×Int×Unit):=
 cond (decide (x7<3))
  (let b1606:Bool:=((decide (0≤x7))&&(decide (x7<4)))
  cond b1606
   (cond b1606
    (let v1609:Int:=(y7 x0 (y6 x7) 0)
    cond b1606
     (cond b1606
      (cond b1606
       ((q32 F (ishr .i64 (y0 .i64 ((y0 .i64 ((y0 .i64 ((y0 .i64 ((yw x5 4)*(y0 .i64 ((y7 x1 (y6 x7) 0)-v1609))))+(y0 .i64 ((y0 .i64 (yx x5 4))*(y0 .i64 ((y7 x2 (y6 x7) 0)-v1609))))))+(y0 .i64 (4*v1609))))+2)) 2) 255).bind fun r1621=>
       cond ((decide (0≤x5))&&(decide (x5<16)))
        (cond b1606
         (rec x0 x1 x2 x3 (yy x4 (((y6 x5)*4)+(y6 x7)) r1621.1) x5 x6 (y0 .i64 (x7+1)))
          none)
         none)
        none)
       none)
      none)
     none)
    none)
  (some (x0,x1,x2,x3,x4,x6,()))
def q5g(F:Nat):Nat→LI→LI→LI→LI→LI→Int→Int→Int→Option (LI×LI×LI×LI×LI×Int×Unit)
 |0,_,_,_,_,_,_,_,_=>none
 |k+1,x0,x1,x2,x3,x4,x5,x6,x7=>qbz F (q5g F k) x0 x1 x2 x3 x4 x5 x6 x7
def qc0(F:Nat)(rec:LI→LI→LI→LI→LI→Int→Option (LI×LI×Unit))(x0:LI)(x1:LI)(x2:LI)(x3:LI)(x4:LI)(x5:Int):Option (LI×LI×Unit):=
 cond (decide (x5<16))
  (cond ((decide (0≤x5))&&(decide (x5<16)))
   ((q5g F F x0 x1 x2 x3 (yy x4 (3+((y6 x5)*4)) 255) x5 x5 0).bind fun r1627=>
   rec r1627.1 r1627.2.1 r1627.2.2.1 r1627.2.2.2.1 r1627.2.2.2.2.1 (y0 .i64 (r1627.2.2.2.2.2.1+1)))
    none)
  (some (x3,x4,()))
def q5h(F:Nat):Nat→LI→LI→LI→LI→LI→Int→Option (LI×LI×Unit)
 |0,_,_,_,_,_,_=>none
 |k+1,x0,x1,x2,x3,x4,x5=>qc0 F (q5h F k) x0 x1 x2 x3 x4 x5
def qlm(F:Nat)(a0:LI)(a1:LI)(a2:LI):Option (LI×Unit):=
 (q5h F F a0 a1 a2 q02 q02 0).bind fun r1629=>
 some (r1629.2.1,())
def q7z(F:Nat)(a0:LI)(a1:Bool)(a2:Bool)(a3:LI)(a4:LI)(a5:LI)(a6:LI)(a7:Bool):Option (LI×Unit):=
 (q04 F a0 a1 a2 a3 a4 a5 a6 a7 1 6).bind fun r1632=>
 (q06 F a0 a1 a2 a3 a4 a5 a6 a7 q8o).bind fun r1633=>
 (q06 F a0 a1 a2 a3 a4 a5 a6 a7 q8p).bind fun r1634=>
 (q06 F a0 a1 a2 a3 a4 a5 a6 a7 q8q).bind fun r1635=>
 (q04 F a0 a1 a2 a3 a4 a5 a6 a7 32 38).bind fun r1636=>
 (q04 F a0 a1 a2 a3 a4 a5 a6 a7 39 44).bind fun r1637=>
 (q04 F a0 a1 a2 a3 a4 a5 a6 a7 45 50).bind fun r1638=>
 (q04 F a0 a1 a2 a3 a4 a5 a6 a7 51 57).bind fun r1639=>
 (q04 F a0 a1 a2 a3 a4 a5 a6 a7 58 63).bind fun r1640=>
 (qcq F [r1632.1,r1633.1,r1634.1]).bind fun r1641=>
 (qcq F [r1635.1,r1636.1,r1637.1]).bind fun r1642=>
 (qcq F [r1638.1,r1639.1,r1640.1]).bind fun r1643=>
 (qlm F r1641.1 r1642.1 r1643.1).bind fun r1644=>
 some (r1644.1,())
def qao(F:Nat)(rec:LI→LI→Bool→Bool→LI→LI→LI→LI→Bool→Int→LI→LI→Int→Option (LI×LI×Unit))(x0:LI)(x1:LI)(x2:Bool)(x3:Bool)(x4:LI)(x5:LI)(x6:LI)(x7:LI)(x8:Bool)(x9:Int)(x10:LI)(x11:LI)(x12:Int):Option (LI×LI×Unit):=
 cond (decide (x12<16))
  (let b1214:Bool:=((decide (0≤x12))&&(decide (x12<16)))
  cond b1214
   (cond (!x8)
    (cond (x9 !=3)
     (cond ((y7 x11 (y6 x12) 0)==2)
      (cond b1214
       (let n1219:Nat:=((y6 x12)*4)
       rec x0 x1 x2 x3 x4 x5 x6 x7 x8 x9 (((y8 n1219 x10)++[0,0,0,0])++(y9 (n1219+4) x10)) x11 (y0 .i64 (x12+1)))
        none)
      (rec x0 x1 x2 x3 x4 x5 x6 x7 x8 x9 x10 x11 (y0 .i64 (x12+1))))
     (rec x0 x1 x2 x3 x4 x5 x6 x7 x8 x9 x10 x11 (y0 .i64 (x12+1))))
    (rec x0 x1 x2 x3 x4 x5 x6 x7 x8 x9 x10 x11 (y0 .i64 (x12+1))))
    none)
  (some (x0,x10,()))
def q20(F:Nat):Nat→LI→LI→Bool→Bool→LI→LI→LI→LI→Bool→Int→LI→LI→Int→Option (LI×LI×Unit)
 |0,_,_,_,_,_,_,_,_,_,_,_,_,_=>none
 |k+1,x0,x1,x2,x3,x4,x5,x6,x7,x8,x9,x10,x11,x12=>qao F (q20 F k) x0 x1 x2 x3 x4 x5 x6 x7 x8 x9 x10 x11 x12
def qap(F:Nat)(a0:LI)(a1:Bool):Option (LI×Int×Unit):=
 cond ((((ya a0):Nat):Int) !=8)
  (some (q02,1,()))
  ((qk0 F a0 a1).bind fun r806=>
  (q7b F r806.1 r806.2.1 r806.2.2.1 r806.2.2.2.1 r806.2.2.2.2.1 r806.2.2.2.2.2.1 r806.2.2.2.2.2.2.1 r806.2.2.2.2.2.2.2.1).bind fun r949=>
  cond (r949.1==0)
   ((q7y F r806.1 r806.2.1 r806.2.2.1 r806.2.2.2.1 r806.2.2.2.2.1 r806.2.2.2.2.2.1 r806.2.2.2.2.2.2.1 r806.2.2.2.2.2.2.2.1).bind fun r1192=>
   (q20 F F q02 r806.1 r806.2.1 r806.2.2.1 r806.2.2.2.1 r806.2.2.2.2.1 r806.2.2.2.2.2.1 r806.2.2.2.2.2.2.1 r806.2.2.2.2.2.2.2.1 r949.1 r1192.1 r806.2.2.2.2.2.2.1 0).bind fun r1225=>
   some (r1225.2.1,0,()))
   (cond (r949.1==1)
    ((qbx F r806.1 r806.2.1 r806.2.2.1 r806.2.2.2.1 r806.2.2.2.2.1 r806.2.2.2.2.2.1 r806.2.2.2.2.2.2.1 r806.2.2.2.2.2.2.2.1).bind fun r1358=>
    (q20 F F q02 r806.1 r806.2.1 r806.2.2.1 r806.2.2.2.1 r806.2.2.2.2.1 r806.2.2.2.2.2.1 r806.2.2.2.2.2.2.1 r806.2.2.2.2.2.2.2.1 r949.1 r1358.1 r806.2.2.2.2.2.2.1 0).bind fun r1372=>
    some (r1372.2.1,0,()))
    (cond (r949.1==2)
     ((qby F r806.1 r806.2.1 r806.2.2.1 r806.2.2.2.1 r806.2.2.2.2.1 r806.2.2.2.2.2.1 r806.2.2.2.2.2.2.1 r806.2.2.2.2.2.2.2.1).bind fun r1441=>
     (q20 F F q02 r806.1 r806.2.1 r806.2.2.1 r806.2.2.2.1 r806.2.2.2.2.1 r806.2.2.2.2.2.1 r806.2.2.2.2.2.2.1 r806.2.2.2.2.2.2.2.1 r949.1 r1441.1 r806.2.2.2.2.2.2.1 0).bind fun r1455=>
     some (r1455.2.1,0,()))
     (cond (r949.1==3)
      ((q7z F r806.1 r806.2.1 r806.2.2.1 r806.2.2.2.1 r806.2.2.2.2.1 r806.2.2.2.2.2.1 r806.2.2.2.2.2.2.1 r806.2.2.2.2.2.2.2.1).bind fun r1645=>
      (q20 F F q02 r806.1 r806.2.1 r806.2.2.1 r806.2.2.2.1 r806.2.2.2.2.1 r806.2.2.2.2.2.1 r806.2.2.2.2.2.2.1 r806.2.2.2.2.2.2.2.1 r949.1 r1645.1 r806.2.2.2.2.2.2.1 0).bind fun r1659=>
      some (r1659.2.1,0,()))
       none))))
def z9h(F:Nat)(a0:LI)(a1:Bool):Option (Int×Unit):=
 cond ((((ya a0):Nat):Int) !=8)
  (some (0,()))
  ((qk0 F a0 a1).bind fun r1669=>
  (q7b F r1669.1 r1669.2.1 r1669.2.2.1 r1669.2.2.2.1 r1669.2.2.2.2.1 r1669.2.2.2.2.2.1 r1669.2.2.2.2.2.2.1 r1669.2.2.2.2.2.2.2.1).bind fun r1671=>
  some (r1671.1,()))
def qfl(F:Nat)(a0:LI)(a1:Bool):Option ((Bool×Bool×LI×LI×LI×LI×Unit)×Unit):=
 cond a1
  ((qbg F a0 30 1 true 1).bind fun r2404=>
  (q6q F r2404.1).bind fun r2524=>
  some ((r2524.1.1,r2524.1.2.1,r2524.1.2.2.1,r2524.1.2.2.2.1,r2524.1.2.2.2.2.1,r2524.1.2.2.2.2.2.1,()),()))
  ((q6q F a0).bind fun r2525=>
  some ((r2525.1.1,r2525.1.2.1,r2525.1.2.2.1,r2525.1.2.2.2.1,r2525.1.2.2.2.2.1,r2525.1.2.2.2.2.2.1,()),()))
def qwh(F:Nat)(a0:LI)(a1:Bool):Option (Int×Unit):=
 cond ((((ya a0):Nat):Int) !=8)
  (some (0,()))
  ((qfl F a0 a1).bind fun r2526=>
  (q9w F (r2526.1.1,r2526.1.2.1,r2526.1.2.2.1,r2526.1.2.2.2.1,r2526.1.2.2.2.2.1,r2526.1.2.2.2.2.2.1,())).bind fun r2670=>
  cond (r2670.2.1==3)
   (some (0,()))
   (some ((y0 .i64 (r2670.2.1+1)),())))
def q2s(F:Nat)(a0:LI)(a1:Int)(a2:Int):Option (Int×Unit):=
 (q26 F a0 a1 (y0 .i64 ((y0 .i64 (a2-a1))+1))).bind fun r2679=>
 some (r2679.1,())
def qga(F:Nat)(rec:LI→LI→Int→Int→Option (Int×Unit))(x0:LI)(x1:LI)(x2:Int)(x3:Int):Option (Int×Unit):=
 let v2704:Int:=(((ya x1):Nat):Int)
 cond (decide (x3<v2704))
  (cond ((decide (0≤x3))&&(decide (x3<(((ya x1):Nat):Int))))
   ((q26 F x0 (y7 x1 (y6 x3) 0) 1).bind fun r2710=>
   rec x0 x1 (y0 .i64 ((y0 .i64 (2*x2))+r2710.1)) (y0 .i64 (x3+1)))
    none)
  (some (x2,()))
def q80(F:Nat):Nat→LI→LI→Int→Int→Option (Int×Unit)
 |0,_,_,_,_=>none
 |k+1,x0,x1,x2,x3=>qga F (q80 F k) x0 x1 x2 x3
def q38(F:Nat)(a0:LI)(a1:LI):Option (Int×Unit):=
 (q80 F F a0 a1 0 0).bind fun r2713=>
 some (r2713.1,())
def qfm(F:Nat)(a0:LI):Option (LI×Unit):=
 (q0k F (y7 a0 0 0) 6).bind fun r2723=>
 (q0k F (y7 a0 1 0) 7).bind fun r2725=>
 (q0k F (y7 a0 2 0) 6).bind fun r2727=>
 some ([r2723.1,r2725.1,r2727.1,255],())
def qdm(F:Nat)(rec:LI→LI→LI→LI→LI→Int→Int→Option (LI×LI×LI×LI×LI×Int×Unit))(x0:LI)(x1:LI)(x2:LI)(x3:LI)(x4:LI)(x5:Int)(x6:Int):Option (LI×LI×LI×LI×LI×Int×Unit):=
 cond (decide (x6<3))
  (let b2879:Bool:=((decide (0≤x6))&&(decide (x6<4)))
  cond b2879
   (cond b2879
    (let v2882:Int:=(y7 x0 (y6 x6) 0)
    cond b2879
     (cond b2879
      (cond b2879
       ((qnp F 0 (y0 .i64 ((y0 .i64 ((y0 .i64 ((y0 .i64 ((yw x5 4)*(y0 .i64 ((y7 x1 (y6 x6) 0)-v2882))))+(y0 .i64 ((y0 .i64 (yx x5 4))*(y0 .i64 ((y7 x2 (y6 x6) 0)-v2882))))))+(y0 .i64 (4*v2882))))+2)) 1 4 0).bind fun r2893=>
       (q5f F r2893.1 255).bind fun r2894=>
       cond ((decide (0≤x5))&&(decide (x5<16)))
        (cond b2879
         (rec x0 x1 x2 x3 (yy x4 (((y6 x5)*4)+(y6 x6)) r2894.1) x5 (y0 .i64 (x6+1)))
          none)
         none)
        none)
       none)
      none)
     none)
    none)
  (some (x0,x1,x2,x3,x4,x5,()))
def q6s(F:Nat):Nat→LI→LI→LI→LI→LI→Int→Int→Option (LI×LI×LI×LI×LI×Int×Unit)
 |0,_,_,_,_,_,_,_=>none
 |k+1,x0,x1,x2,x3,x4,x5,x6=>qdm F (q6s F k) x0 x1 x2 x3 x4 x5 x6
def qdn(F:Nat)(rec:LI→LI→LI→LI→LI→Int→Option (LI×LI×Unit))(x0:LI)(x1:LI)(x2:LI)(x3:LI)(x4:LI)(x5:Int):Option (LI×LI×Unit):=
 cond (decide (x5<16))
  (cond ((decide (0≤x5))&&(decide (x5<16)))
   ((q6s F F x0 x1 x2 x3 (yy x4 (3+((y6 x5)*4)) 255) x5 0).bind fun r2900=>
   rec r2900.1 r2900.2.1 r2900.2.2.1 r2900.2.2.2.1 r2900.2.2.2.2.1 (y0 .i64 (r2900.2.2.2.2.2.1+1)))
    none)
  (some (x3,x4,()))
def q6t(F:Nat):Nat→LI→LI→LI→LI→LI→Int→Option (LI×LI×Unit)
 |0,_,_,_,_,_,_=>none
 |k+1,x0,x1,x2,x3,x4,x5=>qdn F (q6t F k) x0 x1 x2 x3 x4 x5
def qpk(F:Nat)(a0:LI)(a1:LI)(a2:LI):Option (LI×Unit):=
 (q6t F F a0 a1 a2 q02 q02 0).bind fun r2902=>
 some (r2902.2.1,())
def qln(F:Nat)(a0:LI):Option (LI×Unit):=
 (q2s F a0 1 6).bind fun r2680=>
 (q38 F a0 q8o).bind fun r2714=>
 (q38 F a0 q8p).bind fun r2715=>
 (q38 F a0 q8q).bind fun r2716=>
 (q2s F a0 32 38).bind fun r2717=>
 (q2s F a0 39 44).bind fun r2718=>
 (q2s F a0 45 50).bind fun r2719=>
 (q2s F a0 51 57).bind fun r2720=>
 (q2s F a0 58 63).bind fun r2721=>
 (qfm F [r2680.1,r2714.1,r2715.1]).bind fun r2728=>
 (qfm F [r2716.1,r2717.1,r2718.1]).bind fun r2729=>
 (qfm F [r2719.1,r2720.1,r2721.1]).bind fun r2730=>
 (qpk F r2728.1 r2729.1 r2730.1).bind fun r2903=>
 some (r2903.1,())
def q2t(F:Nat)(a0:LI):Option (LI×Unit):=
 (q0k F (y7 a0 0 0) 4).bind fun r2999=>
 (q0k F (y7 a0 1 0) 4).bind fun r3001=>
 (q0k F (y7 a0 2 0) 4).bind fun r3003=>
 some ([r2999.1,r3001.1,r3003.1,255],())
def q8r(F:Nat)(a0:Int):Option (Int×Unit):=
 let v3010:Int:=(yw a0 8)
 cond (decide (v3010<0))
  (let v3012:Int:=(y0 .i64 (v3010+8))
  cond ((decide (0≤v3012))&&(decide (v3012<8)))
   (some ((y7 etctwo_DistanceT1261 (y6 v3012) 0),()))
    none)
  (cond ((decide (0≤v3010))&&(decide (v3010<8)))
   (some ((y7 etctwo_DistanceT1261 (y6 v3010) 0),()))
    none)
def qgw(F:Nat)(a0:LI):Option (Int×Unit):=
 some ((y0 .i64 ((y0 .i64 ((y0 .i64 (256*(y7 a0 0 0)))+(y0 .i64 (16*(y7 a0 1 0)))))+(y7 a0 2 0))),())
def qfn(F:Nat)(a0:LI)(a1:Int):Option (LI×Unit):=
 cond (a1==1)
  ((q38 F a0 [3,4,6,7]).bind fun r2995=>
  (q2s F a0 8 11).bind fun r2996=>
  (q2s F a0 12 15).bind fun r2997=>
  (q2t F [r2995.1,r2996.1,r2997.1]).bind fun r3004=>
  (q2s F a0 16 19).bind fun r3005=>
  (q2s F a0 20 23).bind fun r3006=>
  (q2s F a0 24 27).bind fun r3007=>
  (q2t F [r3005.1,r3006.1,r3007.1]).bind fun r3008=>
  (q38 F a0 [28,29,31]).bind fun r3009=>
  (q8r F r3009.1).bind fun r3019=>
  (q1t F r3008.1 r3019.1).bind fun r3020=>
  (q1t F r3008.1 (y0 .i64 (0-r3019.1))).bind fun r3022=>
  some ((r3004.1++(r3020.1++(r3008.1++r3022.1))),()))
  ((q2s F a0 1 4).bind fun r3024=>
  (q38 F a0 [5,6,7,11]).bind fun r3025=>
  (q38 F a0 [12,14,15,16]).bind fun r3026=>
  (q2s F a0 17 20).bind fun r3027=>
  (q2s F a0 21 24).bind fun r3028=>
  (q2s F a0 25 28).bind fun r3029=>
  (q38 F a0 [29,31]).bind fun r3030=>
  let v3031:Int:=(y0 .i64 (2*r3030.1))
  (qgw F [r3024.1,r3025.1,r3026.1]).bind fun r3039=>
  (qgw F [r3027.1,r3028.1,r3029.1]).bind fun r3040=>
  cond (decide (r3040.1≤r3039.1))
   ((q8r F (y0 .i64 (v3031+1))).bind fun r3043=>
   (q2t F [r3024.1,r3025.1,r3026.1]).bind fun r3044=>
   (q1t F r3044.1 r3043.1).bind fun r3045=>
   (q2t F [r3024.1,r3025.1,r3026.1]).bind fun r3046=>
   let v3047:Int:=(y0 .i64 (0-r3043.1))
   (q1t F r3046.1 v3047).bind fun r3048=>
   (q2t F [r3027.1,r3028.1,r3029.1]).bind fun r3049=>
   (q1t F r3049.1 r3043.1).bind fun r3050=>
   (q2t F [r3027.1,r3028.1,r3029.1]).bind fun r3051=>
   (q1t F r3051.1 v3047).bind fun r3052=>
   some ((r3045.1++(r3048.1++(r3050.1++r3052.1))),()))
   ((q8r F v3031).bind fun r3054=>
   (q2t F [r3024.1,r3025.1,r3026.1]).bind fun r3055=>
   (q1t F r3055.1 r3054.1).bind fun r3056=>
   (q2t F [r3024.1,r3025.1,r3026.1]).bind fun r3057=>
   let v3058:Int:=(y0 .i64 (0-r3054.1))
   (q1t F r3057.1 v3058).bind fun r3059=>
   (q2t F [r3027.1,r3028.1,r3029.1]).bind fun r3060=>
   (q1t F r3060.1 r3054.1).bind fun r3061=>
   (q2t F [r3027.1,r3028.1,r3029.1]).bind fun r3062=>
   (q1t F r3062.1 v3058).bind fun r3063=>
   some ((r3056.1++(r3059.1++(r3061.1++r3063.1))),())))
def q3e(F:Nat)(rec:LI→LI→Int→Bool→Bool→Bool→LI→LI→LI→LI→LI→LI→Int→Option (LI×LI×Unit))(x0:LI)(x1:LI)(x2:Int)(x3:Bool)(x4:Bool)(x5:Bool)(x6:LI)(x7:LI)(x8:LI)(x9:LI)(x10:LI)(x11:LI)(x12:Int):Option (LI×LI×Unit):=
 cond (decide (x12<16))
  (cond (x2==1)
   ((qfn F x0 x2).bind fun r3268=>
   let b3269:Bool:=((decide (0≤x12))&&(decide (x12<16)))
   cond b3269
    (let v3271:Int:=(y7 x9 (y6 x12) 0)
    cond ((decide (0≤v3271))&&(decide (v3271<4)))
     (cond b3269
      (let n3274:Nat:=((y6 x12)*4)
      let l3275:LI:=(((y8 n3274 x10)++(y8 4 (y9 ((y6 v3271)*4) r3268.1)))++(y9 (n3274+4) x10))
      cond (!x3)
       (cond b3269
        (cond (v3271==2)
         (cond b3269
          (rec x0 x1 x2 x3 x4 x5 x6 x7 x8 x9 (((y8 n3274 l3275)++[0,0,0,0])++(y9 (n3274+4) l3275)) x11 (y0 .i64 (x12+1)))
           none)
         (rec x0 x1 x2 x3 x4 x5 x6 x7 x8 x9 l3275 x11 (y0 .i64 (x12+1))))
         none)
       (rec x0 x1 x2 x3 x4 x5 x6 x7 x8 x9 l3275 x11 (y0 .i64 (x12+1))))
       none)
      none)
     none)
   (cond (x2==2)
    ((qfn F x0 x2).bind fun r3283=>
    let b3284:Bool:=((decide (0≤x12))&&(decide (x12<16)))
    cond b3284
     (let v3286:Int:=(y7 x9 (y6 x12) 0)
     cond ((decide (0≤v3286))&&(decide (v3286<4)))
      (cond b3284
       (let n3289:Nat:=((y6 x12)*4)
       let l3290:LI:=(((y8 n3289 x10)++(y8 4 (y9 ((y6 v3286)*4) r3283.1)))++(y9 (n3289+4) x10))
       cond (!x3)
        (cond b3284
         (cond (v3286==2)
          (cond b3284
           (rec x0 x1 x2 x3 x4 x5 x6 x7 x8 x9 (((y8 n3289 l3290)++[0,0,0,0])++(y9 (n3289+4) l3290)) x11 (y0 .i64 (x12+1)))
            none)
          (rec x0 x1 x2 x3 x4 x5 x6 x7 x8 x9 l3290 x11 (y0 .i64 (x12+1))))
          none)
        (rec x0 x1 x2 x3 x4 x5 x6 x7 x8 x9 l3290 x11 (y0 .i64 (x12+1))))
        none)
       none)
      none)
    (cond (!x3)
     (let b3298:Bool:=((decide (0≤x12))&&(decide (x12<16)))
     cond b3298
      (let v3300:Int:=(y7 x9 (y6 x12) 0)
      cond (v3300==0)
       ((qnq F x5 x12).bind fun r3302=>
       cond ((decide (0≤r3302.1))&&(decide (r3302.1<2)))
        (cond b3298
         (let n3306:Nat:=((y6 x12)*4)
         let l3307:LI:=(((y8 n3306 x10)++(y8 4 (y9 ((y6 r3302.1)*4) x11)))++(y9 (n3306+4) x10))
         cond (!x3)
          (cond b3298
           (cond (v3300==2)
            (cond b3298
             (rec x0 x1 x2 x3 x4 x5 x6 x7 x8 x9 (((y8 n3306 l3307)++[0,0,0,0])++(y9 (n3306+4) l3307)) x11 (y0 .i64 (x12+1)))
              none)
            (rec x0 x1 x2 x3 x4 x5 x6 x7 x8 x9 l3307 x11 (y0 .i64 (x12+1))))
            none)
          (rec x0 x1 x2 x3 x4 x5 x6 x7 x8 x9 l3307 x11 (y0 .i64 (x12+1))))
          none)
         none)
       (cond (!x3)
        (cond b3298
         (cond (v3300==2)
          (cond b3298
           (let n3314:Nat:=((y6 x12)*4)
           rec x0 x1 x2 x3 x4 x5 x6 x7 x8 x9 (((y8 n3314 x10)++[0,0,0,0])++(y9 (n3314+4) x10)) x11 (y0 .i64 (x12+1)))
            none)
          (rec x0 x1 x2 x3 x4 x5 x6 x7 x8 x9 x10 x11 (y0 .i64 (x12+1))))
          none)
        (rec x0 x1 x2 x3 x4 x5 x6 x7 x8 x9 x10 x11 (y0 .i64 (x12+1)))))
       none)
     (cond (!x3)
      (let b3319:Bool:=((decide (0≤x12))&&(decide (x12<16)))
      cond b3319
       (cond ((y7 x9 (y6 x12) 0)==2)
        (cond b3319
         (let n3323:Nat:=((y6 x12)*4)
         rec x0 x1 x2 x3 x4 x5 x6 x7 x8 x9 (((y8 n3323 x10)++[0,0,0,0])++(y9 (n3323+4) x10)) x11 (y0 .i64 (x12+1)))
          none)
        (rec x0 x1 x2 x3 x4 x5 x6 x7 x8 x9 x10 x11 (y0 .i64 (x12+1))))
        none)
      (rec x0 x1 x2 x3 x4 x5 x6 x7 x8 x9 x10 x11 (y0 .i64 (x12+1)))))))
  (some (x1,x10,()))
def q0d(F:Nat):Nat→LI→LI→Int→Bool→Bool→Bool→LI→LI→LI→LI→LI→LI→Int→Option (LI×LI×Unit)
 |0,_,_,_,_,_,_,_,_,_,_,_,_,_=>none
 |k+1,x0,x1,x2,x3,x4,x5,x6,x7,x8,x9,x10,x11,x12=>q3e F (q0d F k) x0 x1 x2 x3 x4 x5 x6 x7 x8 x9 x10 x11 x12
def q6k(F:Nat)(a0:LI)(a1:Bool):Option (LI×Int×Unit):=
 cond ((((ya a0):Nat):Int) !=8)
  (some (q02,1,()))
  ((qwh F a0 a1).bind fun r3195=>
  cond (r3195.1==3)
   ((qln F a0).bind fun r3197=>
   some (r3197.1,0,()))
   (cond (!a1)
    ((qfl F a0 a1).bind fun r3199=>
    (q9x F (r3199.1.1,r3199.1.2.1,r3199.1.2.2.1,r3199.1.2.2.2.1,r3199.1.2.2.2.2.1,r3199.1.2.2.2.2.2.1,())).bind fun r3200=>
    (q9w F (r3199.1.1,r3199.1.2.1,r3199.1.2.2.1,r3199.1.2.2.2.1,r3199.1.2.2.2.2.1,r3199.1.2.2.2.2.2.1,())).bind fun r3201=>
    (q0d F F a0 q02 r3195.1 true r3199.1.1 r3199.1.2.1 r3199.1.2.2.1 r3199.1.2.2.2.1 r3199.1.2.2.2.2.1 r3199.1.2.2.2.2.2.1 r3200.1 r3201.1 0).bind fun r3328=>
    some (r3328.2.1,0,()))
    ((q26 F a0 30 1).bind fun r3329=>
    (qfl F a0 a1).bind fun r3331=>
    (q9x F (r3331.1.1,r3331.1.2.1,r3331.1.2.2.1,r3331.1.2.2.2.1,r3331.1.2.2.2.2.1,r3331.1.2.2.2.2.2.1,())).bind fun r3332=>
    (q9w F (r3331.1.1,r3331.1.2.1,r3331.1.2.2.1,r3331.1.2.2.2.1,r3331.1.2.2.2.2.1,r3331.1.2.2.2.2.2.1,())).bind fun r3333=>
    (q0d F F a0 q02 r3195.1 (r3329.1==1) r3331.1.1 r3331.1.2.1 r3331.1.2.2.1 r3331.1.2.2.2.1 r3331.1.2.2.2.2.1 r3331.1.2.2.2.2.2.1 r3332.1 r3333.1 0).bind fun r3397=>
    some (r3397.2.1,0,()))))
def qxi(F:Nat)(rec:Int→LI→Int→Option (LI×Unit))(x0:Int)(x1:LI)(x2:Int):Option (LI×Unit):=
 cond (decide (x2≤x0))
  (cond ((decide (((ya x1)+1)≤1099511627776))&&true)
   (rec x0 (x1++[x2]) (y0 .i64 (x2+1)))
    none)
  (some (x1,()))
def qit(F:Nat):Nat→Int→LI→Int→Option (LI×Unit)
 |0,_,_,_=>none
 |k+1,x0,x1,x2=>qxi F (qit F k) x0 x1 x2
def q5b(F:Nat)(a0:Int)(a1:Int):Option (LI×Unit):=
 (qit F F a1 [] a0).bind fun r3491=>
 some (r3491.1,())
def qiu(F:Nat)(rec:LI→LI→Int→Int→Option (LI×Unit))(x0:LI)(x1:LI)(x2:Int)(x3:Int):Option (LI×Unit):=
 cond (decide (0≤x3))
  (cond ((decide (0≤x3))&&(decide (x3<(((ya x1):Nat):Int))))
   ((qbg F x0 (y7 x1 (y6 x3) 0) 1 true (y0 .u64 (yw x2 2))).bind fun r3561=>
   rec r3561.1 x1 (y0 .i64 (yx x2 2)) (y0 .i64 (x3-1)))
    none)
  (some (x0,()))
def q7t(F:Nat):Nat→LI→LI→Int→Int→Option (LI×Unit)
 |0,_,_,_,_=>none
 |k+1,x0,x1,x2,x3=>qiu F (q7t F k) x0 x1 x2 x3
def q43(F:Nat)(a0:LI)(a1:LI)(a2:Int):Option (LI×Unit):=
 (q7t F F a0 a1 a2 (y0 .i64 ((((ya a1):Nat):Int)-1))).bind fun r3565=>
 some (r3565.1,())
def qiv(F:Nat)(rec:LI→LI→LI→LI→Int→Option (Unit⊕(LI×LI×LI×Unit)))(x0:LI)(x1:LI)(x2:LI)(x3:LI)(x4:Int):Option (Unit⊕(LI×LI×LI×Unit)):=
 let n3692:Nat:=((ya x3)/3)
 cond (decide (x4<3))
  (let b3694:Bool:=((decide (0≤x4))&&(decide (x4<((n3692:Nat):Int))))
  cond b3694
   (let n3695:Nat:=((y6 x4)*3)
   (q73 F (y7 x3 n3695 0) 0 63).bind fun r3697=>
   cond (!r3697.1)
    (some (.inl ()))
    (cond b3694
     ((q73 F (y7 x3 (1+n3695) 0) 0 127).bind fun r3701=>
     cond (!r3701.1)
      (some (.inl ()))
      (cond b3694
       ((q73 F (y7 x3 (2+n3695) 0) 0 63).bind fun r3705=>
       cond (!r3705.1)
        (some (.inl ()))
        (rec x0 x1 x2 x3 (y0 .i64 (x4+1))))
        none))
      none))
    none)
  (some (.inr (x0,x1,x2,())))
def q54(F:Nat):Nat→LI→LI→LI→LI→Int→Option (Unit⊕(LI×LI×LI×Unit))
 |0,_,_,_,_,_=>none
 |k+1,x0,x1,x2,x3,x4=>qiv F (q54 F k) x0 x1 x2 x3 x4
def qiw(F:Nat)(rec:LI→Int→Option (LI×Unit))(x0:LI)(x1:Int):Option (LI×Unit):=
 cond (decide (x1<2))
  ((q6q F x0).bind fun r3782=>
  let b3783:Bool:=((decide (0≤x1))&&(decide (x1<3)))
  cond b3783
   (cond b3783
    (let v3787:Int:=(y0 .i64 ((y7 r3782.1.2.2.1 (y6 x1) 0)+(y7 r3782.1.2.2.2.1 (y6 x1) 0)))
    cond (decide (v3787<0))
     ((q43 F x0 [(y0 .i64 (8*x1))] 1).bind fun r3790=>
     rec r3790.1 (y0 .i64 (x1+1)))
     (cond (decide (31<v3787))
      ((q43 F x0 [(y0 .i64 (8*x1))] 1).bind fun r3795=>
      rec r3795.1 (y0 .i64 (x1+1)))
      (rec x0 (y0 .i64 (x1+1)))))
     none)
    none)
  (some (x0,()))
def q6l(F:Nat):Nat→LI→Int→Option (LI×Unit)
 |0,_,_=>none
 |k+1,x0,x1=>qiw F (q6l F k) x0 x1
def qtc(F:Nat)(a0:LI)(a1:LI)(a2:LI):Option (LI×Int×Unit):=
 (q54 F F a0 a1 a2 (a0++(a1++a2)) 0).bind fun r3708=>match r3708 with
  | .inl r3708=>(some ([],1,()))
  | .inr r3708=>((q5b F 1 6).bind fun r3710=>
   (q43 F qpj r3710.1 (y7 r3708.1 0 0)).bind fun r3712=>
   (q43 F r3712.1 q8o (y7 r3708.1 1 0)).bind fun r3715=>
   (q43 F r3715.1 q8p (y7 r3708.1 2 0)).bind fun r3718=>
   (q43 F r3718.1 q8q (y7 r3708.2.1 0 0)).bind fun r3721=>
   (q5b F 32 38).bind fun r3724=>
   (q43 F r3721.1 r3724.1 (y7 r3708.2.1 1 0)).bind fun r3726=>
   (q5b F 39 44).bind fun r3729=>
   (q43 F r3726.1 r3729.1 (y7 r3708.2.1 2 0)).bind fun r3731=>
   (q5b F 45 50).bind fun r3734=>
   (q43 F r3731.1 r3734.1 (y7 r3708.2.2.1 0 0)).bind fun r3736=>
   (q5b F 51 57).bind fun r3739=>
   (q43 F r3736.1 r3739.1 (y7 r3708.2.2.1 1 0)).bind fun r3741=>
   (q5b F 58 63).bind fun r3744=>
   (q43 F r3741.1 r3744.1 (y7 r3708.2.2.1 2 0)).bind fun r3746=>
   (q43 F r3746.1 [30] 1).bind fun r3748=>
   (q6l F F r3748.1 0).bind fun r3799=>
   (q2s F r3799.1 19 20).bind fun r3801=>
   (q2s F r3799.1 22 23).bind fun r3802=>
   let v3803:Int:=(y0 .i64 (r3801.1+r3802.1))
   cond (decide (4≤v3803))
    ((q43 F r3799.1 [16,17,18] 7).bind fun r3805=>
    some (r3805.1,0,()))
    ((q43 F r3799.1 [21] 1).bind fun r3807=>
    some (r3807.1,0,())))
def z9i(F:Nat)(a0:Int):Option (Int×Unit):=
 some ((y0 .i64 (16+(y0 .i64 (3*(y0 .i64 ((y0 .i64 (4*(yw a0 4)))+(y0 .i64 (yx a0 4)))))))),())
def eac_JoinT0:LI:=[0,0,0,0,0,0,0,0]
def qtd(F:Nat)(rec:LI→LI→LI→Int→Option (LI×LI×Unit))(x0:LI)(x1:LI)(x2:LI)(x3:Int):Option (LI×LI×Unit):=
 let n25:Nat:=((ya x1)/3)
 cond (decide (x3<16))
  (cond ((decide (0≤x3))&&(decide (x3<16)))
   (let v28:Int:=(y7 x2 (y6 x3) 0)
   (z9i F x3).bind fun r29=>
   cond ((decide ((n25+1)≤1099511627776))&&(if(false=true)then(decide (0<1))else true))
    (rec x0 (x1++[r29.1,3,v28]) x2 (y0 .i64 (x3+1)))
     none)
    none)
  (some (x0,x1,()))
def qfo(F:Nat):Nat→LI→LI→LI→Int→Option (LI×LI×Unit)
 |0,_,_,_,_=>none
 |k+1,x0,x1,x2,x3=>qtd F (qfo F k) x0 x1 x2 x3
def qgx(F:Nat)(rec:LI→LI→Int→Int→Option (LI×Bool×Unit))(x0:LI)(x1:LI)(x2:Int)(x3:Int):Option (LI×Bool×Unit):=
 let n67:Nat:=((ya x1)/3)
 cond (decide (x3<x2))
  (cond ((decide (0≤x3))&&(decide (x3<((n67:Nat):Int))))
   (let l71:LI:=(y8 3 (y9 ((y6 x3)*3) x1))
   let l72:LI:=(if((0=0)∧(3=3))then l71 else(((y8 0 [0,0,0])++l71)++(y9 3 [0,0,0])))
   (q2r F x0 (y7 l72 0 0) (y7 l72 1 0) (y0 .u64 (y7 l72 2 0))).bind fun r77=>
   cond (r77.2.1 !=0)
    (some (x0,false,()))
    (rec r77.1 x1 x2 (y0 .i64 (x3+1))))
    none)
  (some (x0,true,()))
def q9z(F:Nat):Nat→LI→LI→Int→Int→Option (LI×Bool×Unit)
 |0,_,_,_,_=>none
 |k+1,x0,x1,x2,x3=>qgx F (q9z F k) x0 x1 x2 x3
def qlo(F:Nat)(a0:Int)(a1:Int)(a2:Int)(a3:LI):Option (LI×Int×Unit):=
 (qfo F F eac_JoinT0 [0,8,a0,8,4,a1,12,4,a2] (if((0=0)∧(16=16))then a3 else(y8 16 (y9 0 a3))) 0).bind fun r34=>
 (q9z F F r34.1 r34.2.1 ((((ya r34.2.1)/3):Nat):Int) 0).bind fun r81=>
 cond (!r81.2.1)
  (some ([],1,()))
  (some (r81.1,0,()))
def qa0(F:Nat)(a0:Int)(a1:Int)(a2:LI):Option (Int×Unit):=
 (qdg F a2 a0 a1).bind fun r85=>
 some ((y0 .i64 r85.1),())
def q81:LI:=[0,0,0,0,0,0,0,0,0,0,0,0,0,0,0,0]
def qaq(F:Nat)(rec:LI→LI→LI→Int→Option (LI×LI×LI×Unit))(x0:LI)(x1:LI)(x2:LI)(x3:Int):Option (LI×LI×LI×Unit):=
 cond (decide (x3<16))
  ((z9i F x3).bind fun r100=>
  (qa0 F r100.1 3 x2).bind fun r101=>
  cond ((decide (0≤x3))&&(decide (x3<16)))
   (rec x0 (yy x1 (y6 x3) r101.1) x2 (y0 .i64 (x3+1)))
    none)
  (some (x0,x1,x2,()))
def q7u(F:Nat):Nat→LI→LI→LI→Int→Option (LI×LI×LI×Unit)
 |0,_,_,_,_=>none
 |k+1,x0,x1,x2,x3=>qaq F (q7u F k) x0 x1 x2 x3
def z0w(F:Nat)(a0:LI):Option (Int×Int×Int×LI×Int×Unit):=
 cond ((((ya a0):Nat):Int) !=8)
  (some (0,0,0,q81,1,()))
  ((q7u F F q81 q81 a0 0).bind fun r106=>
  (qa0 F 0 8 r106.2.2.1).bind fun r108=>
  (qa0 F 8 4 r106.2.2.1).bind fun r109=>
  (qa0 F 12 4 r106.2.2.1).bind fun r110=>
  some (r108.1,r109.1,r110.1,r106.2.1,0,()))
def zmw:LI:=[-3,-6,-9,-15,2,5,8,14,-3,-7,-10,-13,2,6,9,12,-2,-5,-8,-13,1,4,7,12,-2,-4,-6,-13,1,3,5,12,-3,-6,-8,-12,2,5,7,11,-3,-7,-9,-11,2,6,8,10,-4,-7,-8,-11,3,6,7,10,-3,-5,-8,-11,2,4,7,10,-2,-6,-8,-10,1,5,7,9,-2,-5,-8,-10,1,4,7,9,-2,-4,-8,-10,1,3,7,9,-2,-5,-7,-10,1,4,6,9,-3,-4,-7,-10,2,3,6,9,-1,-2,-3,-10,0,1,2,9,-4,-6,-8,-9,3,5,7,8,-3,-5,-7,-9,2,4,6,8]
def q44(F:Nat)(a0:Int):Option (LI×Unit):=
 let v118:Int:=(iand .i64 a0 15)
 cond ((decide (0≤v118))&&(decide (v118<16)))
  (let l121:LI:=(y8 8 (y9 ((y6 v118)*8) zmw))
  let l122:LI:=(if((0=0)∧(8=8))then l121 else(((y8 0 eac_JoinT0)++l121)++(y9 8 eac_JoinT0)))
  some ((if((0=0)∧(8=8))then l122 else(y8 8 (y9 0 l122))),()))
   none
def qgy(F:Nat)(a0:Int)(a1:Int)(a2:Int)(a3:Bool):Option (Int×Unit):=
 cond (!a3)
  ((q32 F (y0 .i64 (a0+(y0 .i64 (a2*a1)))) 255).bind fun r129=>
  some (r129.1,()))
  (cond (a1==0)
   ((q32 F (y0 .i64 ((y0 .i64 ((y0 .i64 (8*a0))+4))+a2)) 2047).bind fun r134=>
   some (r134.1,()))
   ((q32 F (y0 .i64 ((y0 .i64 (8*(y0 .i64 (a0+(y0 .i64 (a2*a1))))))+4)) 2047).bind fun r139=>
   some (r139.1,())))
def q8s(F:Nat)(rec:Bool→LI→Int→Int→LI→LI→LI→Int→Option (LI×LI×Unit))(x0:Bool)(x1:LI)(x2:Int)(x3:Int)(x4:LI)(x5:LI)(x6:LI)(x7:Int):Option (LI×LI×Unit):=
 cond (decide (x7<16))
  (let b167:Bool:=((decide (0≤x7))&&(decide (x7<16)))
  cond b167
   (let v168:Int:=(y7 x6 (y6 x7) 0)
   cond ((decide (0≤v168))&&(decide (v168<8)))
    ((qgy F x2 x3 (y7 x5 (y6 v168) 0) x0).bind fun r172=>
    cond b167
     (rec x0 x1 x2 x3 (yy x4 (y6 x7) r172.1) x5 x6 (y0 .i64 (x7+1)))
      none)
     none)
    none)
  (some (x1,x4,()))
def q6m(F:Nat):Nat→Bool→LI→Int→Int→LI→LI→LI→Int→Option (LI×LI×Unit)
 |0,_,_,_,_,_,_,_,_=>none
 |k+1,x0,x1,x2,x3,x4,x5,x6,x7=>q8s F (q6m F k) x0 x1 x2 x3 x4 x5 x6 x7
def qjk(F:Nat)(a0:LI)(a1:Bool):Option (LI×Int×Unit):=
 (z0w F a0).bind fun r141=>
 let l142:LI:=(if((0=0)∧(16=16))then r141.2.2.2.1 else(((y8 0 q81)++r141.2.2.2.1)++(y9 16 q81)))
 cond (r141.2.2.2.2.1 !=0)
  (let l144:LI:=(if((0=0)∧(16=16))then l142 else(y8 16 (y9 0 l142)))
  let l145:LI:=(if((0=0)∧(16=16))then l144 else(((y8 0 q81)++l144)++(y9 16 q81)))
  some ((if((0=0)∧(16=16))then l145 else(y8 16 (y9 0 l145))),r141.2.2.2.2.1,()))
  ((q44 F r141.2.2.1).bind fun r147=>
  (q6m F F a1 q81 r141.1 r141.2.1 l142 (if((0=0)∧(8=8))then r147.1 else(((y8 0 eac_JoinT0)++r147.1)++(y9 8 eac_JoinT0))) (if((0=0)∧(16=16))then l142 else(y8 16 (y9 0 l142))) 0).bind fun r176=>
  let l177:LI:=(if((0=0)∧(16=16))then r176.2.1 else(y8 16 (y9 0 r176.2.1)))
  let l178:LI:=(if((0=0)∧(16=16))then l177 else(((y8 0 r176.1)++l177)++(y9 16 r176.1)))
  some ((if((0=0)∧(16=16))then l178 else(y8 16 (y9 0 l178))),0,()))
def qa1(F:Nat)(a0:Int):Option ((Int×Int×Bool×Unit)×Int×Unit):=
 cond (a0==1)
  (some ((8,7,false,()),0,()))
  (cond (a0==7)
   (some ((8,7,false,()),0,()))
   (cond (a0==8)
    (some ((8,7,false,()),0,()))
    (cond (a0==2)
     (some ((16,15,false,()),0,()))
     (cond (a0==3)
      (some ((16,15,false,()),0,()))
      (cond (a0==6)
       (some ((16,15,false,()),0,()))
       (cond (a0==10)
        (some ((16,15,false,()),0,()))
        (cond (a0==9)
         (some ((8,15,false,()),0,()))
         (cond (a0==4)
          (some ((8,1,(a0==11),()),0,()))
          (let b12:Bool:=(a0==11)
          cond b12
           (some ((8,1,b12,()),0,()))
           (cond (a0==5)
            (some ((16,3,(a0==12),()),0,()))
            (let b15:Bool:=(a0==12)
            cond b15
             (some ((16,3,b15,()),0,()))
             (some ((0,0,false,()),5,())))))))))))))
def q6c:LI:=[0,0,0,0,0,0,0,0,0,0,0,0,0,0,0,0,0,0,0,0,0,0,0,0,0,0,0,0,0,0,0,0,0,0,0,0,0,0,0,0,0,0,0,0,0,0,0,0,0,0,0,0,0,0,0,0,0,0,0,0,0,0,0,0]
def qte(F:Nat)(a0:LI)(a1:Int):Option (LI×Unit):=
 some (a0,())
def qdo(F:Nat)(rec:Int→LI→LI→LI→Int→Option (LI×LI×Unit))(x0:Int)(x1:LI)(x2:LI)(x3:LI)(x4:Int):Option (LI×LI×Unit):=
 cond (decide (x4<16))
  (let b344:Bool:=((decide (0≤x4))&&(decide (x4<16)))
  cond b344
   (cond b344
    (cond ((decide (0≤x0))&&(decide (x0<4)))
     (rec x0 (yy x1 (((y6 x4)*4)+(y6 x0)) (y7 x3 (y6 x4) 0)) x2 x3 (y0 .i64 (x4+1)))
      none)
     none)
    none)
  (some (x1,x2,()))
def q8t(F:Nat):Nat→Int→LI→LI→LI→Int→Option (LI×LI×Unit)
 |0,_,_,_,_,_=>none
 |k+1,x0,x1,x2,x3,x4=>qdo F (q8t F k) x0 x1 x2 x3 x4
def qk2(F:Nat)(a0:LI)(a1:Int)(a2:LI)(a3:Int):Option (LI×Unit):=
 (q8t F F a1 a0 q6c a2 0).bind fun r351=>
 some (r351.1,())
def qqt(F:Nat)(rec:Bool→LI→LI→Int→Option (LI×LI×Unit))(x0:Bool)(x1:LI)(x2:LI)(x3:Int):Option (LI×LI×Unit):=
 cond (decide (x3<16))
  (let b618:Bool:=((decide (0≤x3))&&(decide (x3<16)))
  cond b618
   (let n620:Nat:=(3+((y6 x3)*4))
   let l621:LI:=(yy x2 n620 255)
   cond x0
    (cond b618
     (rec x0 x1 (yy l621 n620 2047) (y0 .i64 (x3+1)))
      none)
    (rec x0 x1 l621 (y0 .i64 (x3+1))))
    none)
  (some (x1,x2,()))
def qdp(F:Nat):Nat→Bool→LI→LI→Int→Option (LI×LI×Unit)
 |0,_,_,_,_=>none
 |k+1,x0,x1,x2,x3=>qqt F (qdp F k) x0 x1 x2 x3
def qa2(F:Nat)(a0:Bool):Option (LI×Unit):=
 (qdp F F a0 q6c q6c 0).bind fun r625=>
 some (r625.2.1,())
def qc1(F:Nat)(rec:LI→LI→Int→Int→LI→Int→Option (LI×LI×Int×Unit))(x0:LI)(x1:LI)(x2:Int)(x3:Int)(x4:LI)(x5:Int):Option (LI×LI×Int×Unit):=
 cond (decide (x5<4))
  (let b3503:Bool:=((decide (0≤x5))&&(decide (x5<4)))
  cond b3503
   (let v3504:Int:=(y7 x4 (y6 x5) 0)
   cond ((decide (0≤x2))&&(decide (x2<16)))
    (cond b3503
     (rec (yy x0 (((y6 x2)*4)+(y6 x5)) (y0 .i64 ((y0 .i64 (8*v3504))+(y0 .i64 (yx v3504 32))))) x1 x2 x3 x4 (y0 .i64 (x5+1)))
      none)
     none)
    none)
  (some (x0,x1,x3,()))
def q7e(F:Nat):Nat→LI→LI→Int→Int→LI→Int→Option (LI×LI×Int×Unit)
 |0,_,_,_,_,_,_=>none
 |k+1,x0,x1,x2,x3,x4,x5=>qc1 F (q7e F k) x0 x1 x2 x3 x4 x5
def qc2(F:Nat)(rec:LI→LI→Int→Option (LI×LI×Unit))(x0:LI)(x1:LI)(x2:Int):Option (LI×LI×Unit):=
 cond (decide (x2<16))
  (cond ((decide (0≤x2))&&(decide (x2<16)))
   ((q7e F F x0 x1 x2 x2 (y8 4 (y9 ((y6 x2)*4) x0)) 0).bind fun r3513=>
   rec r3513.1 r3513.2.1 (y0 .i64 (r3513.2.2.1+1)))
    none)
  (some (x0,x1,()))
def q7f(F:Nat):Nat→LI→LI→Int→Option (LI×LI×Unit)
 |0,_,_,_=>none
 |k+1,x0,x1,x2=>qc2 F (q7f F k) x0 x1 x2
def qcr(F:Nat)(a0:Int)(a1:LI):Option (LI×Unit):=
 (qa1 F a0).bind fun r3432=>
 cond (!r3432.1.2.2.1)
  (some (a1,()))
  ((q7f F F a1 q6c 0).bind fun r3515=>
  some (r3515.1,()))
def qdq(F:Nat)(rec:Int→LI→LI→Int→Int→Int→Int→Option (Int×LI×LI×Int×Int×Unit))(x0:Int)(x1:LI)(x2:LI)(x3:Int)(x4:Int)(x5:Int)(x6:Int):Option (Int×LI×LI×Int×Int×Unit):=
 cond (decide (x6<4))
  (cond (decide (0≤x6))
   (cond ((iand .i64 (ishr .i64 x0 x6) 1)==1)
    (let b3612:Bool:=((decide (0≤x4))&&(decide (x4<16)))
    cond b3612
     (let b3614:Bool:=((decide (0≤x6))&&(decide (x6<4)))
     cond b3614
      (let n3615:Nat:=(((y6 x4)*4)+(y6 x6))
      cond b3612
       (cond b3614
        ((q51 F (y0 .i64 ((y7 x1 n3615 0)-(y7 x2 n3615 0)))).bind fun r3619=>
        rec x0 x1 x2 (y0 .i64 (x3+r3619.1)) x4 x5 (y0 .i64 (x6+1)))
         none)
        none)
       none)
      none)
    (rec x0 x1 x2 x3 x4 x5 (y0 .i64 (x6+1))))
    none)
  (some (x0,x1,x2,x3,x5,()))
def q8u(F:Nat):Nat→Int→LI→LI→Int→Int→Int→Int→Option (Int×LI×LI×Int×Int×Unit)
 |0,_,_,_,_,_,_,_=>none
 |k+1,x0,x1,x2,x3,x4,x5,x6=>qdq F (q8u F k) x0 x1 x2 x3 x4 x5 x6
def qdr(F:Nat)(rec:Int→LI→LI→Int→Int→Option (Int×Unit))(x0:Int)(x1:LI)(x2:LI)(x3:Int)(x4:Int):Option (Int×Unit):=
 cond (decide (x4<16))
  ((q8u F F x0 x1 x2 x3 x4 x4 0).bind fun r3623=>
  rec r3623.1 r3623.2.1 r3623.2.2.1 r3623.2.2.2.1 (y0 .i64 (r3623.2.2.2.2.1+1)))
  (some (x3,()))
def q8v(F:Nat):Nat→Int→LI→LI→Int→Int→Option (Int×Unit)
 |0,_,_,_,_,_=>none
 |k+1,x0,x1,x2,x3,x4=>qdr F (q8v F k) x0 x1 x2 x3 x4
def qpl(F:Nat)(a0:LI)(a1:LI)(a2:Int):Option (Int×Unit):=
 (q8v F F a2 a0 a1 0 0).bind fun r3625=>
 some (r3625.1,())
def q4a(F:Nat)(rec:LI→Int→Int→Option (Unit⊕(LI×Int×Unit)))(x0:LI)(x1:Int)(x2:Int):Option (Unit⊕(LI×Int×Unit)):=
 cond (decide (x2<4))
  (let b3697:Bool:=((decide (0≤x1))&&(decide (x1<16)))
  cond b3697
   (let b3699:Bool:=((decide (0≤x2))&&(decide (x2<4)))
   cond b3699
    (let v3701:Int:=(y7 x0 (((y6 x1)*4)+(y6 x2)) 0)
    cond (decide (v3701<0))
     (some (.inl ()))
     (cond b3697
      (cond b3699
       (cond (decide (255<v3701))
        (some (.inl ()))
        (rec x0 x1 (y0 .i64 (x2+1))))
        none)
       none))
     none)
    none)
  (some (.inr (x0,x1,())))
def q14(F:Nat):Nat→LI→Int→Int→Option (Unit⊕(LI×Int×Unit))
 |0,_,_,_=>none
 |k+1,x0,x1,x2=>q4a F (q14 F k) x0 x1 x2
def q4b(F:Nat)(rec:LI→Int→Option (Unit⊕Unit))(x0:LI)(x1:Int):Option (Unit⊕Unit):=
 cond (decide (x1<16))
  ((q14 F F x0 x1 0).bind fun r3705=>match r3705 with
   | .inl r3705=>(some (.inl ()))
   | .inr r3705=>(rec r3705.1 (y0 .i64 (r3705.2.1+1))))
  (some (.inr ()))
def q15(F:Nat):Nat→LI→Int→Option (Unit⊕Unit)
 |0,_,_=>none
 |k+1,x0,x1=>q4b F (q15 F k) x0 x1
def q55(F:Nat)(a0:LI):Option (Bool×Unit):=
 (q15 F F a0 0).bind fun r3707=>match r3707 with
  | .inl r3707=>(some (false,()))
  | .inr r3707=>(some (true,()))
def qlp(F:Nat)(a0:Int):Option ((Int×Int×Bool×Unit)×Int×Unit):=
 cond (decide (a0<1))
  (some ((0,0,false,()),5,()))
  (cond (decide (12<a0))
   (some ((0,0,false,()),5,()))
   (cond (a0==0)
    (some ((0,0,false,()),0,()))
    (cond (a0==1)
     (some ((8,7,false,()),0,()))
     (cond (a0==2)
      (some ((16,15,false,()),0,()))
      (cond (a0==3)
       (some ((16,15,false,()),0,()))
       (cond (a0==4)
        (some ((8,1,false,()),0,()))
        (cond (a0==5)
         (some ((16,3,false,()),0,()))
         (cond (a0==6)
          (some ((16,15,false,()),0,()))
          (cond (a0==7)
           (some ((8,7,false,()),0,()))
           (cond (a0==8)
            (some ((8,7,false,()),0,()))
            (cond (a0==9)
             (some ((8,15,false,()),0,()))
             (cond (a0==10)
              (some ((16,15,false,()),0,()))
              (cond (a0==11)
               (some ((8,1,true,()),0,()))
               (cond (a0==12)
                (some ((16,3,true,()),0,()))
                 none))))))))))))))
def qar:LI:=[0,0,0,0,0,0,0,0,0,0,0,0,0,0,0,0,0,0,0,0,0,0,0,0,0,0,0,0,0,0,0,0,0,0,0,0,0,0,0,0,0,0,0,0,0,0,0,0,0,0,0,0,0,0,0,0,0,0,0,0,0,0,0,0]
def q8w(F:Nat)(rec:LI→Int→LI→Int→Option (Unit⊕(LI×Int×Unit)))(x0:LI)(x1:Int)(x2:LI)(x3:Int):Option (Unit⊕(LI×Int×Unit)):=
 cond (decide (x3<4))
  (cond ((decide (0≤x3))&&(decide (x3<4)))
   (let v75:Int:=(y7 x2 (y6 x3) 0)
   cond (decide (v75<0))
    (some (.inl ()))
    (cond (decide (255<v75))
     (some (.inl ()))
     (rec x0 x1 x2 (y0 .i64 (x3+1)))))
    none)
  (some (.inr (x0,x1,())))
def q35(F:Nat):Nat→LI→Int→LI→Int→Option (Unit⊕(LI×Int×Unit))
 |0,_,_,_,_=>none
 |k+1,x0,x1,x2,x3=>q8w F (q35 F k) x0 x1 x2 x3
def q8x(F:Nat)(rec:LI→Int→Option (Unit⊕Unit))(x0:LI)(x1:Int):Option (Unit⊕Unit):=
 cond (decide (x1<16))
  (cond ((decide (0≤x1))&&(decide (x1<16)))
   ((q35 F F x0 x1 (y8 4 (y9 ((y6 x1)*4) x0)) 0).bind fun r79=>match r79 with
    | .inl r79=>(some (.inl ()))
    | .inr r79=>(rec r79.1 (y0 .i64 (r79.2.1+1))))
    none)
  (some (.inr ()))
def q3w(F:Nat):Nat→LI→Int→Option (Unit⊕Unit)
 |0,_,_=>none
 |k+1,x0,x1=>q8x F (q3w F k) x0 x1
def q8y(F:Nat)(a0:LI):Option (Bool×Unit):=
 (q3w F F a0 0).bind fun r81=>match r81 with
  | .inl r81=>(some (false,()))
  | .inr r81=>(some (true,()))
def qtf(F:Nat)(a0:Int)(a1:Int):Option (Int×Unit):=
 (q10 F a0 a1).bind fun r229=>
 some (r229.1,())
def q5c(F:Nat)(rec:Int→LI→Int→LI→Int→Int→Option (Int×Unit))(x0:Int)(x1:LI)(x2:Int)(x3:LI)(x4:Int)(x5:Int):Option (Int×Unit):=
 cond (decide (x5<x4))
  (cond ((decide (0≤x5))&&(decide (x5<(((ya x3):Nat):Int))))
   (cond ((decide (0≤x0))&&(decide (x0<(((ya x1):Nat):Int))))
    ((q51 F (y0 .i64 ((y7 x3 (y6 x5) 0)-(y7 x1 (y6 x0) 0)))).bind fun r338=>
    rec x0 x1 (y0 .i64 (x2+r338.1)) x3 x4 (y0 .i64 (x5+1)))
     none)
    none)
  (some (x2,()))
def q4k(F:Nat):Nat→Int→LI→Int→LI→Int→Int→Option (Int×Unit)
 |0,_,_,_,_,_,_=>none
 |k+1,x0,x1,x2,x3,x4,x5=>q5c F (q4k F k) x0 x1 x2 x3 x4 x5
def qix(F:Nat)(a0:Int)(a1:LI)(a2:LI):Option (Int×Unit):=
 (q4k F F a0 a2 0 a1 (((ya a1):Nat):Int) 0).bind fun r341=>
 some (r341.1,())
def q0q(F:Nat)(rec:LI→LI→Int→Int→Int→Int→Option (Int×Unit))(x0:LI)(x1:LI)(x2:Int)(x3:Int)(x4:Int)(x5:Int):Option (Int×Unit):=
 cond (decide (x5<x4))
  ((qix F x5 x0 x1).bind fun r398=>
  cond (x5==0)
   (rec x0 x1 x5 r398.1 x4 (y0 .i64 (x5+1)))
   (cond (decide (r398.1<x3))
    (rec x0 x1 x5 r398.1 x4 (y0 .i64 (x5+1)))
    (rec x0 x1 x2 x3 x4 (y0 .i64 (x5+1)))))
  (some (x2,()))
def q0j(F:Nat):Nat→LI→LI→Int→Int→Int→Int→Option (Int×Unit)
 |0,_,_,_,_,_,_=>none
 |k+1,x0,x1,x2,x3,x4,x5=>q0q F (q0j F k) x0 x1 x2 x3 x4 x5
def qcg(F:Nat)(a0:Int)(a1:LI)(a2:LI):Option (Int×Unit):=
 (q0j F F a1 a2 0 0 a0 0).bind fun r404=>
 some (r404.1,())
def qfp(F:Nat)(a0:LI)(a1:LI):Option (Int×Unit):=
 (qcg F (((ya a0):Nat):Int) a1 a0).bind fun r405=>
 some (r405.1,())
def q6n(F:Nat)(rec:Int→Int→Int→LI→LI→Int→Option (Int×Int×LI×Unit))(x0:Int)(x1:Int)(x2:Int)(x3:LI)(x4:LI)(x5:Int):Option (Int×Int×LI×Unit):=
 cond (decide (x5<16))
  (cond ((decide (0≤x5))&&(decide (x5<16)))
   (let l426:LI:=(y8 4 (y9 ((y6 x5)*4) x4))
   cond ((decide (0≤x0))&&(decide (x0<4)))
    (let v429:Int:=(y7 l426 (y6 x0) 0)
    cond ((decide (((ya x3)+1)≤1099511627776))&&true)
     (rec x0 x1 x2 (x3++[v429]) x4 (y0 .i64 (x5+1)))
      none)
     none)
    none)
  (some (x1,x2,x3,()))
def q39(F:Nat):Nat→Int→Int→Int→LI→LI→Int→Option (Int×Int×LI×Unit)
 |0,_,_,_,_,_,_=>none
 |k+1,x0,x1,x2,x3,x4,x5=>q6n F (q39 F k) x0 x1 x2 x3 x4 x5
def q2u(F:Nat)(rec:Int→LI→LI→Int→Int→Option (LI×LI×Unit))(x0:Int)(x1:LI)(x2:LI)(x3:Int)(x4:Int):Option (LI×LI×Unit):=
 cond (decide (x4<x3))
  ((qtf F x4 x0).bind fun r451=>
  cond ((decide (((ya x2)+1)≤1099511627776))&&true)
   (rec x0 x1 (x2++[r451.1]) x3 (y0 .i64 (x4+1)))
    none)
  (some (x1,x2,()))
def q28(F:Nat):Nat→Int→LI→LI→Int→Int→Option (LI×LI×Unit)
 |0,_,_,_,_,_=>none
 |k+1,x0,x1,x2,x3,x4=>q2u F (q28 F k) x0 x1 x2 x3 x4
def qas(F:Nat)(a0:LI)(a1:Int)(a2:Int)(a3:Int):Option (Int×Unit):=
 (q39 F F a1 a2 a3 [] a0 0).bind fun r434=>
 (q28 F F r434.2.1 r434.2.2.1 [] r434.1 0).bind fun r456=>
 (qfp F r456.2.1 r456.1).bind fun r459=>
 some (r459.1,())
def qk3(F:Nat)(a0:LI)(a1:Int)(a2:Int):Option (Int×Unit):=
 cond (decide (0≤a2))
  ((qas F a0 a1 (ishl .i64 1 a2) a2).bind fun r460=>
  some (r460.1,()))
   none
def q0o:LI:=[0,0,0,0,0,0,0,0,0,0,0,0,0,0,0,0]
def qc3(F:Nat)(rec:Int→LI→LI→Int→Option (LI×LI×Unit))(x0:Int)(x1:LI)(x2:LI)(x3:Int):Option (LI×LI×Unit):=
 cond (decide (x3<16))
  (cond ((decide (0≤x3))&&(decide (x3<16)))
   (rec x0 x1 (yy x2 (y6 x3) x0) (y0 .i64 (x3+1)))
    none)
  (some (x1,x2,()))
def q5i(F:Nat):Nat→Int→LI→LI→Int→Option (LI×LI×Unit)
 |0,_,_,_,_=>none
 |k+1,x0,x1,x2,x3=>qc3 F (q5i F k) x0 x1 x2 x3
def qcs(F:Nat)(a0:Int):Option (LI×Unit):=
 (q5i F F a0 q0o q0o 0).bind fun r474=>
 some (r474.2.1,())
def qpm(F:Nat)(a0:Int):Option (Int×Unit):=
 some (a0,())
def q5q(F:Nat)(rec:Int→Int→LI→LI→Int→Option (Int×LI×Unit))(x0:Int)(x1:Int)(x2:LI)(x3:LI)(x4:Int):Option (Int×LI×Unit):=
 cond (decide (x4<16))
  (cond ((decide (0≤x4))&&(decide (x4<16)))
   (let l862:LI:=(y8 4 (y9 ((y6 x4)*4) x3))
   cond ((decide (0≤x0))&&(decide (x0<4)))
    (let v865:Int:=(y7 l862 (y6 x0) 0)
    cond ((decide (((ya x2)+1)≤1099511627776))&&true)
     (rec x0 x1 (x2++[v865]) x3 (y0 .i64 (x4+1)))
      none)
     none)
    none)
  (some (x1,x2,()))
def q2v(F:Nat):Nat→Int→Int→LI→LI→Int→Option (Int×LI×Unit)
 |0,_,_,_,_,_=>none
 |k+1,x0,x1,x2,x3,x4=>q5q F (q2v F k) x0 x1 x2 x3 x4
def q2e(F:Nat)(rec:LI→LI→Int→Int→Option (LI×LI×Unit))(x0:LI)(x1:LI)(x2:Int)(x3:Int):Option (LI×LI×Unit):=
 cond (decide (x3<x2))
  ((qpm F x3).bind fun r887=>
  cond ((decide (((ya x1)+1)≤1099511627776))&&true)
   (rec x0 (x1++[r887.1]) x2 (y0 .i64 (x3+1)))
    none)
  (some (x0,x1,()))
def q1u(F:Nat):Nat→LI→LI→Int→Int→Option (LI×LI×Unit)
 |0,_,_,_,_=>none
 |k+1,x0,x1,x2,x3=>q2e F (q1u F k) x0 x1 x2 x3
def qds(F:Nat)(a0:LI)(a1:Int)(a2:Int):Option (Int×Unit):=
 (q2v F F a1 a2 [] a0 0).bind fun r870=>
 (q1u F F r870.2.1 [] r870.1 0).bind fun r892=>
 (qfp F r892.2.1 r892.1).bind fun r895=>
 some (r895.1,())
def qwi(F:Nat)(a0:LI)(a1:Int):Option (Int×Unit):=
 (qds F a0 a1 256).bind fun r896=>
 some (r896.1,())
def qml(F:Nat)(a0:Int):Option (Int×Unit):=
 (q10 F a0 5).bind fun r4750=>
 (q32 F (y0 .i64 (r4750.1+2)) 255).bind fun r4752=>
 some (r4752.1,())
def q4r(F:Nat)(rec:Int→Int→LI→LI→Int→Option (Int×LI×Unit))(x0:Int)(x1:Int)(x2:LI)(x3:LI)(x4:Int):Option (Int×LI×Unit):=
 cond (decide (x4<16))
  (cond ((decide (0≤x4))&&(decide (x4<16)))
   (let l4794:LI:=(y8 4 (y9 ((y6 x4)*4) x3))
   cond ((decide (0≤x0))&&(decide (x0<4)))
    (let v4797:Int:=(y7 l4794 (y6 x0) 0)
    cond ((decide (((ya x2)+1)≤1099511627776))&&true)
     (rec x0 x1 (x2++[v4797]) x3 (y0 .i64 (x4+1)))
      none)
     none)
    none)
  (some (x1,x2,()))
def q2f(F:Nat):Nat→Int→Int→LI→LI→Int→Option (Int×LI×Unit)
 |0,_,_,_,_,_=>none
 |k+1,x0,x1,x2,x3,x4=>q4r F (q2f F k) x0 x1 x2 x3 x4
def q23(F:Nat)(rec:LI→LI→Int→Int→Option (LI×LI×Unit))(x0:LI)(x1:LI)(x2:Int)(x3:Int):Option (LI×LI×Unit):=
 cond (decide (x3<x2))
  ((qml F x3).bind fun r4819=>
  cond ((decide (((ya x1)+1)≤1099511627776))&&true)
   (rec x0 (x1++[r4819.1]) x2 (y0 .i64 (x3+1)))
    none)
  (some (x0,x1,()))
def q1e(F:Nat):Nat→LI→LI→Int→Int→Option (LI×LI×Unit)
 |0,_,_,_,_=>none
 |k+1,x0,x1,x2,x3=>q23 F (q1e F k) x0 x1 x2 x3
def q82(F:Nat)(a0:LI)(a1:Int)(a2:Int):Option (Int×Unit):=
 (q2f F F a1 a2 [] a0 0).bind fun r4802=>
 (q1e F F r4802.2.1 [] r4802.1 0).bind fun r4824=>
 (qfp F r4824.2.1 r4824.1).bind fun r4827=>
 some (r4827.1,())
def qdt(F:Nat)(rec:LI→LI→LI→LI→LI→Int→Option (LI×LI×LI×LI×Unit))(x0:LI)(x1:LI)(x2:LI)(x3:LI)(x4:LI)(x5:Int):Option (LI×LI×LI×LI×Unit):=
 cond (decide (x5<3))
  ((q82 F x0 x5 32).bind fun r5359=>
  cond ((decide (0≤x5))&&(decide (x5<3)))
   (rec x0 (yy x1 (y6 x5) r5359.1) x2 x3 x4 (y0 .i64 (x5+1)))
    none)
  (some (x1,x2,x3,x4,()))
def q6u(F:Nat):Nat→LI→LI→LI→LI→LI→Int→Option (LI×LI×LI×LI×Unit)
 |0,_,_,_,_,_,_=>none
 |k+1,x0,x1,x2,x3,x4,x5=>qdt F (q6u F k) x0 x1 x2 x3 x4 x5
def qpn(F:Nat)(a0:LI):Option (LI×Unit):=
 (q6u F F a0 [0,0,0] [0,0,0] [0,0] q0o 0).bind fun r5364=>
 (qcf F (true,false,r5364.1,r5364.2.1,r5364.2.2.1,r5364.2.2.2.1,())).bind fun r5365=>
 some (r5365.1,())
def qfq(F:Nat)(a0:LI):Option (LI×Unit):=
 (qk3 F a0 0 6).bind fun r5758=>
 (qk3 F a0 1 7).bind fun r5759=>
 (qk3 F a0 2 6).bind fun r5760=>
 (qjj F [r5758.1,r5759.1,r5760.1] [r5758.1,r5759.1,r5760.1] [r5758.1,r5759.1,r5760.1]).bind fun r5761=>
 some (r5761.1,())
def qpo(F:Nat)(a0:Int):Option (Int×Unit):=
 (qgy F a0 1 0 true).bind fun r5962=>
 some (r5962.1,())
def q5r(F:Nat)(rec:Int→Int→LI→LI→Int→Option (Int×LI×Unit))(x0:Int)(x1:Int)(x2:LI)(x3:LI)(x4:Int):Option (Int×LI×Unit):=
 cond (decide (x4<16))
  (cond ((decide (0≤x4))&&(decide (x4<16)))
   (let l6004:LI:=(y8 4 (y9 ((y6 x4)*4) x3))
   cond ((decide (0≤x0))&&(decide (x0<4)))
    (let v6007:Int:=(y7 l6004 (y6 x0) 0)
    cond ((decide (((ya x2)+1)≤1099511627776))&&true)
     (rec x0 x1 (x2++[v6007]) x3 (y0 .i64 (x4+1)))
      none)
     none)
    none)
  (some (x1,x2,()))
def q2w(F:Nat):Nat→Int→Int→LI→LI→Int→Option (Int×LI×Unit)
 |0,_,_,_,_,_=>none
 |k+1,x0,x1,x2,x3,x4=>q5r F (q2w F k) x0 x1 x2 x3 x4
def q2g(F:Nat)(rec:LI→LI→Int→Int→Option (LI×LI×Unit))(x0:LI)(x1:LI)(x2:Int)(x3:Int):Option (LI×LI×Unit):=
 cond (decide (x3<x2))
  ((qpo F x3).bind fun r6029=>
  cond ((decide (((ya x1)+1)≤1099511627776))&&true)
   (rec x0 (x1++[r6029.1]) x2 (y0 .i64 (x3+1)))
    none)
  (some (x0,x1,()))
def q1v(F:Nat):Nat→LI→LI→Int→Int→Option (LI×LI×Unit)
 |0,_,_,_,_=>none
 |k+1,x0,x1,x2,x3=>q2g F (q1v F k) x0 x1 x2 x3
def q9k(F:Nat)(a0:LI)(a1:Int)(a2:Int):Option (Int×Unit):=
 (q2w F F a1 a2 [] a0 0).bind fun r6012=>
 (q1v F F r6012.2.1 [] r6012.1 0).bind fun r6034=>
 (qfp F r6034.2.1 r6034.1).bind fun r6037=>
 some (r6037.1,())
def qjl(F:Nat)(a0:LI)(a1:Int):Option (LI×Unit):=
 (q9k F a0 a1 256).bind fun r6042=>
 (qcs F 4).bind fun r6043=>
 (qlo F r6042.1 1 13 r6043.1).bind fun r6044=>
 some (r6044.1,())
def qdu(F:Nat)(rec:LI→LI→Int→Int→Bool→Int→Int→Bool→Option (LI×LI×Int×Int×Bool×Int×Bool×Unit))(x0:LI)(x1:LI)(x2:Int)(x3:Int)(x4:Bool)(x5:Int)(x6:Int)(x7:Bool):Option (LI×LI×Int×Int×Bool×Int×Bool×Unit):=
 cond (decide (x6<4))
  (let b6381:Bool:=((decide (0≤x5))&&(decide (x5<16)))
  cond b6381
   (let b6383:Bool:=((decide (0≤x6))&&(decide (x6<4)))
   cond b6383
    (let n6384:Nat:=(((y6 x5)*4)+(y6 x6))
    let v6385:Int:=(y7 x0 n6384 0)
    cond b6381
     (cond b6383
      (cond b6381
       (cond b6383
        (rec (yy x0 n6384 (y0 .i64 ((y0 .i64 (8*v6385))+(y0 .i64 (yx v6385 32))))) x1 x2 x3 x4 x5 (y0 .i64 (x6+1)) x7)
         none)
        none)
       none)
      none)
     none)
    none)
  (some (x0,x1,x2,x3,x4,x5,x7,()))
def q8z(F:Nat):Nat→LI→LI→Int→Int→Bool→Int→Int→Bool→Option (LI×LI×Int×Int×Bool×Int×Bool×Unit)
 |0,_,_,_,_,_,_,_,_=>none
 |k+1,x0,x1,x2,x3,x4,x5,x6,x7=>qdu F (q8z F k) x0 x1 x2 x3 x4 x5 x6 x7
def qdv(F:Nat)(rec:LI→LI→Int→Int→Bool→Int→Option (LI×LI×Unit))(x0:LI)(x1:LI)(x2:Int)(x3:Int)(x4:Bool)(x5:Int):Option (LI×LI×Unit):=
 cond (decide (x5<16))
  (cond x4
   ((q8z F F x0 x1 x2 x3 x4 x5 0 x4).bind fun r6391=>
   rec r6391.1 r6391.2.1 r6391.2.2.1 r6391.2.2.2.1 r6391.2.2.2.2.1 (y0 .i64 (r6391.2.2.2.2.2.1+1)))
   (some (x0,x1,())))
  (some (x0,x1,()))
def q90(F:Nat):Nat→LI→LI→Int→Int→Bool→Int→Option (LI×LI×Unit)
 |0,_,_,_,_,_,_=>none
 |k+1,x0,x1,x2,x3,x4,x5=>qdv F (q90 F k) x0 x1 x2 x3 x4 x5
def qfr(F:Nat)(a0:Int)(a1:LI):Option (LI×Unit):=
 (qlp F a0).bind fun r6318=>
 (q90 F F a1 qar r6318.1.1 r6318.1.2.1 r6318.1.2.2.1 0).bind fun r6393=>
 some (r6393.1,())
def q91(F:Nat)(rec:Int→Int→Int→Option (Int×Int×Unit))(x0:Int)(x1:Int)(x2:Int):Option (Int×Int×Unit):=
 cond (decide (x2<x0))
  (rec x0 (y0 .i64 (2*x1)) (y0 .i64 (x2+1)))
  (some (x0,x1,()))
def q83(F:Nat):Nat→Int→Int→Int→Option (Int×Int×Unit)
 |0,_,_,_=>none
 |k+1,x0,x1,x2=>q91 F (q83 F k) x0 x1 x2
def q92(F:Nat)(rec:Int→LI→Int→Int→Option (LI×Unit))(x0:Int)(x1:LI)(x2:Int)(x3:Int):Option (LI×Unit):=
 cond (decide (x3<x2))
  ((q0k F x3 x0).bind fun r6493=>
  cond ((decide (((ya x1)+1)≤1099511627776))&&true)
   (rec x0 (x1++[r6493.1]) x2 (y0 .i64 (x3+1)))
    none)
  (some (x1,()))
def q84(F:Nat):Nat→Int→LI→Int→Int→Option (LI×Unit)
 |0,_,_,_,_=>none
 |k+1,x0,x1,x2,x3=>q92 F (q84 F k) x0 x1 x2 x3
def q6d(F:Nat)(a0:Int):Option (LI×Unit):=
 (q83 F F a0 1 0).bind fun r6480=>
 (q84 F F r6480.1 [] r6480.2.1 0).bind fun r6498=>
 some (r6498.1,())
def qgb(F:Nat)(rec:Int→LI→LI→Int→Option (LI×Unit))(x0:Int)(x1:LI)(x2:LI)(x3:Int):Option (LI×Unit):=
 cond (decide (x3<16))
  (cond ((decide (0≤x3))&&(decide (x3<16)))
   (let n6548:Nat:=((y6 x3)*4)
   cond ((decide (0≤x0))&&(decide (x0<4)))
    (let n6550:Nat:=(n6548+(y6 x0))
    let v6551:Int:=(y7 x1 n6550 0)
    cond ((decide (((ya x2)+1)≤1099511627776))&&true)
     (rec x0 x1 (x2++[v6551]) (y0 .i64 (x3+1)))
      none)
     none)
    none)
  (some (x2,()))
def qat(F:Nat):Nat→Int→LI→LI→Int→Option (LI×Unit)
 |0,_,_,_,_=>none
 |k+1,x0,x1,x2,x3=>qgb F (qat F k) x0 x1 x2 x3
def q4c(F:Nat)(a0:LI)(a1:Int):Option (LI×Unit):=
 (qat F F a1 a0 [] 0).bind fun r6556=>
 some (r6556.1,())
def qau(F:Nat)(rec:Int→LI→Int→Int→Option (Int×Unit))(x0:Int)(x1:LI)(x2:Int)(x3:Int):Option (Int×Unit):=
 let v6589:Int:=(((ya x1):Nat):Int)
 cond (decide (x3<v6589))
  (cond ((decide (0≤x3))&&(decide (x3<(((ya x1):Nat):Int))))
   ((qjz F (y0 .i64 ((y7 x1 (y6 x3) 0)-x0))).bind fun r6595=>
   rec x0 x1 (y0 .i64 (x2+r6595.1)) (y0 .i64 (x3+1)))
    none)
  (some (x2,()))
def qa3(F:Nat):Nat→Int→LI→Int→Int→Option (Int×Unit)
 |0,_,_,_,_=>none
 |k+1,x0,x1,x2,x3=>qau F (qa3 F k) x0 x1 x2 x3
def qtg(F:Nat)(a0:Int)(a1:LI):Option (Int×Unit):=
 (qa3 F F a0 a1 0 0).bind fun r6598=>
 some (r6598.1,())
def q93(F:Nat)(rec:LI→LI→Int→Int→Option (Int×Unit))(x0:LI)(x1:LI)(x2:Int)(x3:Int):Option (Int×Unit):=
 let v6621:Int:=(((ya x0):Nat):Int)
 cond (decide (x3<v6621))
  (cond ((decide (0≤x3))&&(decide (x3<(((ya x0):Nat):Int))))
   ((qtg F (y7 x0 (y6 x3) 0) x1).bind fun r6626=>
   cond ((decide (0≤x2))&&(decide (x2<(((ya x0):Nat):Int))))
    ((qtg F (y7 x0 (y6 x2) 0) x1).bind fun r6630=>
    cond (decide (r6626.1<r6630.1))
     (rec x0 x1 x3 (y0 .i64 (x3+1)))
     (rec x0 x1 x2 (y0 .i64 (x3+1))))
     none)
    none)
  (some (x2,()))
def q85(F:Nat):Nat→LI→LI→Int→Int→Option (Int×Unit)
 |0,_,_,_,_=>none
 |k+1,x0,x1,x2,x3=>q93 F (q85 F k) x0 x1 x2 x3
def q4d(F:Nat)(a0:LI)(a1:LI):Option (Int×Unit):=
 (q85 F F a0 a1 0 1).bind fun r6634=>
 some (r6634.1,())
def qiy(F:Nat)(rec:Int→LI→LI→Int→Option (LI×LI×Unit))(x0:Int)(x1:LI)(x2:LI)(x3:Int):Option (LI×LI×Unit):=
 cond (decide (x3<16))
  (cond ((decide (0≤x3))&&(decide (x3<16)))
   (rec x0 x1 (yy x2 (y6 x3) x0) (y0 .i64 (x3+1)))
    none)
  (some (x1,x2,()))
def qa4(F:Nat):Nat→Int→LI→LI→Int→Option (LI×LI×Unit)
 |0,_,_,_,_=>none
 |k+1,x0,x1,x2,x3=>qiy F (qa4 F k) x0 x1 x2 x3
def qth(F:Nat)(a0:Int):Option (LI×Unit):=
 (qa4 F F a0 q0o q0o 0).bind fun r7490=>
 some (r7490.2.1,())
def q94(F:Nat)(rec:Int→Int→Int→LI→Int→Option (LI×Unit))(x0:Int)(x1:Int)(x2:Int)(x3:LI)(x4:Int):Option (LI×Unit):=
 cond (decide (x4<x0))
  (let v7603:Int:=(y0 .i64 (x1*x4))
  let v7604:Int:=(y0 .i64 (v7603+x2))
  cond ((decide (((ya x3)+1)≤1099511627776))&&true)
   (rec x0 x1 x2 (x3++[v7604]) (y0 .i64 (x4+1)))
    none)
  (some (x3,()))
def q86(F:Nat):Nat→Int→Int→Int→LI→Int→Option (LI×Unit)
 |0,_,_,_,_,_=>none
 |k+1,x0,x1,x2,x3,x4=>q94 F (q86 F k) x0 x1 x2 x3 x4
def qfs(F:Nat)(a0:Int)(a1:Int)(a2:Int):Option (LI×Unit):=
 (q86 F F a0 a1 a2 [] 0).bind fun r7609=>
 some (r7609.1,())
def qgc(F:Nat)(rec:Int→LI→LI→LI→Int→Option (LI×LI×Unit))(x0:Int)(x1:LI)(x2:LI)(x3:LI)(x4:Int):Option (LI×LI×Unit):=
 cond (decide (x4<16))
  (let b8409:Bool:=((decide (0≤x4))&&(decide (x4<16)))
  cond b8409
   (cond b8409
    (cond ((decide (0≤x0))&&(decide (x0<4)))
     (rec x0 (yy x1 (((y6 x4)*4)+(y6 x0)) (y7 x2 (y6 x4) 0)) x2 x3 (y0 .i64 (x4+1)))
      none)
     none)
    none)
  (some (x1,x3,()))
def qav(F:Nat):Nat→Int→LI→LI→LI→Int→Option (LI×LI×Unit)
 |0,_,_,_,_,_=>none
 |k+1,x0,x1,x2,x3,x4=>qgc F (qav F k) x0 x1 x2 x3 x4
def q1p(F:Nat)(a0:LI)(a1:LI)(a2:Int):Option (LI×Unit):=
 (qav F F a2 a0 a1 qar 0).bind fun r8417=>
 some (r8417.1,())
def qti(F:Nat)(rec:Int→LI→LI→Int→Option (LI×LI×Unit))(x0:Int)(x1:LI)(x2:LI)(x3:Int):Option (LI×LI×Unit):=
 cond (decide (x3<16))
  (cond ((decide (0≤x3))&&(decide (x3<16)))
   (rec x0 x1 (yy x2 (3+((y6 x3)*4)) x0) (y0 .i64 (x3+1)))
    none)
  (some (x1,x2,()))
def qgd(F:Nat):Nat→Int→LI→LI→Int→Option (LI×LI×Unit)
 |0,_,_,_,_=>none
 |k+1,x0,x1,x2,x3=>qti F (qgd F k) x0 x1 x2 x3
def q5j(F:Nat)(a0:Int):Option (LI×Unit):=
 (qgd F F a0 qar qar 0).bind fun r8436=>
 some (r8436.2.1,())
def qdw(F:Nat)(rec:LI→LI→LI→Int→Option (LI×LI×LI×Unit))(x0:LI)(x1:LI)(x2:LI)(x3:Int):Option (LI×LI×LI×Unit):=
 cond (decide (x3<16))
  ((q26 F x0 (y0 .i64 (16+(y0 .i64 (3*(y0 .i64 ((y0 .i64 (4*(yw x3 4)))+(y0 .i64 (yx x3 4)))))))) 3).bind fun r13166=>
  cond ((decide (0≤x3))&&(decide (x3<16)))
   (rec x0 x1 (yy x2 (y6 x3) r13166.1) (y0 .i64 (x3+1)))
    none)
  (some (x0,x1,x2,()))
def q6v(F:Nat):Nat→LI→LI→LI→Int→Option (LI×LI×LI×Unit)
 |0,_,_,_,_=>none
 |k+1,x0,x1,x2,x3=>qdw F (q6v F k) x0 x1 x2 x3
def qpp(F:Nat)(a0:LI):Option (Int×Int×Int×LI×Int×Unit):=
 cond ((((ya a0):Nat):Int) !=8)
  (some (0,0,0,q0o,1,()))
  ((q6v F F a0 q0o q0o 0).bind fun r13171=>
  (q26 F r13171.1 0 8).bind fun r13173=>
  (q26 F r13171.1 8 4).bind fun r13174=>
  (q26 F r13171.1 12 4).bind fun r13175=>
  some (r13173.1,r13174.1,r13175.1,r13171.2.2.1,0,()))
def qns:LI:=[-3,-6,-9,-15,2,5,8,14,-3,-7,-10,-13,2,6,9,12,-2,-5,-8,-13,1,4,7,12,-2,-4,-6,-13,1,3,5,12,-3,-6,-8,-12,2,5,7,11,-3,-7,-9,-11,2,6,8,10,-4,-7,-8,-11,3,6,7,10,-3,-5,-8,-11,2,4,7,10,-2,-6,-8,-10,1,5,7,9,-2,-5,-8,-10,1,4,7,9,-2,-4,-8,-10,1,3,7,9,-2,-5,-7,-10,1,4,6,9,-3,-4,-7,-10,2,3,6,9,-1,-2,-3,-10,0,1,2,9,-4,-6,-8,-9,3,5,7,8,-3,-5,-7,-9,2,4,6,8]
def qpq(F:Nat)(a0:Int):Option (LI×Unit):=
 let v13179:Int:=(yw a0 16)
 cond (decide (v13179<0))
  (let v13181:Int:=(y0 .i64 (v13179+16))
  cond ((decide (0≤v13181))&&(decide (v13181<16)))
   (some ((y8 8 (y9 ((y6 v13181)*8) qns)),()))
    none)
  (cond ((decide (0≤v13179))&&(decide (v13179<16)))
   (some ((y8 8 (y9 ((y6 v13179)*8) qns)),()))
    none)
def qpr(F:Nat)(a0:Int)(a1:Int)(a2:Int)(a3:Bool):Option (Int×Unit):=
 cond (!a3)
  ((q5f F (y0 .i64 (a0+(y0 .i64 (a2*a1)))) 255).bind fun r13212=>
  some (r13212.1,()))
  (cond (a1==0)
   ((q5f F (y0 .i64 ((y0 .i64 ((y0 .i64 (8*a0))+4))+(y0 .i64 (a2*1)))) 2047).bind fun r13219=>
   some (r13219.1,()))
   ((q5f F (y0 .i64 ((y0 .i64 ((y0 .i64 (8*a0))+4))+(y0 .i64 (a2*(y0 .i64 (8*a1)))))) 2047).bind fun r13224=>
   some (r13224.1,())))
def qc4(F:Nat)(rec:Bool→LI→Int→Int→Int→LI→Int→Option (LI×LI×Unit))(x0:Bool)(x1:LI)(x2:Int)(x3:Int)(x4:Int)(x5:LI)(x6:Int):Option (LI×LI×Unit):=
 cond (decide (x6<16))
  ((qpq F x4).bind fun r13238=>
  let b13239:Bool:=((decide (0≤x6))&&(decide (x6<16)))
  cond b13239
   (let v13241:Int:=(y7 x5 (y6 x6) 0)
   cond ((decide (0≤v13241))&&(decide (v13241<8)))
    ((qpr F x2 x3 (y7 r13238.1 (y6 v13241) 0) x0).bind fun r13244=>
    cond b13239
     (rec x0 x1 x2 x3 x4 (yy x5 (y6 x6) r13244.1) (y0 .i64 (x6+1)))
      none)
     none)
    none)
  (some (x1,x5,()))
def q5k(F:Nat):Nat→Bool→LI→Int→Int→Int→LI→Int→Option (LI×LI×Unit)
 |0,_,_,_,_,_,_,_=>none
 |k+1,x0,x1,x2,x3,x4,x5,x6=>qc4 F (q5k F k) x0 x1 x2 x3 x4 x5 x6
def q6o(F:Nat)(a0:LI)(a1:Bool):Option (LI×Int×Unit):=
 (qpp F a0).bind fun r13176=>
 cond (r13176.2.2.2.2.1 !=0)
  (some (r13176.2.2.2.1,r13176.2.2.2.2.1,()))
  ((q5k F F a1 q0o r13176.1 r13176.2.1 r13176.2.2.1 r13176.2.2.2.1 0).bind fun r13247=>
  some (r13247.2.1,0,()))
def qdx(F:Nat)(rec:Int→LI→LI→Int→Int→Int→Option (Int×LI×LI×Int×Int×Unit))(x0:Int)(x1:LI)(x2:LI)(x3:Int)(x4:Int)(x5:Int):Option (Int×LI×LI×Int×Int×Unit):=
 cond (decide (x5<4))
  ((qjy F x0 16).bind fun r13365=>
  (qfk F x5).bind fun r13366=>
  cond (!(r13366.1==0))
   (cond ((yw (y0 .i64 (yx r13365.1 r13366.1)) 2)==1)
    (let b13371:Bool:=((decide (0≤x4))&&(decide (x4<16)))
    cond b13371
     (let b13373:Bool:=((decide (0≤x5))&&(decide (x5<4)))
     cond b13373
      (let n13374:Nat:=(((y6 x4)*4)+(y6 x5))
      cond b13371
       (cond b13373
        ((qjz F (y0 .i64 ((y7 x1 n13374 0)-(y7 x2 n13374 0)))).bind fun r13378=>
        rec x0 x1 x2 (y0 .i64 (x3+r13378.1)) x4 (y0 .i64 (x5+1)))
         none)
        none)
       none)
      none)
    (rec x0 x1 x2 x3 x4 (y0 .i64 (x5+1))))
    none)
  (some (x0,x1,x2,x3,x4,()))
def q95(F:Nat):Nat→Int→LI→LI→Int→Int→Int→Option (Int×LI×LI×Int×Int×Unit)
 |0,_,_,_,_,_,_=>none
 |k+1,x0,x1,x2,x3,x4,x5=>qdx F (q95 F k) x0 x1 x2 x3 x4 x5
def qdy(F:Nat)(rec:Int→LI→LI→Int→Int→Option (Int×Unit))(x0:Int)(x1:LI)(x2:LI)(x3:Int)(x4:Int):Option (Int×Unit):=
 cond (decide (x4<16))
  ((q95 F F x0 x1 x2 x3 x4 0).bind fun r13382=>
  rec r13382.1 r13382.2.1 r13382.2.2.1 r13382.2.2.2.1 (y0 .i64 (r13382.2.2.2.2.1+1)))
  (some (x3,()))
def q96(F:Nat):Nat→Int→LI→LI→Int→Int→Option (Int×Unit)
 |0,_,_,_,_,_=>none
 |k+1,x0,x1,x2,x3,x4=>qdy F (q96 F k) x0 x1 x2 x3 x4
def qzi(F:Nat)(a0:LI)(a1:LI)(a2:Int):Option (Int×Unit):=
 (q96 F F a2 a0 a1 0 0).bind fun r13384=>
 some (r13384.1,())
def q7g(F:Nat)(rec:LI→LI→Int→Option (LI×LI×Unit))(x0:LI)(x1:LI)(x2:Int):Option (LI×LI×Unit):=
 let v14005:Int:=(((ya x1):Nat):Int)
 cond (decide (x2<v14005))
  (let b14007:Bool:=((decide (0≤x2))&&(decide (x2<(((ya x1):Nat):Int))))
  cond b14007
   ((q5f F (y0 .i64 ((y7 x1 (y6 x2) 0)+2)) 255).bind fun r14011=>
   cond b14007
    (rec x0 (yy x1 (y6 x2) r14011.1) (y0 .i64 (x2+1)))
     none)
    none)
  (some (x0,x1,()))
def q56(F:Nat):Nat→LI→LI→Int→Option (LI×LI×Unit)
 |0,_,_,_=>none
 |k+1,x0,x1,x2=>q7g F (q56 F k) x0 x1 x2
def qdz(F:Nat)(rec:LI→LI→LI→LI→LI→LI→Int→Option (LI×LI×LI×LI×Unit))(x0:LI)(x1:LI)(x2:LI)(x3:LI)(x4:LI)(x5:LI)(x6:Int):Option (LI×LI×LI×LI×Unit):=
 cond (decide (x6<3))
  ((q4c F x0 x6).bind fun r14032=>
  (q4d F x1 r14032.1).bind fun r14034=>
  cond ((decide (0≤x6))&&(decide (x6<3)))
   (rec x0 x1 (yy x2 (y6 x6) r14034.1) x3 x4 x5 (y0 .i64 (x6+1)))
    none)
  (some (x2,x3,x4,x5,()))
def q6w(F:Nat):Nat→LI→LI→LI→LI→LI→LI→Int→Option (LI×LI×LI×LI×Unit)
 |0,_,_,_,_,_,_,_=>none
 |k+1,x0,x1,x2,x3,x4,x5,x6=>qdz F (q6w F k) x0 x1 x2 x3 x4 x5 x6
def qps(F:Nat)(a0:LI):Option (LI×Unit):=
 (q6d F 5).bind fun r13984=>
 (q56 F F a0 r13984.1 0).bind fun r14014=>
 (q6w F F r14014.1 r14014.2.1 [0,0,0] [0,0,0] [0,0] q0o 0).bind fun r14039=>
 (qnr F (true,false,r14039.1,r14039.2.1,r14039.2.2.1,r14039.2.2.2.1,())).bind fun r14040=>
 some (r14040.1,())
def qct(F:Nat)(a0:LI):Option (LI×Unit):=
 (q6d F 6).bind fun r14461=>
 (q4c F a0 0).bind fun r14463=>
 (q4d F r14461.1 r14463.1).bind fun r14465=>
 (q6d F 7).bind fun r14466=>
 (q4c F a0 1).bind fun r14468=>
 (q4d F r14466.1 r14468.1).bind fun r14470=>
 (q6d F 6).bind fun r14471=>
 (q4c F a0 2).bind fun r14473=>
 (q4d F r14471.1 r14473.1).bind fun r14475=>
 (qtc F [r14465.1,r14470.1,r14475.1] [r14465.1,r14470.1,r14475.1] [r14465.1,r14470.1,r14475.1]).bind fun r14476=>
 some (r14476.1,())
def qaw(F:Nat)(a0:Int)(a1:Int):Option (Bool×Unit):=
 cond (decide (0≤a0))
  (some ((decide (a0≤a1)),()))
  (some (false,()))
def qge(F:Nat)(rec:LI→LI→Int→Option (Unit⊕(LI×Unit)))(x0:LI)(x1:LI)(x2:Int):Option (Unit⊕(LI×Unit)):=
 cond (decide (x2<16))
  (let b14583:Bool:=((decide (0≤x2))&&(decide (x2<16)))
  cond b14583
   (let v14585:Int:=(y7 x0 (y6 x2) 0)
   (qaw F v14585 7).bind fun r14586=>
   cond (!r14586.1)
    (some (.inl ()))
    (cond b14583
     ((qbg F x1 (y0 .i64 (16+(y0 .i64 (3*(y0 .i64 ((y0 .i64 (4*(yw x2 4)))+(y0 .i64 (yx x2 4)))))))) 3 true (y0 .u64 v14585)).bind fun r14595=>
     rec x0 r14595.1 (y0 .i64 (x2+1)))
      none))
    none)
  (some (.inr (x1,())))
def qax(F:Nat):Nat→LI→LI→Int→Option (Unit⊕(LI×Unit))
 |0,_,_,_=>none
 |k+1,x0,x1,x2=>qge F (qax F k) x0 x1 x2
def qnt(F:Nat)(a0:Int)(a1:Int)(a2:Int)(a3:LI):Option (LI×Int×Unit):=
 (qaw F a0 255).bind fun r14547=>
 cond (!r14547.1)
  (some ([],1,()))
  ((qaw F a1 15).bind fun r14549=>
  cond (!r14549.1)
   (some ([],1,()))
   ((qaw F a2 15).bind fun r14551=>
   cond (!r14551.1)
    (some ([],1,()))
    ((qax F F a3 [(y0 .u8 a0),(y0 .u8 (y0 .i64 ((y0 .i64 (16*a1))+a2))),0,0,0,0,0,0] 0).bind fun r14598=>match r14598 with
     | .inl r14598=>(some ([],1,()))
     | .inr r14598=>(some (r14598.1,0,())))))
def qft(F:Nat)(a0:LI)(a1:Int):Option (LI×Unit):=
 (qfs F 256 8 4).bind fun r14616=>
 (q4c F a0 a1).bind fun r14618=>
 (q4d F r14616.1 r14618.1).bind fun r14620=>
 (qth F 4).bind fun r14621=>
 (qnt F r14620.1 1 13 r14621.1).bind fun r14622=>
 some (r14622.1,())
def q75:LI:=[0,0,0,0,0,0,0,0,0,0,0,0,0,0,0,0,0,0,0,0,0,0,0,0,0,0,0,0,0,0,0,0,0,0,0,0,0,0,0,0,0,0,0,0,0,0,0,0,0,0,0,0,0,0,0,0,0,0,0,0,0,0,0,0]
def qe0:LI:=[0,0,0,0,0,0,0,0,0,0,0,0,0,0,0,0]
def qhm(F:Nat)(a0:LI)(a1:Int)(a2:Int)(a3:Bool):Option (LI×Int×Unit):=
 cond a3
  ((qjk F a0 true).bind fun r196025=>
  some (r196025.1,r196025.2.1,()))
   none
def q2n(F:Nat)(a0:LI)(a1:Int)(a2:LI)(a3:Int)(a4:Int)(a5:Bool):Option (LI×Unit):=
 (qhm F a2 a3 a4 a5).bind fun r196029=>
 (qk2 F a0 a1 r196029.1 r196029.2.1).bind fun r196030=>
 some (r196030.1,())
def q0v(F:Nat)(a0:Int)(a1:(Int×Int×Bool×Unit))(a2:LI)(a3:LI)(a4:LI):Option (LI×Int×Unit):=
 cond (a0==2)
   none
  (cond (a0==3)
    none
   (cond (a0==4)
    ((qa2 F a1.2.2.1).bind fun r196019=>
    (q2n F r196019.1 0 a2 a1.1 a1.2.1 a1.2.2.1).bind fun r196031=>
    some (r196031.1,0,()))
    (cond (a0==11)
     ((qa2 F a1.2.2.1).bind fun r196033=>
     (q2n F r196033.1 0 a2 a1.1 a1.2.1 a1.2.2.1).bind fun r196034=>
     some (r196034.1,0,()))
     (cond (a0==5)
      ((qa2 F a1.2.2.1).bind fun r196036=>
      (q2n F r196036.1 0 a2 a1.1 a1.2.1 a1.2.2.1).bind fun r196037=>
      (q2n F r196037.1 1 a3 a1.1 a1.2.1 a1.2.2.1).bind fun r196038=>
      some (r196038.1,0,()))
      (cond (a0==12)
       ((qa2 F a1.2.2.1).bind fun r196040=>
       (q2n F r196040.1 0 a2 a1.1 a1.2.1 a1.2.2.1).bind fun r196041=>
       (q2n F r196041.1 1 a3 a1.1 a1.2.1 a1.2.2.1).bind fun r196042=>
       some (r196042.1,0,()))
       (cond (a0==6)
         none
        (cond (a0==7)
         ((qio F a4).bind fun r196045=>
         some (r196045.1,r196045.2.1,()))
         (cond (a0==8)
          ((qap F a4 (a0==9)).bind fun r196048=>
          some (r196048.1,r196048.2.1,()))
          (let b196049:Bool:=(a0==9)
          cond b196049
           ((qap F a4 b196049).bind fun r196050=>
           some (r196050.1,r196050.2.1,()))
           (cond (a0==10)
            ((qjk F a2 false).bind fun r196052=>
            (qap F a3 false).bind fun r196053=>
            (qte F r196053.1 r196053.2.1).bind fun r196054=>
            (qk2 F r196054.1 3 r196052.1 r196052.2.1).bind fun r196055=>
            some (r196055.1,r196052.2.1,()))
             none))))))))))
def qe1(F:Nat)(a0:Int)(a1:LI):Option (LI×Int×Unit):=
 (qa1 F a0).bind fun r196004=>
 cond (r196004.2.1 !=0)
  (some (q75,r196004.2.1,()))
  (let v196006:Int:=(((ya a1):Nat):Int)
  cond (v196006 !=r196004.1.1)
   (some (q75,1,()))
   (cond (decide (8≤(ya a1)))
    (let v196009:Int:=(y0 .i64 (v196006-8))
    cond ((decide (0≤v196009))&&((decide ((y6 v196009)≤(ya a1)))&&true))
     ((q0v F a0 (r196004.1.1,r196004.1.2.1,r196004.1.2.2.1,()) (y8 8 a1) (y8 (psub (ya a1) (y6 v196009)) (y9 (y6 v196009) a1)) a1).bind fun r196058=>
     some (r196058.1,r196058.2.1,()))
      none)
     none))
def qa5(F:Nat)(a0:Int)(a1:LI)(a2:LI):Option (Int×Int×Unit):=
 (qe1 F a0 a1).bind fun r196059=>
 cond (r196059.2.1 !=0)
  (some (0,r196059.2.1,()))
  ((qa1 F a0).bind fun r196061=>
  (qcr F a0 a2).bind fun r196062=>
  (qpl F r196062.1 r196059.1 r196061.1.2.1).bind fun r196063=>
  some (r196063.1,0,()))
def q7h:LI:=[0,0,0,0,255,255,0,0]
def qpt(F:Nat)(a0:Int)(a1:LI)(a2:LI)(a3:LI):Option (LI×Unit):=
 (qa5 F a0 a2 a1).bind fun r196093=>
 (qa5 F a0 a3 a1).bind fun r196094=>
 cond (decide (r196094.1<r196093.1))
  (some (a3,()))
  (some (a2,()))
def q3a(F:Nat)(a0:Int)(a1:LI):Option (LI×Unit):=
 let b196119:Bool:=(a0==2)
 cond b196119
  ((qk3 F a1 3 4).bind fun r196120=>
  (qcs F r196120.1).bind fun r196121=>
  none)
  (let b196122:Bool:=(a0==3)
  cond b196122
    none
   (let b196123:Bool:=(a0==4)
   cond b196123
     none
    (let b196124:Bool:=(a0==5)
    cond b196124
      none
     (let b196125:Bool:=(a0==6)
     cond b196125
       none
      (let b196126:Bool:=(a0==7)
      cond b196126
       ((qpn F a1).bind fun r196127=>
       some (r196127.1,()))
       (let b196129:Bool:=(a0==8)
       cond b196129
        ((qfq F a1).bind fun r196130=>
        some (r196130.1,()))
        (let b196132:Bool:=(a0==9)
        cond b196132
         ((qfq F a1).bind fun r196133=>
         (qpt F a0 a1 r196133.1 q7h).bind fun r196135=>
         some (r196135.1,()))
         (let b196137:Bool:=(a0==10)
         cond b196137
          ((qwi F a1 3).bind fun r196138=>
          (qcs F 0).bind fun r196139=>
          (qlo F r196138.1 0 0 r196139.1).bind fun r196140=>
          let n196141:Nat:=(ya r196140.1)
          (qfq F a1).bind fun r196142=>
          let n196143:Nat:=(ya r196142.1)
          cond ((decide ((n196141+n196143)≤1099511627776))&&true)
           (some ((r196140.1++r196142.1),()))
            none)
          (let b196147:Bool:=(a0==11)
          cond b196147
           ((qjl F a1 0).bind fun r196148=>
           some (r196148.1,()))
           (let b196150:Bool:=(a0==12)
           cond b196150
            ((qjl F a1 0).bind fun r196151=>
            let n196152:Nat:=(ya r196151.1)
            (qjl F a1 1).bind fun r196153=>
            let n196154:Nat:=(ya r196153.1)
            cond ((decide ((n196152+n196154)≤1099511627776))&&true)
             (some ((r196151.1++r196153.1),()))
              none)
             none))))))))))
def qnu(F:Nat)(a0:Int)(a1:LI):Option (LI×Int×Unit):=
 (qa1 F a0).bind fun r196160=>
 cond (r196160.2.1 !=0)
  (some ([],r196160.2.1,()))
  ((q8y F a1).bind fun r196162=>
  cond (!r196162.1)
   (some ([],1,()))
   ((qcr F a0 a1).bind fun r196164=>
   (q3a F a0 r196164.1).bind fun r196165=>
   some (r196165.1,0,())))
def qlq(F:Nat)(a0:Int)(a1:LI):Option (LI×Int×Unit):=
 (qlp F a0).bind fun r196170=>
 cond (r196170.2.1 !=0)
  (some (q75,r196170.2.1,()))
  (let v196172:Int:=(((ya a1):Nat):Int)
  cond (v196172 !=r196170.1.1)
   (some (q75,1,()))
   (cond (decide (8≤(ya a1)))
    (let v196175:Int:=(y0 .i64 (v196172-8))
    cond ((decide (0≤v196175))&&((decide ((y6 v196175)≤(ya a1)))&&true))
     (let l196179:LI:=(y8 8 a1)
     (qgr F l196179).bind fun r196180=>
     let l196181:LI:=(y8 (psub (ya a1) (y6 v196175)) (y9 (y6 v196175) a1))
     (qgr F l196181).bind fun r196182=>
     cond (a0==1)
       none
      (cond (a0==2)
        none
       (cond (a0==3)
         none
        (cond (a0==4)
         ((q5j F 255).bind fun r196187=>
         (q1p F r196187.1 r196180.1 0).bind fun r196188=>
         some (r196188.1,0,()))
         (cond (a0==5)
          ((q5j F 255).bind fun r196190=>
          (q1p F r196190.1 r196180.1 0).bind fun r196191=>
          (q1p F r196191.1 r196182.1 1).bind fun r196192=>
          some (r196192.1,0,()))
          (cond (a0==6)
            none
           (cond (a0==7)
            ((qgu F a1).bind fun r196195=>
            some (r196195.1,r196195.2.1,()))
            (cond (a0==8)
             ((q6k F a1 false).bind fun r196197=>
             some (r196197.1,r196197.2.1,()))
             (cond (a0==9)
              ((q6k F a1 true).bind fun r196199=>
              some (r196199.1,r196199.2.1,()))
              (cond (a0==10)
               ((q6k F l196181 false).bind fun r196201=>
               (q6o F l196179 false).bind fun r196202=>
               (q1p F r196201.1 r196202.1 3).bind fun r196203=>
               some (r196203.1,0,()))
               ((q6o F l196179 true).bind fun r196204=>
               (q6o F l196181 true).bind fun r196205=>
               cond (a0==11)
                ((q5j F 2047).bind fun r196207=>
                (q1p F r196207.1 r196204.1 0).bind fun r196208=>
                some (r196208.1,0,()))
                ((q5j F 2047).bind fun r196209=>
                (q1p F r196209.1 r196204.1 0).bind fun r196210=>
                (q1p F r196210.1 r196205.1 1).bind fun r196211=>
                some (r196211.1,0,())))))))))))))
      none)
     none))
def qk4(F:Nat)(a0:Int)(a1:LI)(a2:LI):Option (Int×Int×Unit):=
 (qlq F a0 a1).bind fun r196212=>
 cond (r196212.2.1 !=0)
  (some (0,r196212.2.1,()))
  ((qlp F a0).bind fun r196214=>
  (qfr F a0 a2).bind fun r196215=>
  (qzi F r196215.1 r196212.1 r196214.1.2.1).bind fun r196216=>
  some (r196216.1,0,()))
def q6x(F:Nat)(a0:Int)(a1:LI):Option (LI×Int×Unit):=
 (qlp F a0).bind fun r196269=>
 cond (r196269.2.1 !=0)
  (some ([],r196269.2.1,()))
  ((q55 F a1).bind fun r196271=>
  cond (!r196271.1)
   (some ([],1,()))
   ((qfr F a0 a1).bind fun r196273=>
   let b196274:Bool:=(a0==1)
   cond b196274
     none
    (let b196275:Bool:=(a0==2)
    cond b196275
     ((q6d F 4).bind fun r196276=>
     (q4c F a1 3).bind fun r196278=>
     (q4d F r196276.1 r196278.1).bind fun r196280=>
     (qth F r196280.1).bind fun r196281=>
     none)
     (let b196282:Bool:=(a0==3)
     cond b196282
       none
      (let b196283:Bool:=(a0==4)
      cond b196283
        none
       (let b196284:Bool:=(a0==5)
       cond b196284
         none
        (let b196285:Bool:=(a0==6)
        cond b196285
          none
         (let b196286:Bool:=(a0==7)
         cond b196286
          ((qps F a1).bind fun r196287=>
          some (r196287.1,0,()))
          (let b196289:Bool:=(a0==8)
          cond b196289
           ((qct F a1).bind fun r196290=>
           some (r196290.1,0,()))
           (let b196292:Bool:=(a0==9)
           cond b196292
            ((qct F a1).bind fun r196293=>
            (qk4 F 9 r196293.1 a1).bind fun r196295=>
            (qk4 F 9 q7h a1).bind fun r196296=>
            cond (decide (r196296.1<r196295.1))
             (some (q7h,0,()))
             (some (r196293.1,0,())))
            (let b196298:Bool:=(a0==10)
            cond b196298
             ((qfs F 256 1 0).bind fun r196299=>
             let n196300:Nat:=(ya r196299.1)
             (q4c F a1 3).bind fun r196301=>
             let n196302:Nat:=(ya r196301.1)
             (q4d F r196299.1 r196301.1).bind fun r196303=>
             (qnt F r196303.1 0 0 qe0).bind fun r196304=>
             let n196305:Nat:=(ya r196304.1)
             (qct F a1).bind fun r196306=>
             let n196307:Nat:=(ya r196306.1)
             cond ((decide ((n196305+n196307)≤1099511627776))&&true)
              (some ((r196304.1++r196306.1),0,()))
               none)
             (let b196311:Bool:=(a0==11)
             cond b196311
              ((qft F r196273.1 0).bind fun r196312=>
              some (r196312.1,0,()))
              ((qft F r196273.1 0).bind fun r196314=>
              let n196315:Nat:=(ya r196314.1)
              (qft F r196273.1 1).bind fun r196316=>
              let n196317:Nat:=(ya r196316.1)
              cond ((decide ((n196315+n196317)≤1099511627776))&&true)
               (some ((r196314.1++r196316.1),0,()))
                none)))))))))))))
def q5d:LI:=[0,0,0,0,0,0,0,0,0,0,0,0,0,0,0,0,0,0,0,0,0,0,0,0,0,0,0,0,0,0,0,0,0,0,0,0,0,0,0,0,0,0,0,0,0,0,0,0,0,0,0,0,0,0,0,0,0,0,0,0,0,0,0,0]
def q01:LI:=[0,0,0,0,0,0,0,0,0,0,0,0,0,0,0,0]
def qgf(F:Nat)(rec:Int→LI→LI→LI→LI→LI→Int→Option (LI×LI×LI×LI×LI×Unit))(x0:Int)(x1:LI)(x2:LI)(x3:LI)(x4:LI)(x5:LI)(x6:Int):Option (LI×LI×LI×LI×LI×Unit):=
 cond (decide (x6<16))
  (cond ((decide (0≤x6))&&(decide (x6<16)))
   (rec x0 x1 x2 x3 x4 (yy x5 (y6 x6) x0) (y0 .i64 (x6+1)))
    none)
  (some (x1,x2,x3,x4,x5,()))
def q87(F:Nat):Nat→Int→LI→LI→LI→LI→LI→Int→Option (LI×LI×LI×LI×LI×Unit)
 |0,_,_,_,_,_,_,_=>none
 |k+1,x0,x1,x2,x3,x4,x5,x6=>qgf F (q87 F k) x0 x1 x2 x3 x4 x5 x6
def qjm(F:Nat)(a0:LI)(a1:Int)(a2:Int):Option (LI×Bool×Unit):=
 (q87 F F a2 q5d a0 [0,0,0] [a1,a1] q01 0).bind fun r223013=>
 (qtb F (true,false,r223013.2.1,r223013.2.2.1,r223013.2.2.2.1,r223013.2.2.2.2.1,())).bind fun r223014=>
 cond (!r223014.1)
  (some (q5d,false,()))
  ((q9x F (true,false,r223013.2.1,r223013.2.2.1,r223013.2.2.2.1,r223013.2.2.2.2.1,())).bind fun r223016=>
  some (r223016.1,true,()))
def q2x(F:Nat)(a0:Int)(a1:Int)(a2:Int)(a3:LI)(a4:Bool)(a5:LI)(a6:Int):Option (Int×Unit):=
 cond ((decide (0≤a0))&&(decide (a0<8)))
  ((qgy F a1 a2 (y7 a3 (y6 a0) 0) a4).bind fun r223080=>
  cond ((decide (0≤a6))&&(decide (a6<4)))
   (let v223084:Int:=(y0 .i64 (r223080.1-(y7 a5 (y6 a6) 0)))
   some ((y0 .i64 (v223084*v223084)),()))
    none)
   none
def q0p(F:Nat)(rec:Int→Int→Int→LI→Bool→LI→Int→Int→Int→Option (Int×Unit))(x0:Int)(x1:Int)(x2:Int)(x3:LI)(x4:Bool)(x5:LI)(x6:Int)(x7:Int)(x8:Int):Option (Int×Unit):=
 cond (decide (x8<x0))
  ((q2x F x8 x1 x2 x3 x4 x5 x6).bind fun r223113=>
  (q2x F x7 x1 x2 x3 x4 x5 x6).bind fun r223114=>
  cond (decide (r223113.1<r223114.1))
   (rec x0 x1 x2 x3 x4 x5 x6 x8 (y0 .i64 (x8+1)))
   (rec x0 x1 x2 x3 x4 x5 x6 x7 (y0 .i64 (x8+1))))
  (some (x7,()))
def q0c(F:Nat):Nat→Int→Int→Int→LI→Bool→LI→Int→Int→Int→Option (Int×Unit)
 |0,_,_,_,_,_,_,_,_,_=>none
 |k+1,x0,x1,x2,x3,x4,x5,x6,x7,x8=>q0p F (q0c F k) x0 x1 x2 x3 x4 x5 x6 x7 x8
def q16(F:Nat)(a0:Int)(a1:Int)(a2:Int)(a3:LI)(a4:Bool)(a5:LI)(a6:Int):Option (Int×Unit):=
 (q0c F F a0 a1 a2 a3 a4 a5 a6 0 1).bind fun r223118=>
 some (r223118.1,())
def q4e(F:Nat)(rec:Int→Bool→Int→Int→LI→Int→Int→LI→LI→Int→LI→Int→Option (Int×Int×LI×Int×Int×LI×Int×Unit))(x0:Int)(x1:Bool)(x2:Int)(x3:Int)(x4:LI)(x5:Int)(x6:Int)(x7:LI)(x8:LI)(x9:Int)(x10:LI)(x11:Int):Option (Int×Int×LI×Int×Int×LI×Int×Unit):=
 cond (decide (x11<16))
  (let b223249:Bool:=((decide (0≤x11))&&(decide (x11<16)))
  cond b223249
   (let l223250:LI:=(y8 4 (y9 ((y6 x11)*4) x10))
   (q16 F 8 x5 x6 x8 x1 l223250 x2).bind fun r223251=>
   cond b223249
    (let l223253:LI:=(yy x7 (y6 x11) r223251.1)
    cond b223249
     ((q2x F (y7 l223253 (y6 x11) 0) x5 x6 x8 x1 l223250 x2).bind fun r223255=>
     rec x0 x1 x2 x3 x4 x5 x6 l223253 x8 (y0 .i64 (x9+r223255.1)) x10 (y0 .i64 (x11+1)))
      none)
     none)
    none)
  (some (x0,x3,x4,x5,x6,x7,x9,()))
def q24(F:Nat):Nat→Int→Bool→Int→Int→LI→Int→Int→LI→LI→Int→LI→Int→Option (Int×Int×LI×Int×Int×LI×Int×Unit)
 |0,_,_,_,_,_,_,_,_,_,_,_,_=>none
 |k+1,x0,x1,x2,x3,x4,x5,x6,x7,x8,x9,x10,x11=>q4e F (q24 F k) x0 x1 x2 x3 x4 x5 x6 x7 x8 x9 x10 x11
def q6y(F:Nat)(a0:Int)(a1:Int)(a2:Int)(a3:LI)(a4:Bool)(a5:Int)(a6:Int)(a7:LI):Option (Int×LI×Unit):=
 (q44 F a2).bind fun r223228=>
 (q24 F F a2 a4 a5 a6 a7 a0 a1 q01 r223228.1 0 a3 0).bind fun r223258=>
 (qlo F r223258.2.2.2.1 r223258.2.2.2.2.1 r223258.1 r223258.2.2.2.2.2.1).bind fun r223260=>
 cond (r223260.2.1==0)
  (cond (decide (r223258.2.1<0))
   (some (r223258.2.2.2.2.2.2.1,r223260.1,()))
   (cond (decide (r223258.2.2.2.2.2.2.1<r223258.2.1))
    (some (r223258.2.2.2.2.2.2.1,r223260.1,()))
    (some (r223258.2.1,r223258.2.2.1,()))))
  (some (r223258.2.1,r223258.2.2.1,()))
def qe2(F:Nat)(rec:Int→LI→Int→Bool→Int→Int→LI→Int→Option (Int×LI×Int×Bool×Int×Int×Unit))(x0:Int)(x1:LI)(x2:Int)(x3:Bool)(x4:Int)(x5:Int)(x6:LI)(x7:Int):Option (Int×LI×Int×Bool×Int×Int×Unit):=
 cond (decide (x7<16))
  (cond ((decide (0≤x7))&&(decide (x7<16)))
   (let b223544:Bool:=((decide (0≤x2))&&(decide (x2<4)))
   cond b223544
    (let v223546:Int:=(y7 (y8 4 (y9 ((y6 x7)*4) x6)) (y6 x2) 0)
    cond b223544
     (rec x0 x1 x2 x3 (min x4 v223546) (max x5 v223546) x6 (y0 .i64 (x7+1)))
      none)
     none)
    none)
  (some (x0,x1,x2,x3,x4,x5,()))
def q6z(F:Nat):Nat→Int→LI→Int→Bool→Int→Int→LI→Int→Option (Int×LI×Int×Bool×Int×Int×Unit)
 |0,_,_,_,_,_,_,_,_=>none
 |k+1,x0,x1,x2,x3,x4,x5,x6,x7=>qe2 F (q6z F k) x0 x1 x2 x3 x4 x5 x6 x7
def qe3(F:Nat)(rec:Int→LI→LI→Bool→Int→Int→Int→Int→Int→Int→Int→Int→Option (Int×LI×LI×Bool×Int×Int×Int×Int×Int×Int×Unit))(x0:Int)(x1:LI)(x2:LI)(x3:Bool)(x4:Int)(x5:Int)(x6:Int)(x7:Int)(x8:Int)(x9:Int)(x10:Int)(x11:Int):Option (Int×LI×LI×Bool×Int×Int×Int×Int×Int×Int×Unit):=
 cond (decide (x11<16))
  ((q6y F (y0 .i64 (x6+x7)) x11 x8 x2 x3 x4 x5 x1).bind fun r223739=>
  (q6y F (y0 .i64 (x6-x7)) x11 x8 x2 x3 x4 r223739.1 r223739.2.1).bind fun r223742=>
  rec x0 r223742.2.1 x2 x3 x4 r223742.1 x6 x7 x8 x9 x10 (y0 .i64 (x11+1)))
  (some (x0,x1,x2,x3,x4,x5,x6,x7,x9,x10,()))
def q70(F:Nat):Nat→Int→LI→LI→Bool→Int→Int→Int→Int→Int→Int→Int→Int→Option (Int×LI×LI×Bool×Int×Int×Int×Int×Int×Int×Unit)
 |0,_,_,_,_,_,_,_,_,_,_,_,_=>none
 |k+1,x0,x1,x2,x3,x4,x5,x6,x7,x8,x9,x10,x11=>qe3 F (q70 F k) x0 x1 x2 x3 x4 x5 x6 x7 x8 x9 x10 x11
def qe4(F:Nat)(rec:Int→LI→LI→Bool→Int→Int→Int→Int→Int→Int→Option (Int×LI×LI×Bool×Int×Int×Int×Int×Unit))(x0:Int)(x1:LI)(x2:LI)(x3:Bool)(x4:Int)(x5:Int)(x6:Int)(x7:Int)(x8:Int)(x9:Int):Option (Int×LI×LI×Bool×Int×Int×Int×Int×Unit):=
 cond (decide (x9<16))
  ((q70 F F x0 x1 x2 x3 x4 x5 x6 x7 x9 x8 x9 0).bind fun r223745=>
  rec r223745.1 r223745.2.1 r223745.2.2.1 r223745.2.2.2.1 r223745.2.2.2.2.1 r223745.2.2.2.2.2.1 r223745.2.2.2.2.2.2.1 r223745.2.2.2.2.2.2.2.1 r223745.2.2.2.2.2.2.2.2.1 (y0 .i64 (r223745.2.2.2.2.2.2.2.2.2.1+1)))
  (some (x0,x1,x2,x3,x4,x5,x6,x8,()))
def q57(F:Nat):Nat→Int→LI→LI→Bool→Int→Int→Int→Int→Int→Int→Option (Int×LI×LI×Bool×Int×Int×Int×Int×Unit)
 |0,_,_,_,_,_,_,_,_,_,_=>none
 |k+1,x0,x1,x2,x3,x4,x5,x6,x7,x8,x9=>qe4 F (q57 F k) x0 x1 x2 x3 x4 x5 x6 x7 x8 x9
def q2m(F:Nat)(rec:Int→LI→LI→Bool→Int→Int→Int→Int→Option (LI×Unit))(x0:Int)(x1:LI)(x2:LI)(x3:Bool)(x4:Int)(x5:Int)(x6:Int)(x7:Int):Option (LI×Unit):=
 cond (decide (x7<3))
  (cond (decide (0<x7))
   (cond (decide (x0<2))
    (some (x1,()))
    ((q57 F F x0 x1 x2 x3 x4 x5 x6 x7 x7 0).bind fun r223748=>
    rec r223748.1 r223748.2.1 r223748.2.2.1 r223748.2.2.2.1 r223748.2.2.2.2.1 r223748.2.2.2.2.2.1 r223748.2.2.2.2.2.2.1 (y0 .i64 (r223748.2.2.2.2.2.2.2.1+1))))
   ((q57 F F x0 x1 x2 x3 x4 x5 x6 x7 x7 0).bind fun r223765=>
   rec r223765.1 r223765.2.1 r223765.2.2.1 r223765.2.2.2.1 r223765.2.2.2.2.1 r223765.2.2.2.2.2.1 r223765.2.2.2.2.2.2.1 (y0 .i64 (r223765.2.2.2.2.2.2.2.1+1))))
  (some (x1,()))
def q17(F:Nat):Nat→Int→LI→LI→Bool→Int→Int→Int→Int→Option (LI×Unit)
 |0,_,_,_,_,_,_,_,_=>none
 |k+1,x0,x1,x2,x3,x4,x5,x6,x7=>q2m F (q17 F k) x0 x1 x2 x3 x4 x5 x6 x7
def qa6(F:Nat)(a0:LI)(a1:Int)(a2:Bool)(a3:Int):Option (LI×Unit):=
 let b223523:Bool:=((decide (0≤a1))&&(decide (a1<4)))
 cond b223523
  (let v223525:Int:=(y7 a0 (y6 a1) 0)
  cond b223523
   ((q6z F F a3 a0 a1 a2 v223525 v223525 a0 0).bind fun r223550=>
   cond r223550.2.2.2.1
    ((q17 F F r223550.1 [] r223550.2.1 r223550.2.2.2.1 r223550.2.2.1 (-1) (y0 .i64 (yx (y0 .i64 (yx (y0 .i64 (r223550.2.2.2.2.1+r223550.2.2.2.2.2.1)) 2)) 8)) 0).bind fun r223768=>
    some (r223768.1,()))
    ((q17 F F r223550.1 [] r223550.2.1 r223550.2.2.2.1 r223550.2.2.1 (-1) (y0 .i64 (yx (y0 .i64 (yx (y0 .i64 (r223550.2.2.2.2.1+r223550.2.2.2.2.2.1)) 2)) 1)) 0).bind fun r223811=>
    some (r223811.1,())))
    none)
   none
def q4f(F:Nat)(a0:LI)(a1:LI)(a2:Int)(a3:LI)(a4:Int)(a5:LI):Option (Int×LI×LI×LI×Int×Unit):=
 (qa5 F a2 a5 a3).bind fun r223830=>
 cond (r223830.2.1==0)
  (cond (decide (r223830.1<a4))
   (some (a2,a3,a0,a5,r223830.1,()))
   (some (a2,a3,a0,a1,a4,())))
  (some (a2,a3,a0,a1,a4,()))
def q5s(F:Nat)(rec:Bool→Int→LI→LI→LI→Int→LI→Int→Option (Bool×Int×LI×LI×LI×Int×Unit))(x0:Bool)(x1:Int)(x2:LI)(x3:LI)(x4:LI)(x5:Int)(x6:LI)(x7:Int):Option (Bool×Int×LI×LI×LI×Int×Unit):=
 cond (decide (x7<4))
  (let b224011:Bool:=((decide (0≤x7))&&(decide (x7<4)))
  cond b224011
   (cond b224011
    (cond b224011
     (rec x0 x1 x2 (yy x3 (y6 x7) (y0 .i64 ((y7 x3 (y6 x7) 0)+(y7 x6 (y6 x7) 0)))) x4 x5 x6 (y0 .i64 (x7+1)))
      none)
     none)
    none)
  (some (x0,x1,x2,x3,x4,x5,()))
def q1w(F:Nat):Nat→Bool→Int→LI→LI→LI→Int→LI→Int→Option (Bool×Int×LI×LI×LI×Int×Unit)
 |0,_,_,_,_,_,_,_,_=>none
 |k+1,x0,x1,x2,x3,x4,x5,x6,x7=>q5s F (q1w F k) x0 x1 x2 x3 x4 x5 x6 x7
def q5t(F:Nat)(rec:Bool→Int→LI→LI→LI→Int→Option (LI×LI×Unit))(x0:Bool)(x1:Int)(x2:LI)(x3:LI)(x4:LI)(x5:Int):Option (LI×LI×Unit):=
 cond (decide (x5<16))
  (cond ((decide (0≤x5))&&(decide (x5<16)))
   ((q9v F x0 x5).bind fun r224000=>
   cond (r224000.1==x1)
    ((q1w F F x0 x1 x2 x3 x4 x5 (y8 4 (y9 ((y6 x5)*4) x4)) 0).bind fun r224018=>
    rec r224018.1 r224018.2.1 r224018.2.2.1 r224018.2.2.2.1 r224018.2.2.2.2.1 (y0 .i64 (r224018.2.2.2.2.2.1+1)))
    (rec x0 x1 x2 x3 x4 (y0 .i64 (x5+1))))
    none)
  (some (x2,x3,()))
def q2y(F:Nat):Nat→Bool→Int→LI→LI→LI→Int→Option (LI×LI×Unit)
 |0,_,_,_,_,_,_=>none
 |k+1,x0,x1,x2,x3,x4,x5=>q5t F (q2y F k) x0 x1 x2 x3 x4 x5
def q5u(F:Nat)(rec:LI→LI→Int→Option (LI×LI×Unit))(x0:LI)(x1:LI)(x2:Int):Option (LI×LI×Unit):=
 cond (decide (x2<4))
  (let b224033:Bool:=((decide (0≤x2))&&(decide (x2<4)))
  cond b224033
   (cond b224033
    (rec x0 (yy x1 (y6 x2) (y0 .i64 (yx (y7 x1 (y6 x2) 0) 8))) (y0 .i64 (x2+1)))
     none)
    none)
  (some (x0,x1,()))
def q2z(F:Nat):Nat→LI→LI→Int→Option (LI×LI×Unit)
 |0,_,_,_=>none
 |k+1,x0,x1,x2=>q5u F (q2z F k) x0 x1 x2
def q1n(F:Nat)(a0:LI)(a1:LI)(a2:Int)(a3:LI)(a4:Int)(a5:Bool)(a6:Int):Option (LI×Unit):=
 (q2y F F a5 a6 [0,0,0,0] [0,0,0,0] a3 0).bind fun r224021=>
 (q2z F F r224021.1 r224021.2.1 0).bind fun r224039=>
 some (r224039.2.1,())
def q9l(F:Nat)(rec:Bool→LI→LI→LI→Int→Int→LI→Int→Int→Option (Bool×LI×LI×LI×Int×LI×Int×Unit))(x0:Bool)(x1:LI)(x2:LI)(x3:LI)(x4:Int)(x5:Int)(x6:LI)(x7:Int)(x8:Int):Option (Bool×LI×LI×LI×Int×LI×Int×Unit):=
 cond (decide (x8<3))
  (let b224313:Bool:=((decide (0≤x8))&&(decide (x8<4)))
  cond b224313
   ((q32 F (y0 .i64 ((y7 x1 (y6 x8) 0)+x5)) 255).bind fun r224317=>
   cond ((decide (0≤x4))&&(decide (x4<4)))
    (cond b224313
     (rec x0 x1 x2 (yy x3 (((y6 x4)*4)+(y6 x8)) r224317.1) x4 x5 x6 x7 (y0 .i64 (x8+1)))
      none)
     none)
    none)
  (some (x0,x1,x2,x3,x4,x6,x7,()))
def q18(F:Nat):Nat→Bool→LI→LI→LI→Int→Int→LI→Int→Int→Option (Bool×LI×LI×LI×Int×LI×Int×Unit)
 |0,_,_,_,_,_,_,_,_,_=>none
 |k+1,x0,x1,x2,x3,x4,x5,x6,x7,x8=>q9l F (q18 F k) x0 x1 x2 x3 x4 x5 x6 x7 x8
def q9m(F:Nat)(rec:Bool→LI→LI→LI→LI→Int→Option (LI×LI×Unit))(x0:Bool)(x1:LI)(x2:LI)(x3:LI)(x4:LI)(x5:Int):Option (LI×LI×Unit):=
 cond (decide (x5<4))
  (cond ((decide (0≤x5))&&(decide (x5<4)))
   (let v224298:Int:=(y7 x4 (y6 x5) 0)
   cond (!x0)
    (cond (x5==0)
     ((q18 F F x0 x1 x2 x3 x5 0 x4 x5 0).bind fun r224323=>
     let b224324:Bool:=((decide (0≤r224323.2.2.2.2.1))&&(decide (r224323.2.2.2.2.1<4)))
     cond b224324
      (let n224325:Nat:=((y6 r224323.2.2.2.2.1)*4)
      let l224327:LI:=(yy r224323.2.2.2.1 (3+n224325) 255)
      cond (!r224323.1)
       (cond (r224323.2.2.2.2.1==2)
        (cond b224324
         (rec r224323.1 r224323.2.1 r224323.2.2.1 (((y8 n224325 l224327)++[0,0,0,0])++(y9 (n224325+4) l224327)) r224323.2.2.2.2.2.1 (y0 .i64 (r224323.2.2.2.2.2.2.1+1)))
          none)
        (rec r224323.1 r224323.2.1 r224323.2.2.1 l224327 r224323.2.2.2.2.2.1 (y0 .i64 (r224323.2.2.2.2.2.2.1+1))))
       (rec r224323.1 r224323.2.1 r224323.2.2.1 l224327 r224323.2.2.2.2.2.1 (y0 .i64 (r224323.2.2.2.2.2.2.1+1))))
       none)
     ((q18 F F x0 x1 x2 x3 x5 v224298 x4 x5 0).bind fun r224345=>
     let b224346:Bool:=((decide (0≤r224345.2.2.2.2.1))&&(decide (r224345.2.2.2.2.1<4)))
     cond b224346
      (let n224347:Nat:=((y6 r224345.2.2.2.2.1)*4)
      let l224349:LI:=(yy r224345.2.2.2.1 (3+n224347) 255)
      cond (!r224345.1)
       (cond (r224345.2.2.2.2.1==2)
        (cond b224346
         (rec r224345.1 r224345.2.1 r224345.2.2.1 (((y8 n224347 l224349)++[0,0,0,0])++(y9 (n224347+4) l224349)) r224345.2.2.2.2.2.1 (y0 .i64 (r224345.2.2.2.2.2.2.1+1)))
          none)
        (rec r224345.1 r224345.2.1 r224345.2.2.1 l224349 r224345.2.2.2.2.2.1 (y0 .i64 (r224345.2.2.2.2.2.2.1+1))))
       (rec r224345.1 r224345.2.1 r224345.2.2.1 l224349 r224345.2.2.2.2.2.1 (y0 .i64 (r224345.2.2.2.2.2.2.1+1))))
       none))
    ((q18 F F x0 x1 x2 x3 x5 v224298 x4 x5 0).bind fun r224367=>
    let b224368:Bool:=((decide (0≤r224367.2.2.2.2.1))&&(decide (r224367.2.2.2.2.1<4)))
    cond b224368
     (let n224369:Nat:=((y6 r224367.2.2.2.2.1)*4)
     let l224371:LI:=(yy r224367.2.2.2.1 (3+n224369) 255)
     cond (!r224367.1)
      (cond (r224367.2.2.2.2.1==2)
       (cond b224368
        (rec r224367.1 r224367.2.1 r224367.2.2.1 (((y8 n224369 l224371)++[0,0,0,0])++(y9 (n224369+4) l224371)) r224367.2.2.2.2.2.1 (y0 .i64 (r224367.2.2.2.2.2.2.1+1)))
         none)
       (rec r224367.1 r224367.2.1 r224367.2.2.1 l224371 r224367.2.2.2.2.2.1 (y0 .i64 (r224367.2.2.2.2.2.2.1+1))))
      (rec r224367.1 r224367.2.1 r224367.2.2.1 l224371 r224367.2.2.2.2.2.1 (y0 .i64 (r224367.2.2.2.2.2.2.1+1))))
      none))
    none)
  (some (x2,x3,()))
def q5e(F:Nat):Nat→Bool→LI→LI→LI→LI→Int→Option (LI×LI×Unit)
 |0,_,_,_,_,_,_=>none
 |k+1,x0,x1,x2,x3,x4,x5=>q9m F (q5e F k) x0 x1 x2 x3 x4 x5
def qbh(F:Nat)(a0:LI)(a1:Int)(a2:Bool):Option (LI×Unit):=
 (qcp F a1).bind fun r224177=>
 (q5e F F a2 a0 q01 q01 r224177.1 0).bind fun r224378=>
 some (r224378.2.1,())
def q6p(F:Nat)(a0:LI)(a1:LI)(a2:Int)(a3:LI)(a4:Int)(a5:Int):Option (LI×Unit):=
 cond ((decide (0≤a5))&&(decide (a5<16)))
  (let l224395:LI:=(y8 4 (y9 ((y6 a5)*4) a3))
  cond (a2 !=9)
   (some ((yy l224395 3 255),()))
   (some (l224395,())))
   none
def qgg(F:Nat)(rec:LI→LI→Int→Int→Option (Int×Unit))(x0:LI)(x1:LI)(x2:Int)(x3:Int):Option (Int×Unit):=
 cond (decide (x3<4))
  (let b224418:Bool:=((decide (0≤x3))&&(decide (x3<4)))
  cond b224418
   (cond b224418
    (let v224422:Int:=(y0 .i64 ((y7 x0 (y6 x3) 0)-(y7 x1 (y6 x3) 0)))
    cond b224418
     (cond b224418
      (rec x0 x1 (y0 .i64 (x2+(y0 .i64 (v224422*v224422)))) (y0 .i64 (x3+1)))
       none)
      none)
     none)
    none)
  (some (x2,()))
def qay(F:Nat):Nat→LI→LI→Int→Int→Option (Int×Unit)
 |0,_,_,_,_=>none
 |k+1,x0,x1,x2,x3=>qgg F (qay F k) x0 x1 x2 x3
def qjn(F:Nat)(a0:LI)(a1:LI):Option (Int×Unit):=
 (qay F F a0 a1 0 0).bind fun r224426=>
 some (r224426.1,())
def q19(F:Nat)(a0:Int)(a1:LI)(a2:LI):Option (Int×Unit):=
 cond ((decide (0≤a0))&&(decide (a0<4)))
  ((qjn F a1 (y8 4 (y9 ((y6 a0)*4) a2))).bind fun r224431=>
  some (r224431.1,()))
   none
def q4l(F:Nat)(rec:Int→LI→LI→Int→Int→Option (Int×Unit))(x0:Int)(x1:LI)(x2:LI)(x3:Int)(x4:Int):Option (Int×Unit):=
 cond (decide (x4<x0))
  ((q19 F x4 x1 x2).bind fun r224459=>
  (q19 F x3 x1 x2).bind fun r224460=>
  cond (decide (r224459.1<r224460.1))
   (rec x0 x1 x2 x4 (y0 .i64 (x4+1)))
   (rec x0 x1 x2 x3 (y0 .i64 (x4+1))))
  (some (x3,()))
def q0h(F:Nat):Nat→Int→LI→LI→Int→Int→Option (Int×Unit)
 |0,_,_,_,_,_=>none
 |k+1,x0,x1,x2,x3,x4=>q4l F (q0h F k) x0 x1 x2 x3 x4
def q1o(F:Nat)(a0:Int)(a1:LI)(a2:LI):Option (Int×Unit):=
 (q0h F F a0 a1 a2 0 1).bind fun r224464=>
 some (r224464.1,())
def q3i(F:Nat)(rec:Int→Bool→Bool→LI→LI→LI→LI→LI→LI→Int→LI→Int→LI→Int→Int→Option (Int×Unit))(x0:Int)(x1:Bool)(x2:Bool)(x3:LI)(x4:LI)(x5:LI)(x6:LI)(x7:LI)(x8:LI)(x9:Int)(x10:LI)(x11:Int)(x12:LI)(x13:Int)(x14:Int):Option (Int×Unit):=
 cond (decide (x14<16))
  ((q9v F x2 x14).bind fun r224534=>
  cond (r224534.1==x0)
   ((q6p F x7 x8 x9 x10 x11 x14).bind fun r224536=>
   (q1o F 4 r224536.1 x12).bind fun r224537=>
   cond ((decide (0≤r224537.1))&&(decide (r224537.1<4)))
    ((qjn F r224536.1 (y8 4 (y9 ((y6 r224537.1)*4) x12))).bind fun r224541=>
    rec x0 x1 x2 x3 x4 x5 x6 x7 x8 x9 x10 x11 x12 (y0 .i64 (x13+r224541.1)) (y0 .i64 (x14+1)))
     none)
   (rec x0 x1 x2 x3 x4 x5 x6 x7 x8 x9 x10 x11 x12 x13 (y0 .i64 (x14+1))))
  (some (x13,()))
def q1a(F:Nat):Nat→Int→Bool→Bool→LI→LI→LI→LI→LI→LI→Int→LI→Int→LI→Int→Int→Option (Int×Unit)
 |0,_,_,_,_,_,_,_,_,_,_,_,_,_,_,_=>none
 |k+1,x0,x1,x2,x3,x4,x5,x6,x7,x8,x9,x10,x11,x12,x13,x14=>q3i F (q1a F k) x0 x1 x2 x3 x4 x5 x6 x7 x8 x9 x10 x11 x12 x13 x14
def q2h(F:Nat)(a0:Int)(a1:LI)(a2:Int)(a3:Bool)(a4:Bool)(a5:Bool)(a6:LI)(a7:LI)(a8:LI)(a9:LI)(a10:LI)(a11:LI)(a12:Int)(a13:LI)(a14:Int):Option (Int×Unit):=
 cond ((decide (0≤a2))&&(decide (a2<2)))
  ((qbh F (y8 4 (y9 ((y6 a2)*4) a1)) a0 a3).bind fun r224505=>
  (q1a F F a2 a4 a5 a6 a7 a8 a9 a10 a11 a12 a13 a14 r224505.1 0 0).bind fun r224545=>
  some (r224545.1,()))
   none
def q5w(F:Nat)(rec:Int→LI→Int→Bool→Bool→Bool→LI→LI→LI→LI→LI→LI→Int→LI→Int→Int→Int→Option (Int×Unit))(x0:Int)(x1:LI)(x2:Int)(x3:Bool)(x4:Bool)(x5:Bool)(x6:LI)(x7:LI)(x8:LI)(x9:LI)(x10:LI)(x11:LI)(x12:Int)(x13:LI)(x14:Int)(x15:Int)(x16:Int):Option (Int×Unit):=
 cond (decide (x16<x0))
  ((q2h F x16 x1 x2 x3 x4 x5 x6 x7 x8 x9 x10 x11 x12 x13 x14).bind fun r224585=>
  (q2h F x15 x1 x2 x3 x4 x5 x6 x7 x8 x9 x10 x11 x12 x13 x14).bind fun r224586=>
  cond (decide (r224585.1<r224586.1))
   (rec x0 x1 x2 x3 x4 x5 x6 x7 x8 x9 x10 x11 x12 x13 x14 x16 (y0 .i64 (x16+1)))
   (rec x0 x1 x2 x3 x4 x5 x6 x7 x8 x9 x10 x11 x12 x13 x14 x15 (y0 .i64 (x16+1))))
  (some (x15,()))
def q0r(F:Nat):Nat→Int→LI→Int→Bool→Bool→Bool→LI→LI→LI→LI→LI→LI→Int→LI→Int→Int→Int→Option (Int×Unit)
 |0,_,_,_,_,_,_,_,_,_,_,_,_,_,_,_,_,_=>none
 |k+1,x0,x1,x2,x3,x4,x5,x6,x7,x8,x9,x10,x11,x12,x13,x14,x15,x16=>q5w F (q0r F k) x0 x1 x2 x3 x4 x5 x6 x7 x8 x9 x10 x11 x12 x13 x14 x15 x16
def q2a(F:Nat)(a0:Int)(a1:LI)(a2:Int)(a3:Bool)(a4:Bool)(a5:Bool)(a6:LI)(a7:LI)(a8:LI)(a9:LI)(a10:LI)(a11:LI)(a12:Int)(a13:LI)(a14:Int):Option (Int×Unit):=
 (q0r F F a0 a1 a2 a3 a4 a5 a6 a7 a8 a9 a10 a11 a12 a13 a14 0 1).bind fun r224590=>
 some (r224590.1,())
def q2i(F:Nat)(a0:Int)(a1:LI)(a2:LI):Option (Int×Unit):=
 cond ((decide (0≤a0))&&(decide (a0<4)))
  ((qjn F a1 (y8 4 (y9 ((y6 a0)*4) a2))).bind fun r224609=>
  some (r224609.1,()))
   none
def q5x(F:Nat)(rec:Int→LI→LI→Int→Int→Option (Int×Unit))(x0:Int)(x1:LI)(x2:LI)(x3:Int)(x4:Int):Option (Int×Unit):=
 cond (decide (x4<x0))
  ((q2i F x4 x1 x2).bind fun r224637=>
  (q2i F x3 x1 x2).bind fun r224638=>
  cond (decide (r224637.1<r224638.1))
   (rec x0 x1 x2 x4 (y0 .i64 (x4+1)))
   (rec x0 x1 x2 x3 (y0 .i64 (x4+1))))
  (some (x3,()))
def q0s(F:Nat):Nat→Int→LI→LI→Int→Int→Option (Int×Unit)
 |0,_,_,_,_,_=>none
 |k+1,x0,x1,x2,x3,x4=>q5x F (q0s F k) x0 x1 x2 x3 x4
def q2b(F:Nat)(a0:Int)(a1:LI)(a2:LI):Option (Int×Unit):=
 (q0s F F a0 a1 a2 0 1).bind fun r224642=>
 some (r224642.1,())
def q29(F:Nat)(a0:LI)(a1:LI)(a2:Int)(a3:LI)(a4:Int)(a5:LI):Option (Int×LI×LI×LI×Int×Unit):=
 let v225150:Int:=(((ya a0):Nat):Int)
 cond ((decide (0≤v225150))&&((decide (0≤v225150))&&((decide ((y6 v225150)≤(ya a0)))&&(decide ((y6 v225150)=(y6 v225150))))))
  (cond ((decide (((y6 v225150)+(ya a5))≤1099511627776))&&(decide (0<(ya a5))))
   ((q4f F a0 a1 a2 a3 a4 ((y8 (y6 v225150) a0)++a5)).bind fun r225156=>
   some (r225156.1,r225156.2.1,r225156.2.2.1,r225156.2.2.2.1,r225156.2.2.2.2.1,()))
    none)
   none
def q4s(F:Nat)(rec:LI→LI→Int→LI→Int→Bool→Bool→LI→LI→LI→LI→Bool→LI→Int→LI→Int→Int→Option (LI×LI×Int×LI×Int×Bool×Bool×LI×LI×LI×LI×Bool×LI×Int×Unit))(x0:LI)(x1:LI)(x2:Int)(x3:LI)(x4:Int)(x5:Bool)(x6:Bool)(x7:LI)(x8:LI)(x9:LI)(x10:LI)(x11:Bool)(x12:LI)(x13:Int)(x14:LI)(x15:Int)(x16:Int):Option (LI×LI×Int×LI×Int×Bool×Bool×LI×LI×LI×LI×Bool×LI×Int×Unit):=
 cond (decide (x16<16))
  ((q6p F x0 x1 x2 x3 x4 x16).bind fun r225275=>
  (q9v F x6 x16).bind fun r225276=>
  cond (r225276.1==x13)
   ((q2b F 4 r225275.1 x14).bind fun r225278=>
   cond ((decide (0≤x16))&&(decide (x16<16)))
    (rec x0 x1 x2 x3 x4 x5 x6 x7 x8 x9 (yy x10 (y6 x16) r225278.1) x11 x12 x13 x14 x15 (y0 .i64 (x16+1)))
     none)
   (rec x0 x1 x2 x3 x4 x5 x6 x7 x8 x9 x10 x11 x12 x13 x14 x15 (y0 .i64 (x16+1))))
  (some (x0,x1,x2,x3,x4,x5,x6,x7,x8,x9,x10,x11,x12,x15,()))
def q1f(F:Nat):Nat→LI→LI→Int→LI→Int→Bool→Bool→LI→LI→LI→LI→Bool→LI→Int→LI→Int→Int→Option (LI×LI×Int×LI×Int×Bool×Bool×LI×LI×LI×LI×Bool×LI×Int×Unit)
 |0,_,_,_,_,_,_,_,_,_,_,_,_,_,_,_,_,_=>none
 |k+1,x0,x1,x2,x3,x4,x5,x6,x7,x8,x9,x10,x11,x12,x13,x14,x15,x16=>q4s F (q1f F k) x0 x1 x2 x3 x4 x5 x6 x7 x8 x9 x10 x11 x12 x13 x14 x15 x16
def q4t(F:Nat)(rec:LI→LI→Int→LI→Int→Bool→Bool→LI→LI→LI→LI→Bool→LI→Int→Option (LI×LI×Int×LI×Int×Bool×Bool×LI×LI×LI×LI×Bool×Unit))(x0:LI)(x1:LI)(x2:Int)(x3:LI)(x4:Int)(x5:Bool)(x6:Bool)(x7:LI)(x8:LI)(x9:LI)(x10:LI)(x11:Bool)(x12:LI)(x13:Int):Option (LI×LI×Int×LI×Int×Bool×Bool×LI×LI×LI×LI×Bool×Unit):=
 cond (decide (x13<2))
  ((q2a F 8 x12 x13 x11 x5 x6 x7 x8 x9 x10 x0 x1 x2 x3 x4).bind fun r225252=>
  let b225253:Bool:=((decide (0≤x13))&&(decide (x13<2)))
  cond b225253
   (let l225255:LI:=(yy x9 (y6 x13) r225252.1)
   cond b225253
    (cond b225253
     ((qbh F (y8 4 (y9 ((y6 x13)*4) x12)) (y7 l225255 (y6 x13) 0) x11).bind fun r225259=>
     (q1f F F x0 x1 x2 x3 x4 x5 x6 x7 x8 l225255 x10 x11 x12 x13 r225259.1 x13 0).bind fun r225284=>
     rec r225284.1 r225284.2.1 r225284.2.2.1 r225284.2.2.2.1 r225284.2.2.2.2.1 r225284.2.2.2.2.2.1 r225284.2.2.2.2.2.2.1 r225284.2.2.2.2.2.2.2.1 r225284.2.2.2.2.2.2.2.2.1 r225284.2.2.2.2.2.2.2.2.2.1 r225284.2.2.2.2.2.2.2.2.2.2.1 r225284.2.2.2.2.2.2.2.2.2.2.2.1 r225284.2.2.2.2.2.2.2.2.2.2.2.2.1 (y0 .i64 (r225284.2.2.2.2.2.2.2.2.2.2.2.2.2.1+1)))
      none)
     none)
    none)
  (some (x0,x1,x2,x3,x4,x5,x6,x7,x8,x9,x10,x11,()))
def q1g(F:Nat):Nat→LI→LI→Int→LI→Int→Bool→Bool→LI→LI→LI→LI→Bool→LI→Int→Option (LI×LI×Int×LI×Int×Bool×Bool×LI×LI×LI×LI×Bool×Unit)
 |0,_,_,_,_,_,_,_,_,_,_,_,_,_,_=>none
 |k+1,x0,x1,x2,x3,x4,x5,x6,x7,x8,x9,x10,x11,x12,x13=>q4t F (q1g F k) x0 x1 x2 x3 x4 x5 x6 x7 x8 x9 x10 x11 x12 x13
def q09(F:Nat)(a0:LI)(a1:LI)(a2:Int)(a3:LI)(a4:Int)(a5:(Bool×Bool×LI×LI×LI×LI×Unit))(a6:Bool):Option (Int×LI×LI×LI×Int×Unit):=
 (q9u F (a5.1,a5.2.1,a5.2.2.1,a5.2.2.2.1,a5.2.2.2.2.1,a5.2.2.2.2.2.1,())).bind fun r225167=>
 cond (r225167.2.1 !=3)
  (some (a2,a3,a0,a1,a4,()))
  ((q1g F F a0 a1 a2 a3 a4 a5.1 a5.2.1 a5.2.2.1 a5.2.2.2.1 a5.2.2.2.2.1 a5.2.2.2.2.2.1 a6 r225167.1 0).bind fun r225288=>
  (qcf F (r225288.2.2.2.2.2.1,r225288.2.2.2.2.2.2.1,r225288.2.2.2.2.2.2.2.1,r225288.2.2.2.2.2.2.2.2.1,r225288.2.2.2.2.2.2.2.2.2.1,r225288.2.2.2.2.2.2.2.2.2.2.1,())).bind fun r225291=>
  cond (r225291.2.1 !=0)
   (some (r225288.2.2.1,r225288.2.2.2.1,r225288.1,r225288.2.1,r225288.2.2.2.2.1,()))
   (cond (!r225288.2.2.2.2.2.2.2.2.2.2.2.1)
    ((q2r F r225291.1 30 1 0).bind fun r225295=>
    (q29 F r225288.1 r225288.2.1 r225288.2.2.1 r225288.2.2.2.1 r225288.2.2.2.2.1 r225295.1).bind fun r225297=>
    some (r225297.1,r225297.2.1,r225297.2.2.1,r225297.2.2.2.1,r225297.2.2.2.2.1,()))
    ((q29 F r225288.1 r225288.2.1 r225288.2.2.1 r225288.2.2.2.1 r225288.2.2.2.2.1 r225291.1).bind fun r225300=>
    some (r225300.1,r225300.2.1,r225300.2.2.1,r225300.2.2.2.1,r225300.2.2.2.2.1,()))))
def q4g(F:Nat)(rec:LI→LI→Int→LI→Int→LI→LI→Bool→LI→LI→LI→LI→Bool→LI→LI→LI→LI→(Bool×Bool×Unit)→Int→Int→Option (LI×LI×Int×LI×Int×Bool×LI×LI×LI×LI×Bool×LI×LI×LI×LI×(Bool×Bool×Unit)×Int×Unit))(x0:LI)(x1:LI)(x2:Int)(x3:LI)(x4:Int)(x5:LI)(x6:LI)(x7:Bool)(x8:LI)(x9:LI)(x10:LI)(x11:LI)(x12:Bool)(x13:LI)(x14:LI)(x15:LI)(x16:LI)(x17:(Bool×Bool×Unit))(x18:Int)(x19:Int):Option (LI×LI×Int×LI×Int×Bool×LI×LI×LI×LI×Bool×LI×LI×LI×LI×(Bool×Bool×Unit)×Int×Unit):=
 cond (decide (x19<3))
  (let b225725:Bool:=((decide (0≤x19))&&(decide (x19<4)))
  cond b225725
   (let v225727:Int:=(y7 x5 (y6 x19) 0)
   (qal F v225727 5).bind fun r225728=>
   let b225729:Bool:=((decide (0≤x19))&&(decide (x19<3)))
   cond b225729
    (let l225730:LI:=(yy x8 (y6 x19) r225728.1)
    cond b225725
     (let v225731:Int:=(y7 x6 (y6 x19) 0)
     (qal F v225731 5).bind fun r225732=>
     cond b225729
      (cond b225729
       (cond b225725
        (cond b225725
         ((qal F v225727 4).bind fun r225738=>
         cond b225729
          ((qal F v225731 4).bind fun r225739=>
          cond b225729
           (rec x0 x1 x2 x3 x4 x5 x6 x7 l225730 (yy x9 (y6 x19) (max (-4) (min (y0 .i64 (r225732.1-(y7 l225730 (y6 x19) 0))) 3))) x10 x11 x12 (yy x13 (y6 x19) r225738.1) (yy x14 (y6 x19) r225739.1) x15 x16 (x17.1,x17.2.1,()) x18 (y0 .i64 (x19+1)))
            none)
           none)
          none)
         none)
        none)
       none)
      none)
     none)
    none)
  (some (x0,x1,x2,x3,x4,x7,x8,x9,x10,x11,x12,x13,x14,x15,x16,(x17.1,x17.2.1,()),x18,()))
def q0e(F:Nat):Nat→LI→LI→Int→LI→Int→LI→LI→Bool→LI→LI→LI→LI→Bool→LI→LI→LI→LI→(Bool×Bool×Unit)→Int→Int→Option (LI×LI×Int×LI×Int×Bool×LI×LI×LI×LI×Bool×LI×LI×LI×LI×(Bool×Bool×Unit)×Int×Unit)
 |0,_,_,_,_,_,_,_,_,_,_,_,_,_,_,_,_,_,_,_,_=>none
 |k+1,x0,x1,x2,x3,x4,x5,x6,x7,x8,x9,x10,x11,x12,x13,x14,x15,x16,x17,x18,x19=>q4g F (q0e F k) x0 x1 x2 x3 x4 x5 x6 x7 x8 x9 x10 x11 x12 x13 x14 x15 x16 x17 x18 x19
def q1q(F:Nat)(rec:LI→LI→Int→LI→Int→(Bool×Bool×Unit)→Int→Option (LI×LI×Int×LI×Int×Unit))(x0:LI)(x1:LI)(x2:Int)(x3:LI)(x4:Int)(x5:(Bool×Bool×Unit))(x6:Int):Option (LI×LI×Int×LI×Int×Unit):=
 cond (decide (x6<2))
  (cond (x6==0)
   ((q1n F x0 x1 x2 x3 x4 x5.1 0).bind fun r225699=>
   (q1n F x0 x1 x2 x3 x4 x5.1 1).bind fun r225700=>
   (q0e F F x0 x1 x2 x3 x4 r225699.1 r225700.1 x5.1 [0,0,0] [0,0,0] [0,0] q01 x5.1 [0,0,0] [0,0,0] [0,0] q01 (x5.1,x5.2.1,()) 0 0).bind fun r225743=>
   (q09 F r225743.1 r225743.2.1 r225743.2.2.1 r225743.2.2.2.1 r225743.2.2.2.2.1 (true,r225743.2.2.2.2.2.1,r225743.2.2.2.2.2.2.1,r225743.2.2.2.2.2.2.2.1,r225743.2.2.2.2.2.2.2.2.1,r225743.2.2.2.2.2.2.2.2.2.1,()) true).bind fun r225746=>
   cond (r225746.1==9)
    ((q09 F r225746.2.2.1 r225746.2.2.2.1 r225746.1 r225746.2.1 r225746.2.2.2.2.1 (true,r225743.2.2.2.2.2.1,r225743.2.2.2.2.2.2.1,r225743.2.2.2.2.2.2.2.1,r225743.2.2.2.2.2.2.2.2.1,r225743.2.2.2.2.2.2.2.2.2.1,()) false).bind fun r225750=>
    rec r225750.2.2.1 r225750.2.2.2.1 r225750.1 r225750.2.1 r225750.2.2.2.2.1 (r225743.2.2.2.2.2.2.2.2.2.2.2.2.2.2.2.1.1,r225743.2.2.2.2.2.2.2.2.2.2.2.2.2.2.2.1.2.1,()) (y0 .i64 (r225743.2.2.2.2.2.2.2.2.2.2.2.2.2.2.2.2.1+1)))
    ((q09 F r225746.2.2.1 r225746.2.2.2.1 r225746.1 r225746.2.1 r225746.2.2.2.2.1 (false,r225743.2.2.2.2.2.2.2.2.2.2.1,r225743.2.2.2.2.2.2.2.2.2.2.2.1,r225743.2.2.2.2.2.2.2.2.2.2.2.2.1,r225743.2.2.2.2.2.2.2.2.2.2.2.2.2.1,r225743.2.2.2.2.2.2.2.2.2.2.2.2.2.2.1,()) true).bind fun r225754=>
    rec r225754.2.2.1 r225754.2.2.2.1 r225754.1 r225754.2.1 r225754.2.2.2.2.1 (r225743.2.2.2.2.2.2.2.2.2.2.2.2.2.2.2.1.1,r225743.2.2.2.2.2.2.2.2.2.2.2.2.2.2.2.1.2.1,()) (y0 .i64 (r225743.2.2.2.2.2.2.2.2.2.2.2.2.2.2.2.2.1+1))))
   (cond (x6==1)
    ((q1n F x0 x1 x2 x3 x4 x5.2.1 0).bind fun r225759=>
    (q1n F x0 x1 x2 x3 x4 x5.2.1 1).bind fun r225760=>
    (q0e F F x0 x1 x2 x3 x4 r225759.1 r225760.1 x5.2.1 [0,0,0] [0,0,0] [0,0] q01 x5.2.1 [0,0,0] [0,0,0] [0,0] q01 (x5.1,x5.2.1,()) 1 0).bind fun r225782=>
    (q09 F r225782.1 r225782.2.1 r225782.2.2.1 r225782.2.2.2.1 r225782.2.2.2.2.1 (true,r225782.2.2.2.2.2.1,r225782.2.2.2.2.2.2.1,r225782.2.2.2.2.2.2.2.1,r225782.2.2.2.2.2.2.2.2.1,r225782.2.2.2.2.2.2.2.2.2.1,()) true).bind fun r225785=>
    cond (r225785.1==9)
     ((q09 F r225785.2.2.1 r225785.2.2.2.1 r225785.1 r225785.2.1 r225785.2.2.2.2.1 (true,r225782.2.2.2.2.2.1,r225782.2.2.2.2.2.2.1,r225782.2.2.2.2.2.2.2.1,r225782.2.2.2.2.2.2.2.2.1,r225782.2.2.2.2.2.2.2.2.2.1,()) false).bind fun r225789=>
     rec r225789.2.2.1 r225789.2.2.2.1 r225789.1 r225789.2.1 r225789.2.2.2.2.1 (r225782.2.2.2.2.2.2.2.2.2.2.2.2.2.2.2.1.1,r225782.2.2.2.2.2.2.2.2.2.2.2.2.2.2.2.1.2.1,()) (y0 .i64 (r225782.2.2.2.2.2.2.2.2.2.2.2.2.2.2.2.2.1+1)))
     ((q09 F r225785.2.2.1 r225785.2.2.2.1 r225785.1 r225785.2.1 r225785.2.2.2.2.1 (false,r225782.2.2.2.2.2.2.2.2.2.2.1,r225782.2.2.2.2.2.2.2.2.2.2.2.1,r225782.2.2.2.2.2.2.2.2.2.2.2.2.1,r225782.2.2.2.2.2.2.2.2.2.2.2.2.2.1,r225782.2.2.2.2.2.2.2.2.2.2.2.2.2.2.1,()) true).bind fun r225793=>
     rec r225793.2.2.1 r225793.2.2.2.1 r225793.1 r225793.2.1 r225793.2.2.2.2.1 (r225782.2.2.2.2.2.2.2.2.2.2.2.2.2.2.2.1.1,r225782.2.2.2.2.2.2.2.2.2.2.2.2.2.2.2.1.2.1,()) (y0 .i64 (r225782.2.2.2.2.2.2.2.2.2.2.2.2.2.2.2.2.1+1))))
     none))
  (some (x0,x1,x2,x3,x4,()))
def q08(F:Nat):Nat→LI→LI→Int→LI→Int→(Bool×Bool×Unit)→Int→Option (LI×LI×Int×LI×Int×Unit)
 |0,_,_,_,_,_,_,_=>none
 |k+1,x0,x1,x2,x3,x4,x5,x6=>q1q F (q08 F k) x0 x1 x2 x3 x4 x5 x6
def q1c(F:Nat)(a0:LI)(a1:LI)(a2:Int)(a3:LI)(a4:Int):Option (Int×LI×LI×LI×Int×Unit):=
 (q08 F F a0 a1 a2 a3 a4 (false,true,()) 0).bind fun r225797=>
 some (r225797.2.2.1,r225797.2.2.2.1,r225797.1,r225797.2.1,r225797.2.2.2.2.1,())
def q3j(F:Nat)(rec:Int→Int→Int→LI→Int→Option (Int×Unit))(x0:Int)(x1:Int)(x2:Int)(x3:LI)(x4:Int):Option (Int×Unit):=
 cond (decide (x4<16))
  (cond ((decide (0≤x4))&&(decide (x4<16)))
   (let b225928:Bool:=((decide (0≤x0))&&(decide (x0<4)))
   cond b225928
    (let v225931:Int:=(y0 .i64 ((y7 (y8 4 (y9 ((y6 x4)*4) x3)) (y6 x0) 0)-x1))
    cond b225928
     (rec x0 x1 (y0 .i64 (x2+(y0 .i64 (v225931*v225931)))) x3 (y0 .i64 (x4+1)))
      none)
     none)
    none)
  (some (x2,()))
def q1b(F:Nat):Nat→Int→Int→Int→LI→Int→Option (Int×Unit)
 |0,_,_,_,_,_=>none
 |k+1,x0,x1,x2,x3,x4=>q3j F (q1b F k) x0 x1 x2 x3 x4
def q2j(F:Nat)(a0:Int)(a1:Int)(a2:LI)(a3:LI)(a4:Int)(a5:LI)(a6:Int)(a7:Int):Option (Int×Unit):=
 (q10 F a0 5).bind fun r225905=>
 (q32 F (y0 .i64 (r225905.1+a1)) 255).bind fun r225907=>
 (q1b F F a7 r225907.1 0 a5 0).bind fun r225935=>
 some (r225935.1,())
def q5y(F:Nat)(rec:Int→Int→LI→LI→Int→LI→Int→Int→Int→Int→Option (Int×Unit))(x0:Int)(x1:Int)(x2:LI)(x3:LI)(x4:Int)(x5:LI)(x6:Int)(x7:Int)(x8:Int)(x9:Int):Option (Int×Unit):=
 cond (decide (x9<x0))
  ((q2j F x9 x1 x2 x3 x4 x5 x6 x7).bind fun r225975=>
  (q2j F x8 x1 x2 x3 x4 x5 x6 x7).bind fun r225976=>
  cond (decide (r225975.1<r225976.1))
   (rec x0 x1 x2 x3 x4 x5 x6 x7 x9 (y0 .i64 (x9+1)))
   (rec x0 x1 x2 x3 x4 x5 x6 x7 x8 (y0 .i64 (x9+1))))
  (some (x8,()))
def q0t(F:Nat):Nat→Int→Int→LI→LI→Int→LI→Int→Int→Int→Int→Option (Int×Unit)
 |0,_,_,_,_,_,_,_,_,_,_=>none
 |k+1,x0,x1,x2,x3,x4,x5,x6,x7,x8,x9=>q5y F (q0t F k) x0 x1 x2 x3 x4 x5 x6 x7 x8 x9
def q2c(F:Nat)(a0:Int)(a1:Int)(a2:LI)(a3:LI)(a4:Int)(a5:LI)(a6:Int)(a7:Int):Option (Int×Unit):=
 (q0t F F a0 a1 a2 a3 a4 a5 a6 a7 0 1).bind fun r225980=>
 some (r225980.1,())
def q4u(F:Nat)(rec:LI→LI→Int→LI→Int→Int→Int→Int→LI→LI→LI→LI→Int→LI→Int→Int→Option (LI×LI×Int×LI×Int×Int×Int×LI×LI×LI×LI×Int×LI×Int×Unit))(x0:LI)(x1:LI)(x2:Int)(x3:LI)(x4:Int)(x5:Int)(x6:Int)(x7:Int)(x8:LI)(x9:LI)(x10:LI)(x11:LI)(x12:Int)(x13:LI)(x14:Int)(x15:Int):Option (LI×LI×Int×LI×Int×Int×Int×LI×LI×LI×LI×Int×LI×Int×Unit):=
 cond (decide (x15<16))
  (cond ((decide (0≤x15))&&(decide (x15<16)))
   (rec x0 x1 x2 x3 x4 x5 x6 x7 x8 x9 x10 (yy x11 (y6 x15) x6) x12 x13 x14 (y0 .i64 (x15+1)))
    none)
  (some (x0,x1,x2,x3,x4,x5,x7,x8,x9,x10,x11,x12,x13,x14,()))
def q1h(F:Nat):Nat→LI→LI→Int→LI→Int→Int→Int→Int→LI→LI→LI→LI→Int→LI→Int→Int→Option (LI×LI×Int×LI×Int×Int×Int×LI×LI×LI×LI×Int×LI×Int×Unit)
 |0,_,_,_,_,_,_,_,_,_,_,_,_,_,_,_,_=>none
 |k+1,x0,x1,x2,x3,x4,x5,x6,x7,x8,x9,x10,x11,x12,x13,x14,x15=>q4u F (q1h F k) x0 x1 x2 x3 x4 x5 x6 x7 x8 x9 x10 x11 x12 x13 x14 x15
def q4v(F:Nat)(rec:LI→LI→Int→LI→Int→Int→Int→LI→LI→LI→LI→Int→LI→Int→Int→Option (LI×LI×Int×LI×Int×Int×LI×LI×LI×LI×Int×LI×Int×Unit))(x0:LI)(x1:LI)(x2:Int)(x3:LI)(x4:Int)(x5:Int)(x6:Int)(x7:LI)(x8:LI)(x9:LI)(x10:LI)(x11:Int)(x12:LI)(x13:Int)(x14:Int):Option (LI×LI×Int×LI×Int×Int×LI×LI×LI×LI×Int×LI×Int×Unit):=
 cond (decide (x14<3))
  ((q2c F 32 x6 x0 x1 x2 x3 x4 x14).bind fun r226718=>
  cond ((decide (0≤x14))&&(decide (x14<3)))
   (rec x0 x1 x2 x3 x4 x5 x6 (yy x7 (y6 x14) r226718.1) x8 x9 x10 x11 x12 x13 (y0 .i64 (x14+1)))
    none)
  (some (x0,x1,x2,x3,x4,x5,x7,x8,x9,x10,x11,x12,x13,()))
def q1i(F:Nat):Nat→LI→LI→Int→LI→Int→Int→Int→LI→LI→LI→LI→Int→LI→Int→Int→Option (LI×LI×Int×LI×Int×Int×LI×LI×LI×LI×Int×LI×Int×Unit)
 |0,_,_,_,_,_,_,_,_,_,_,_,_,_,_,_=>none
 |k+1,x0,x1,x2,x3,x4,x5,x6,x7,x8,x9,x10,x11,x12,x13,x14=>q4v F (q1i F k) x0 x1 x2 x3 x4 x5 x6 x7 x8 x9 x10 x11 x12 x13 x14
def q4w(F:Nat)(rec:LI→LI→Int→LI→Int→Int→Int→LI→Int→Option (LI×LI×Int×LI×Int×Int×Unit))(x0:LI)(x1:LI)(x2:Int)(x3:LI)(x4:Int)(x5:Int)(x6:Int)(x7:LI)(x8:Int):Option (LI×LI×Int×LI×Int×Int×Unit):=
 cond (decide (x8<4))
  (cond ((decide (0≤x8))&&(decide (x8<4)))
   ((q1h F F x0 x1 x2 x3 x4 x5 x8 (y7 x7 (y6 x8) 0) [0,0,0] [0,0,0] [x5,x5] q01 x6 x7 x8 0).bind fun r226704=>
   (q1i F F r226704.1 r226704.2.1 r226704.2.2.1 r226704.2.2.2.1 r226704.2.2.2.2.1 r226704.2.2.2.2.2.1 r226704.2.2.2.2.2.2.1 r226704.2.2.2.2.2.2.2.1 r226704.2.2.2.2.2.2.2.2.1 r226704.2.2.2.2.2.2.2.2.2.1 r226704.2.2.2.2.2.2.2.2.2.2.1 r226704.2.2.2.2.2.2.2.2.2.2.2.1 r226704.2.2.2.2.2.2.2.2.2.2.2.2.1 r226704.2.2.2.2.2.2.2.2.2.2.2.2.2.1 0).bind fun r226723=>
   (qcf F (true,false,r226723.2.2.2.2.2.2.1,r226723.2.2.2.2.2.2.2.1,r226723.2.2.2.2.2.2.2.2.1,r226723.2.2.2.2.2.2.2.2.2.1,())).bind fun r226726=>
   (q29 F r226723.1 r226723.2.1 r226723.2.2.1 r226723.2.2.2.1 r226723.2.2.2.2.1 r226726.1).bind fun r226728=>
   rec r226728.2.2.1 r226728.2.2.2.1 r226728.1 r226728.2.1 r226728.2.2.2.2.1 r226723.2.2.2.2.2.1 r226723.2.2.2.2.2.2.2.2.2.2.1 r226723.2.2.2.2.2.2.2.2.2.2.2.1 (y0 .i64 (r226723.2.2.2.2.2.2.2.2.2.2.2.2.1+1)))
    none)
  (some (x0,x1,x2,x3,x4,x6,()))
def q1j(F:Nat):Nat→LI→LI→Int→LI→Int→Int→Int→LI→Int→Option (LI×LI×Int×LI×Int×Int×Unit)
 |0,_,_,_,_,_,_,_,_,_=>none
 |k+1,x0,x1,x2,x3,x4,x5,x6,x7,x8=>q4w F (q1j F k) x0 x1 x2 x3 x4 x5 x6 x7 x8
def q4x(F:Nat)(rec:LI→LI→Int→LI→Int→Int→Option (LI×LI×Int×LI×Int×Unit))(x0:LI)(x1:LI)(x2:Int)(x3:LI)(x4:Int)(x5:Int):Option (LI×LI×Int×LI×Int×Unit):=
 cond (decide (x5<8))
  ((qcp F x5).bind fun r226637=>
  (q1j F F x0 x1 x2 x3 x4 x5 x5 r226637.1 0).bind fun r226732=>
  rec r226732.1 r226732.2.1 r226732.2.2.1 r226732.2.2.2.1 r226732.2.2.2.2.1 (y0 .i64 (r226732.2.2.2.2.2.1+1)))
  (some (x0,x1,x2,x3,x4,()))
def q2k(F:Nat):Nat→LI→LI→Int→LI→Int→Int→Option (LI×LI×Int×LI×Int×Unit)
 |0,_,_,_,_,_,_=>none
 |k+1,x0,x1,x2,x3,x4,x5=>q4x F (q2k F k) x0 x1 x2 x3 x4 x5
def q3m(F:Nat)(a0:LI)(a1:LI)(a2:Int)(a3:LI)(a4:Int):Option (Int×LI×LI×LI×Int×Unit):=
 (q2k F F a0 a1 a2 a3 a4 0).bind fun r226736=>
 some (r226736.2.2.1,r226736.2.2.2.1,r226736.1,r226736.2.1,r226736.2.2.2.2.1,())
def q5l:LI:=[0,0,0,0,0,0,0,0,0]
def q4h(F:Nat)(rec:LI→LI→Int→LI→Int→LI→Int→Int→Int→LI→Int→LI→Int→Option (LI×LI×Int×LI×Int×LI×LI×Int×Unit))(x0:LI)(x1:LI)(x2:Int)(x3:LI)(x4:Int)(x5:LI)(x6:Int)(x7:Int)(x8:Int)(x9:LI)(x10:Int)(x11:LI)(x12:Int):Option (LI×LI×Int×LI×Int×LI×LI×Int×Unit):=
 cond (decide (x12<3))
  (let b227250:Bool:=((decide (0≤x12))&&(decide (x12<3)))
  cond b227250
   (let v227251:Int:=(y7 x11 (y6 x12) 0)
   cond ((decide (0≤v227251))&&(decide (v227251<16)))
    (cond ((decide (0≤x6))&&(decide (x6<4)))
     ((q32 F (y0 .i64 (x8+(y0 .i64 (yx (y0 .i64 ((y0 .i64 ((y7 x3 (((y6 v227251)*4)+(y6 x6)) 0)-x8))*4)) 3)))) 255).bind fun r227261=>
     (qal F r227261.1 x7).bind fun r227262=>
     cond b227250
      (cond ((decide (0≤x6))&&(decide (x6<3)))
       (rec x0 x1 x2 x3 x4 (yy x5 (((y6 x12)*3)+(y6 x6)) r227262.1) x6 x7 x8 x9 x10 x11 (y0 .i64 (x12+1)))
        none)
       none)
      none)
     none)
    none)
  (some (x0,x1,x2,x3,x4,x5,x9,x10,()))
def q11(F:Nat):Nat→LI→LI→Int→LI→Int→LI→Int→Int→Int→LI→Int→LI→Int→Option (LI×LI×Int×LI×Int×LI×LI×Int×Unit)
 |0,_,_,_,_,_,_,_,_,_,_,_,_,_=>none
 |k+1,x0,x1,x2,x3,x4,x5,x6,x7,x8,x9,x10,x11,x12=>q4h F (q11 F k) x0 x1 x2 x3 x4 x5 x6 x7 x8 x9 x10 x11 x12
def q4i(F:Nat)(rec:LI→LI→Int→LI→Int→LI→LI→Int→Option (LI×LI×Int×LI×Int×LI×Unit))(x0:LI)(x1:LI)(x2:Int)(x3:LI)(x4:Int)(x5:LI)(x6:LI)(x7:Int):Option (LI×LI×Int×LI×Int×LI×Unit):=
 cond (decide (x7<3))
  (cond ((decide (0≤x7))&&(decide (x7<3)))
   (cond ((decide (0≤x7))&&(decide (x7<4)))
    ((q11 F F x0 x1 x2 x3 x4 x5 x7 (y7 x6 (y6 x7) 0) (y7 x3 (y6 x7) 0) x6 x7 [0,3,12] 0).bind fun r227268=>
    rec r227268.1 r227268.2.1 r227268.2.2.1 r227268.2.2.2.1 r227268.2.2.2.2.1 r227268.2.2.2.2.2.1 r227268.2.2.2.2.2.2.1 (y0 .i64 (r227268.2.2.2.2.2.2.2.1+1)))
     none)
    none)
  (some (x0,x1,x2,x3,x4,x5,()))
def q25(F:Nat):Nat→LI→LI→Int→LI→Int→LI→LI→Int→Option (LI×LI×Int×LI×Int×LI×Unit)
 |0,_,_,_,_,_,_,_,_=>none
 |k+1,x0,x1,x2,x3,x4,x5,x6,x7=>q4i F (q25 F k) x0 x1 x2 x3 x4 x5 x6 x7
def q3b(F:Nat)(a0:LI)(a1:LI)(a2:Int)(a3:LI)(a4:Int):Option (Int×LI×LI×LI×Int×Unit):=
 cond (a2==7)
  (some (a2,a3,a0,a1,a4,()))
  ((q25 F F a0 a1 a2 a3 a4 q5l [6,7,6] 0).bind fun r227272=>
  (qjj F (y8 3 r227272.2.2.2.2.2.1) (y8 3 (y9 3 r227272.2.2.2.2.2.1)) (y8 3 (y9 6 r227272.2.2.2.2.2.1))).bind fun r227278=>
  (q29 F r227272.1 r227272.2.1 r227272.2.2.1 r227272.2.2.2.1 r227272.2.2.2.2.1 r227278.1).bind fun r227280=>
  some (r227280.1,r227280.2.1,r227280.2.2.1,r227280.2.2.2.1,r227280.2.2.2.2.1,()))
def q0m(F:Nat)(rec:Int→Int→LI→LI→LI→Int→LI→Int→LI→Int→Option (LI×LI×Int×LI×Int×Unit))(x0:Int)(x1:Int)(x2:LI)(x3:LI)(x4:LI)(x5:Int)(x6:LI)(x7:Int)(x8:LI)(x9:Int):Option (LI×LI×Int×LI×Int×Unit):=
 cond (decide (x9≤x1))
  (let b227459:Bool:=(x0==11)
  cond b227459
   ((qa6 F x8 0 true x9).bind fun r227460=>
   (q4f F x3 x4 x5 x6 x7 r227460.1).bind fun r227462=>
   rec x0 x1 x2 r227462.2.2.1 r227462.2.2.2.1 r227462.1 r227462.2.1 r227462.2.2.2.2.1 x8 (y0 .i64 (x9+1)))
   (let b227466:Bool:=(x0==12)
   cond b227466
    ((qa6 F x8 0 true x9).bind fun r227467=>
    let n227468:Nat:=(ya r227467.1)
    (qa6 F x8 1 true x9).bind fun r227469=>
    let n227470:Nat:=(ya r227469.1)
    cond ((decide ((n227468+n227470)≤1099511627776))&&true)
     ((q4f F x3 x4 x5 x6 x7 (r227467.1++r227469.1)).bind fun r227474=>
     rec x0 x1 x2 r227474.2.2.1 r227474.2.2.2.1 r227474.1 r227474.2.1 r227474.2.2.2.2.1 x8 (y0 .i64 (x9+1)))
      none)
    (cond (x0==10)
     ((qa6 F x2 3 false x9).bind fun r227479=>
     cond (x9==2)
      ((q1c F r227479.1 x4 x5 x6 x7).bind fun r227482=>
      (q3m F r227482.2.2.1 r227482.2.2.2.1 r227482.1 r227482.2.1 r227482.2.2.2.2.1).bind fun r227485=>
      (q3b F r227485.2.2.1 r227485.2.2.2.1 r227485.1 r227485.2.1 r227485.2.2.2.2.1).bind fun r227488=>
      rec x0 x1 x2 r227488.2.2.1 r227488.2.2.2.1 r227488.1 r227488.2.1 r227488.2.2.2.2.1 x8 (y0 .i64 (x9+1)))
      ((q1c F r227479.1 x4 x5 x6 x7).bind fun r227492=>
      rec x0 x1 x2 r227492.2.2.1 r227492.2.2.2.1 r227492.1 r227492.2.1 r227492.2.2.2.2.1 x8 (y0 .i64 (x9+1))))
     (cond (x9==2)
      ((q1c F x3 x4 x5 x6 x7).bind fun r227497=>
      (q3m F r227497.2.2.1 r227497.2.2.2.1 r227497.1 r227497.2.1 r227497.2.2.2.2.1).bind fun r227500=>
      (q3b F r227500.2.2.1 r227500.2.2.2.1 r227500.1 r227500.2.1 r227500.2.2.2.2.1).bind fun r227503=>
      rec x0 x1 x2 r227503.2.2.1 r227503.2.2.2.1 r227503.1 r227503.2.1 r227503.2.2.2.2.1 x8 (y0 .i64 (x9+1)))
      ((q1c F x3 x4 x5 x6 x7).bind fun r227507=>
      rec x0 x1 x2 r227507.2.2.1 r227507.2.2.2.1 r227507.1 r227507.2.1 r227507.2.2.2.2.1 x8 (y0 .i64 (x9+1)))))))
  (some (x3,x4,x5,x6,x7,()))
def q12(F:Nat):Nat→Int→Int→LI→LI→LI→Int→LI→Int→LI→Int→Option (LI×LI×Int×LI×Int×Unit)
 |0,_,_,_,_,_,_,_,_,_,_=>none
 |k+1,x0,x1,x2,x3,x4,x5,x6,x7,x8,x9=>q0m F (q12 F k) x0 x1 x2 x3 x4 x5 x6 x7 x8 x9
def q0l(F:Nat)(a0:Int)(a1:LI)(a2:Int):Option (LI×Int×Int×Unit):=
 cond (decide (a0<7))
  (some ([],0,5,()))
  (cond (decide (12<a0))
   (some ([],0,5,()))
   ((qnu F a0 a1).bind fun r227366=>
   cond (r227366.2.1 !=0)
    (some ([],0,1,()))
    (cond (decide (a2<0))
     (some ([],0,1,()))
     (cond (decide (2<a2))
      (some ([],0,1,()))
      ((qa5 F a0 r227366.1 a1).bind fun r227371=>
      (qcr F a0 a1).bind fun r227372=>
      (q12 F F a0 a2 a1 [] r227366.1 a0 a1 r227371.1 r227372.1 1).bind fun r227511=>
      some (r227511.2.1,r227511.2.2.2.2.1,0,()))))))
def qk5(F:Nat):Option (Bool×Unit):=
 (qjm F [10,20,5] 3 2).bind fun r223017=>
 (q0l F 7 r223017.1 2).bind fun r227514=>
 (q0l F 7 r223017.1 0).bind fun r227516=>
 (q0l F 1 r223017.1 1).bind fun r227518=>
 cond ((((ya r227514.1):Nat):Int)==8)
  (cond (r227514.2.1==0)
   (cond (r227514.2.2.1==0)
    (cond (decide (0<r227516.2.1))
     (cond (r227516.2.2.1==0)
      (some ((r227518.2.2.1==5),()))
      (some (false,())))
     (some (false,())))
    (some (false,())))
   (some (false,())))
  (some (false,()))
def qgz(F:Nat)(a0:Int)(a1:LI)(a2:Int)(a3:Int)(a4:Int):Option (Int×Unit):=
 cond (decide (a0<a3))
  (some (5,()))
  (cond (decide (a4<a0))
   (some (5,()))
   ((q55 F a1).bind fun r227532=>
   cond (!r227532.1)
    (some (1,()))
    (cond (decide (a2<0))
     (some (1,()))
     (cond (decide (2<a2))
      (some (1,()))
      (some (0,()))))))
def qhn(F:Nat)(a0:Int)(a1:LI):Option (Bool×Unit):=
 (qk5 F).bind fun r227549=>
 (qgz F a0 a1 0 7 12).bind fun r227550=>
 cond (r227550.1 !=0)
  (some (r227549.1,()))
  ((q0l F a0 a1 0).bind fun r227552=>
  (q0l F a0 a1 1).bind fun r227554=>
  (q0l F a0 a1 2).bind fun r227556=>
  (q6x F a0 a1).bind fun r227558=>
  (qwf F r227552.1 r227558.1).bind fun r227560=>
  cond r227549.1
   (cond (r227552.2.2.1==0)
    (cond (r227554.2.2.1==0)
     (cond (r227556.2.2.1==0)
      (cond r227560.1
       (cond (decide (r227554.2.1≤r227552.2.1))
        (some ((decide (r227556.2.1≤r227554.2.1)),()))
        (some (false,())))
       (some (false,())))
      (some (false,())))
     (some (false,())))
    (some (false,())))
   (some (false,())))
end Go.AE.Gn

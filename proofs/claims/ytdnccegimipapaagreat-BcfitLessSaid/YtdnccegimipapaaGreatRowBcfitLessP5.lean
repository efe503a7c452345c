/- A part of the proof, put together of my texts: C11defs, A12defs, E13defs, E13zdefs, E14defs, F16defs, Y15defs. -/
import Derived.Test.YtdnccegimipapaaGreatRowBcfitLessP4
set_option linter.unusedSimpArgs false
set_option linter.unusedVariables false
open Go.IntKind renaming wrap → y0
open List renaming length → ya, getD → y7, take → y8, drop → y9, set → yw
open Int renaming toNat → y6, tmod → yu, tdiv → yv
namespace Go.AE.Gn
open Go Go.AE
def z5e:LI:=[0,0,0,0,0,0,0,0]
section
variable (F:Nat)
def q64(a0:Int)(a1:Int)(a2:Int)(a3:LI):Option (LI×Unit):=
 (q9e F a3 a1 (y0 .i64 ((y0 .i64 (a2-a1))+1)) (y0 .u64 a0)).bind fun r187=>
 some (r187.1,())
def qgd:LI:=[7,9,10,11,12,13,14]
def qpi(rec:Int→LI→LI→Int→Int→Option (LI×Unit))(x0:Int)(x1:LI)(x2:LI)(x3:Int)(x4:Int):Option (LI×Unit):=
 cond (decide (x4<x3))
  (cond ((decide (0≤x4))&&(decide (x4<(((ya x1):Nat):Int))))
   (let v302:Int:=(y0 .i64 ((y0 .i64 ((((ya x1):Nat):Int)-1))-x4))
   cond (decide (0≤v302))
    ((q9e F x2 (y7 x1 (y6 x4) 0) 1 (y0 .u64 (iand .i64 (ishr .i64 x0 v302) 1))).bind fun r307=>
    rec x0 x1 r307.1 x3 (y0 .i64 (x4+1)))
     none)
    none)
  (some (x2,()))
def qc4(F:Nat):Nat→Int→LI→LI→Int→Int→Option (LI×Unit)
 |0,_,_,_,_,_=>none
 |k+1,x0,x1,x2,x3,x4=>qpi F (qc4 F k) x0 x1 x2 x3 x4
def q65(a0:Int)(a1:LI)(a2:LI):Option (LI×Unit):=
 (qc4 F F a0 a1 a2 (((ya a1):Nat):Int) 0).bind fun r310=>
 some (r310.1,())
def qge:LI:=[15,19,20,22,23,24]
def qgf:LI:=[25,26,27,28,29,31]
def qob:LI:=[0,0,0,0,0,0,0,0,0,0,0,0,0,0,0,0]
def q07(a0:LI)(a1:Bool)(a2:Bool)(a3:LI)(a4:LI)(a5:LI)(a6:LI)(a7:Bool)(a8:Int)(a9:Int):Option (Int×Unit):=
 (qwr F a0 a8 (y0 .i64 ((y0 .i64 (a9-a8))+1))).bind fun r577=>
 some ((y0 .i64 r577.1),())
def z1m(F:Nat)(rec:LI→LI→LI→LI→Int→Option (Unit⊕(LI×LI×LI×Unit)))(x0:LI)(x1:LI)(x2:LI)(x3:LI)(x4:Int):Option (Unit⊕(LI×LI×LI×Unit)):=
 cond (decide (x4<3))
  (cond ((decide (0≤x4))&&(decide (x4<3)))
   (let l611:LI:=(y8 3 (y9 ((y6 x4)*3) x3))
   cond ((zzs .i64 (ior .i64 (y7 l611 0 0) (y7 l611 2 0)) 63) !=0)
    (some (.inl ()))
    (cond ((zzs .i64 (y7 l611 1 0) 127) !=0)
     (some (.inl ()))
     (rec x0 x1 x2 x3 (y0 .i64 (x4+1)))))
    none)
  (some (.inr (x0,x1,x2,())))
def qjj(F:Nat):Nat→LI→LI→LI→LI→Int→Option (Unit⊕(LI×LI×LI×Unit))
 |0,_,_,_,_,_=>none
 |k+1,x0,x1,x2,x3,x4=>z1m F (qjj F k) x0 x1 x2 x3 x4
def z1n(rec:LI→Bool→Bool→LI→LI→LI→LI→Int→Option (LI×Unit))(x0:LI)(x1:Bool)(x2:Bool)(x3:LI)(x4:LI)(x5:LI)(x6:LI)(x7:Int):Option (LI×Unit):=
 cond (decide (x7<2))
  (let b682:Bool:=((decide (0≤x7))&&(decide (x7<3)))
  cond b682
   (cond b682
    (let v686:Int:=(y0 .i64 ((y7 x3 (y6 x7) 0)+(y7 x4 (y6 x7) 0)))
    cond (decide (v686<0))
     ((q65 F 1 [(y0 .i64 (8*x7))] x0).bind fun r689=>
     rec r689.1 x1 x2 x3 x4 x5 x6 (y0 .i64 (x7+1)))
     (cond (decide (31<v686))
      ((q65 F 1 [(y0 .i64 (8*x7))] x0).bind fun r694=>
      rec r694.1 x1 x2 x3 x4 x5 x6 (y0 .i64 (x7+1)))
      (rec x0 x1 x2 x3 x4 x5 x6 (y0 .i64 (x7+1)))))
     none)
    none)
  (some (x0,()))
def qjk(F:Nat):Nat→LI→Bool→Bool→LI→LI→LI→LI→Int→Option (LI×Unit)
 |0,_,_,_,_,_,_,_,_=>none
 |k+1,x0,x1,x2,x3,x4,x5,x6,x7=>z1n F (qjk F k) x0 x1 x2 x3 x4 x5 x6 x7
def ztb(a0:LI)(a1:LI)(a2:LI):Option (LI×Int×Unit):=
 (qjj F F a0 a1 a2 (a0++(a1++a2)) 0).bind fun r621=>match r621 with
  | .inl r621=>(some ([],1,()))
  | .inr r621=>((q64 F (y7 r621.1 0 0) 1 6 z5e).bind fun r623=>
   (q65 F (y7 r621.1 1 0) qgd r623.1).bind fun r626=>
   (q65 F (y7 r621.1 2 0) qge r626.1).bind fun r629=>
   (q65 F (y7 r621.2.1 0 0) qgf r629.1).bind fun r632=>
   (q64 F (y7 r621.2.1 1 0) 32 38 r632.1).bind fun r635=>
   (q64 F (y7 r621.2.1 2 0) 39 44 r635.1).bind fun r638=>
   (q64 F (y7 r621.2.2.1 0 0) 45 50 r638.1).bind fun r641=>
   (q64 F (y7 r621.2.2.1 1 0) 51 57 r641.1).bind fun r644=>
   (q64 F (y7 r621.2.2.1 2 0) 58 63 r644.1).bind fun r647=>
   (q65 F 1 [30] r647.1).bind fun r649=>
   (q9j F r649.1).bind fun r651=>
   (qjk F F r649.1 r651.1.1 r651.1.2.1 r651.1.2.2.1 r651.1.2.2.2.1 r651.1.2.2.2.2.1 r651.1.2.2.2.2.2.1 0).bind fun r698=>
   (q07 F r698.1 false false [0,0,0] [0,0,0] [0,0] qob false 19 20).bind fun r700=>
   (q07 F r698.1 false false [0,0,0] [0,0,0] [0,0] qob false 22 23).bind fun r701=>
   let v702:Int:=(y0 .i64 (r700.1+r701.1))
   cond (decide (4≤v702))
    ((q64 F 7 16 18 r698.1).bind fun r704=>
    some (r704.1,0,()))
    ((q65 F 1 [21] r698.1).bind fun r706=>
    some (r706.1,0,())))
def q0i:LI:=[0,0,0,0,0,0,0,0,0,0,0,0,0,0,0,0,0,0,0,0,0,0,0,0,0,0,0,0,0,0,0,0,0,0,0,0,0,0,0,0,0,0,0,0,0,0,0,0,0,0,0,0,0,0,0,0,0,0,0,0,0,0,0,0]
def qis(rec:LI→Bool→Bool→LI→LI→LI→LI→Bool→Int→LI→Int→Int→Option (Int×Unit))(x0:LI)(x1:Bool)(x2:Bool)(x3:LI)(x4:LI)(x5:LI)(x6:LI)(x7:Bool)(x8:Int)(x9:LI)(x10:Int)(x11:Int):Option (Int×Unit):=
 cond (decide (x11<x10))
  (cond ((decide (0≤x11))&&(decide (x11<(((ya x9):Nat):Int))))
   ((qwr F x0 (y7 x9 (y6 x11) 0) 1).bind fun r782=>
   rec x0 x1 x2 x3 x4 x5 x6 x7 (ior .i64 (ishl .i64 x8 1) (y0 .i64 r782.1)) x9 x10 (y0 .i64 (x11+1)))
    none)
  (some (x8,()))
def q7m(F:Nat):Nat→LI→Bool→Bool→LI→LI→LI→LI→Bool→Int→LI→Int→Int→Option (Int×Unit)
 |0,_,_,_,_,_,_,_,_,_,_,_,_=>none
 |k+1,x0,x1,x2,x3,x4,x5,x6,x7,x8,x9,x10,x11=>qis F (q7m F k) x0 x1 x2 x3 x4 x5 x6 x7 x8 x9 x10 x11
def q1d(a0:LI)(a1:Bool)(a2:Bool)(a3:LI)(a4:LI)(a5:LI)(a6:LI)(a7:Bool)(a8:LI):Option (Int×Unit):=
 (q7m F F a0 a1 a2 a3 a4 a5 a6 a7 0 a8 (((ya a8):Nat):Int) 0).bind fun r787=>
 some (r787.1,())
def zij(a0:LI)(a1:Bool):Option (LI×Bool×Bool×LI×LI×LI×LI×Bool×Unit):=
 cond (!a1)
  (cond a1
   ((q9e F a0 30 1 1).bind fun r796=>
   (q9j F r796.1).bind fun r798=>
   some (a0,r798.1.1,r798.1.2.1,r798.1.2.2.1,r798.1.2.2.2.1,r798.1.2.2.2.2.1,r798.1.2.2.2.2.2.1,true,()))
   ((q9j F a0).bind fun r799=>
   some (a0,r799.1.1,r799.1.2.1,r799.1.2.2.1,r799.1.2.2.2.1,r799.1.2.2.2.2.1,r799.1.2.2.2.2.2.1,true,())))
  ((q1d F a0 false false [0,0,0] [0,0,0] [0,0] qob false [30]).bind fun r800=>
  let b801:Bool:=(r800.1==1)
  cond a1
   ((q9e F a0 30 1 1).bind fun r802=>
   (q9j F r802.1).bind fun r804=>
   some (a0,r804.1.1,r804.1.2.1,r804.1.2.2.1,r804.1.2.2.2.1,r804.1.2.2.2.2.1,r804.1.2.2.2.2.2.1,b801,()))
   ((q9j F a0).bind fun r805=>
   some (a0,r805.1.1,r805.1.2.1,r805.1.2.2.1,r805.1.2.2.2.1,r805.1.2.2.2.2.1,r805.1.2.2.2.2.2.1,b801,())))
def qpj(a0:LI)(a1:Bool)(a2:Bool)(a3:LI)(a4:LI)(a5:LI)(a6:LI)(a7:Bool):Option (Int×Unit):=
 (qmm F (a1,a2,a3,a4,a5,a6,())).bind fun r946=>
 cond (r946.2.1==3)
  (some (0,()))
  (some ((y0 .i64 (1+r946.2.1)),()))
def qdr(rec:LI→Bool→Bool→LI→LI→LI→LI→Bool→LI→LI→LI→LI→Int→Option (LI×LI×Unit))(x0:LI)(x1:Bool)(x2:Bool)(x3:LI)(x4:LI)(x5:LI)(x6:LI)(x7:Bool)(x8:LI)(x9:LI)(x10:LI)(x11:LI)(x12:Int):Option (LI×LI×Unit):=
 cond (decide (x12<16))
  (let b1178:Bool:=((decide (0≤x12))&&(decide (x12<16)))
  cond b1178
   (cond (!x7)
    (cond ((y7 x11 (y6 x12) 0)==0)
     ((z3r F x2 x12).bind fun r1182=>
     cond ((decide (0≤r1182.1))&&(decide (r1182.1<2)))
      (cond b1178
       (let n1186:Nat:=((y6 x12)*4)
       rec x0 x1 x2 x3 x4 x5 x6 x7 x8 (((y8 n1186 x9)++(y8 4 (y9 ((y6 r1182.1)*4) x10)))++(y9 (n1186+4) x9)) x10 x11 (y0 .i64 (x12+1)))
        none)
       none)
     (rec x0 x1 x2 x3 x4 x5 x6 x7 x8 x9 x10 x11 (y0 .i64 (x12+1))))
    (rec x0 x1 x2 x3 x4 x5 x6 x7 x8 x9 x10 x11 (y0 .i64 (x12+1))))
    none)
  (some (x8,x9,()))
def q5j(F:Nat):Nat→LI→Bool→Bool→LI→LI→LI→LI→Bool→LI→LI→LI→LI→Int→Option (LI×LI×Unit)
 |0,_,_,_,_,_,_,_,_,_,_,_,_,_=>none
 |k+1,x0,x1,x2,x3,x4,x5,x6,x7,x8,x9,x10,x11,x12=>qdr F (q5j F k) x0 x1 x2 x3 x4 x5 x6 x7 x8 x9 x10 x11 x12
def qkx(a0:LI)(a1:Bool)(a2:Bool)(a3:LI)(a4:LI)(a5:LI)(a6:LI)(a7:Bool):Option (LI×Unit):=
 (qwz F (a1,a2,a3,a4,a5,a6,())).bind fun r1150=>
 (qmm F (a1,a2,a3,a4,a5,a6,())).bind fun r1151=>
 (q5j F F a0 a1 a2 a3 a4 a5 a6 a7 q0i r1150.1 r1151.1 a6 0).bind fun r1191=>
 some (r1191.2.1,())
def qx6(rec:LI→LI→LI→LI→Int→Option (LI×LI×Unit))(x0:LI)(x1:LI)(x2:LI)(x3:LI)(x4:Int):Option (LI×LI×Unit):=
 cond (decide (x4<3))
  (let b1245:Bool:=((decide (0≤x4))&&(decide (x4<3)))
  cond b1245
   (cond b1245
    ((q0m F (y7 x3 (y6 x4) 0) (y7 x0 (y6 x4) 0)).bind fun r1249=>
    cond ((decide (0≤x4))&&(decide (x4<4)))
     (rec x0 x1 (yw x2 (y6 x4) r1249.1) x3 (y0 .i64 (x4+1)))
      none)
     none)
    none)
  (some (x1,x2,()))
def qgg(F:Nat):Nat→LI→LI→LI→LI→Int→Option (LI×LI×Unit)
 |0,_,_,_,_,_=>none
 |k+1,x0,x1,x2,x3,x4=>qx6 F (qgg F k) x0 x1 x2 x3 x4
def z3t(a0:LI)(a1:LI):Option (LI×Unit):=
 (qgg F F a1 [0,0,0,0] [0,0,0,255] a0 0).bind fun r1253=>
 some (r1253.2.1,())
def q9l(a0:LI):Option (LI×Unit):=
 (z3t F a0 [4,4,4]).bind fun r1254=>
 some (r1254.1,())
def qb5:LI:=[3,6,11,16,23,32,41,64]
def qds(F:Nat)(a0:Int):Option (Int×Unit):=
 let v1262:Int:=(iand .i64 a0 7)
 cond ((decide (0≤v1262))&&(decide (v1262<8)))
  (some ((y7 qb5 (y6 v1262) 0),()))
   none
def qtr(rec:Int→LI→LI→Int→Option (LI×LI×Unit))(x0:Int)(x1:LI)(x2:LI)(x3:Int):Option (LI×LI×Unit):=
 cond (decide (x3<3))
  (let b1279:Bool:=((decide (0≤x3))&&(decide (x3<4)))
  cond b1279
   ((q27 F (y0 .i64 ((y7 x1 (y6 x3) 0)+x0)) 255).bind fun r1283=>
   cond b1279
    (rec x0 (yw x1 (y6 x3) r1283.1) x2 (y0 .i64 (x3+1)))
     none)
    none)
  (some (x1,x2,()))
def qdt(F:Nat):Nat→Int→LI→LI→Int→Option (LI×LI×Unit)
 |0,_,_,_,_=>none
 |k+1,x0,x1,x2,x3=>qtr F (qdt F k) x0 x1 x2 x3
def q3t(a0:LI)(a1:Int):Option (LI×Unit):=
 (qdt F F a1 a0 [0,0,0,0] 0).bind fun r1286=>
 some (r1286.1,())
def qhg(F:Nat)(rec:LI→LI→LI→LI→Int→Option (LI×LI×Unit))(x0:LI)(x1:LI)(x2:LI)(x3:LI)(x4:Int):Option (LI×LI×Unit):=
 cond (decide (x4<16))
  (let b1332:Bool:=((decide (0≤x4))&&(decide (x4<16)))
  cond b1332
   (let v1333:Int:=(y7 x3 (y6 x4) 0)
   cond ((decide (0≤v1333))&&(decide (v1333<4)))
    (cond b1332
     (let n1337:Nat:=((y6 x4)*4)
     rec x0 x1 (((y8 n1337 x2)++(y8 4 (y9 ((y6 v1333)*4) x0)))++(y9 (n1337+4) x2)) x3 (y0 .i64 (x4+1)))
      none)
     none)
    none)
  (some (x1,x2,()))
def q6u(F:Nat):Nat→LI→LI→LI→LI→Int→Option (LI×LI×Unit)
 |0,_,_,_,_,_=>none
 |k+1,x0,x1,x2,x3,x4=>qhg F (q6u F k) x0 x1 x2 x3 x4
def qan(a0:LI)(a1:Bool)(a2:Bool)(a3:LI)(a4:LI)(a5:LI)(a6:LI)(a7:Bool)(a8:LI):Option (LI×Unit):=
 (q6u F F a8 q0i q0i a6 0).bind fun r1340=>
 some (r1340.2.1,())
def qts(a0:LI)(a1:Bool)(a2:Bool)(a3:LI)(a4:LI)(a5:LI)(a6:LI)(a7:Bool):Option (LI×Unit):=
 (q1d F a0 a1 a2 a3 a4 a5 a6 a7 [3,4,6,7]).bind fun r1343=>
 (q07 F a0 a1 a2 a3 a4 a5 a6 a7 8 11).bind fun r1344=>
 (q07 F a0 a1 a2 a3 a4 a5 a6 a7 12 15).bind fun r1345=>
 (q9l F [r1343.1,r1344.1,r1345.1]).bind fun r1346=>
 (q07 F a0 a1 a2 a3 a4 a5 a6 a7 16 19).bind fun r1347=>
 (q07 F a0 a1 a2 a3 a4 a5 a6 a7 20 23).bind fun r1348=>
 (q07 F a0 a1 a2 a3 a4 a5 a6 a7 24 27).bind fun r1349=>
 (q9l F [r1347.1,r1348.1,r1349.1]).bind fun r1350=>
 (q1d F a0 a1 a2 a3 a4 a5 a6 a7 [28,29,31]).bind fun r1351=>
 (qds F r1351.1).bind fun r1352=>
 (q3t F r1350.1 r1352.1).bind fun r1353=>
 (q3t F r1350.1 (y0 .i64 (0-r1352.1))).bind fun r1355=>
 (qan F a0 a1 a2 a3 a4 a5 a6 a7 (r1346.1++(r1353.1++(r1350.1++r1355.1)))).bind fun r1357=>
 some (r1357.1,())
def qx7:LI:=[1,2,3,4,5,6,7,11,12,14,15,16]
def qtt(a0:LI)(a1:Bool)(a2:Bool)(a3:LI)(a4:LI)(a5:LI)(a6:LI)(a7:Bool):Option (LI×Unit):=
 (q07 F a0 a1 a2 a3 a4 a5 a6 a7 1 4).bind fun r1409=>
 (q1d F a0 a1 a2 a3 a4 a5 a6 a7 [5,6,7,11]).bind fun r1410=>
 (q1d F a0 a1 a2 a3 a4 a5 a6 a7 [12,14,15,16]).bind fun r1411=>
 (q07 F a0 a1 a2 a3 a4 a5 a6 a7 17 20).bind fun r1412=>
 (q07 F a0 a1 a2 a3 a4 a5 a6 a7 21 24).bind fun r1413=>
 (q07 F a0 a1 a2 a3 a4 a5 a6 a7 25 28).bind fun r1414=>
 (q1d F a0 a1 a2 a3 a4 a5 a6 a7 [29,31]).bind fun r1415=>
 let v1416:Int:=(ishl .i64 r1415.1 1)
 (q1d F a0 a1 a2 a3 a4 a5 a6 a7 qx7).bind fun r1417=>
 (q07 F a0 a1 a2 a3 a4 a5 a6 a7 17 28).bind fun r1418=>
 cond (decide (r1418.1≤r1417.1))
  ((q9l F [r1409.1,r1410.1,r1411.1]).bind fun r1421=>
  (q9l F [r1412.1,r1413.1,r1414.1]).bind fun r1422=>
  (qds F (y0 .i64 (v1416+1))).bind fun r1423=>
  (q3t F r1421.1 r1423.1).bind fun r1424=>
  let v1425:Int:=(y0 .i64 (0-r1423.1))
  (q3t F r1421.1 v1425).bind fun r1426=>
  (q3t F r1422.1 r1423.1).bind fun r1427=>
  (q3t F r1422.1 v1425).bind fun r1428=>
  (qan F a0 a1 a2 a3 a4 a5 a6 a7 (r1424.1++(r1426.1++(r1427.1++r1428.1)))).bind fun r1430=>
  some (r1430.1,()))
  ((q9l F [r1409.1,r1410.1,r1411.1]).bind fun r1431=>
  (q9l F [r1412.1,r1413.1,r1414.1]).bind fun r1432=>
  (qds F v1416).bind fun r1433=>
  (q3t F r1431.1 r1433.1).bind fun r1434=>
  let v1435:Int:=(y0 .i64 (0-r1433.1))
  (q3t F r1431.1 v1435).bind fun r1436=>
  (q3t F r1432.1 r1433.1).bind fun r1437=>
  (q3t F r1432.1 v1435).bind fun r1438=>
  (qan F a0 a1 a2 a3 a4 a5 a6 a7 (r1434.1++(r1436.1++(r1437.1++r1438.1)))).bind fun r1440=>
  some (r1440.1,()))
def qmt(a0:LI):Option (LI×Unit):=
 (z3t F a0 [6,7,6]).bind fun r1467=>
 some (r1467.1,())
def qtu(rec:LI→LI→LI→LI→LI→Int→Int→Int→Option (LI×LI×LI×LI×LI×Int×Unit))(x0:LI)(x1:LI)(x2:LI)(x3:LI)(x4:LI)(x5:Int)(x6:Int)(x7:Int):Option (LI×LI×LI×LI×LI×Int×Unit):=
 cond (decide (x7<3))
  (let b1606:Bool:=((decide (0≤x7))&&(decide (x7<4)))
  cond b1606
   (cond b1606
    (let v1609:Int:=(y7 x0 (y6 x7) 0)
    cond b1606
     (cond b1606
      (cond b1606
       ((q27 F (ishr .i64 (y0 .i64 ((y0 .i64 ((y0 .i64 ((y0 .i64 ((yu x5 4)*(y0 .i64 ((y7 x1 (y6 x7) 0)-v1609))))+(y0 .i64 ((y0 .i64 (yv x5 4))*(y0 .i64 ((y7 x2 (y6 x7) 0)-v1609))))))+(y0 .i64 (4*v1609))))+2)) 2) 255).bind fun r1621=>
       cond ((decide (0≤x5))&&(decide (x5<16)))
        (cond b1606
         (rec x0 x1 x2 x3 (yw x4 (((y6 x5)*4)+(y6 x7)) r1621.1) x5 x6 (y0 .i64 (x7+1)))
          none)
         none)
        none)
       none)
      none)
     none)
    none)
  (some (x0,x1,x2,x3,x4,x6,()))
def qdu(F:Nat):Nat→LI→LI→LI→LI→LI→Int→Int→Int→Option (LI×LI×LI×LI×LI×Int×Unit)
 |0,_,_,_,_,_,_,_,_=>none
 |k+1,x0,x1,x2,x3,x4,x5,x6,x7=>qtu F (qdu F k) x0 x1 x2 x3 x4 x5 x6 x7
def qtv(rec:LI→LI→LI→LI→LI→Int→Option (LI×LI×Unit))(x0:LI)(x1:LI)(x2:LI)(x3:LI)(x4:LI)(x5:Int):Option (LI×LI×Unit):=
 cond (decide (x5<16))
  (cond ((decide (0≤x5))&&(decide (x5<16)))
   ((qdu F F x0 x1 x2 x3 (yw x4 (3+((y6 x5)*4)) 255) x5 x5 0).bind fun r1627=>
   rec r1627.1 r1627.2.1 r1627.2.2.1 r1627.2.2.2.1 r1627.2.2.2.2.1 (y0 .i64 (r1627.2.2.2.2.2.1+1)))
    none)
  (some (x3,x4,()))
def qdv(F:Nat):Nat→LI→LI→LI→LI→LI→Int→Option (LI×LI×Unit)
 |0,_,_,_,_,_,_=>none
 |k+1,x0,x1,x2,x3,x4,x5=>qtv F (qdv F k) x0 x1 x2 x3 x4 x5
def zbs(a0:LI)(a1:LI)(a2:LI):Option (LI×Unit):=
 (qdv F F a0 a1 a2 q0i q0i 0).bind fun r1629=>
 some (r1629.2.1,())
def qky(a0:LI)(a1:Bool)(a2:Bool)(a3:LI)(a4:LI)(a5:LI)(a6:LI)(a7:Bool):Option (LI×Unit):=
 (q07 F a0 a1 a2 a3 a4 a5 a6 a7 1 6).bind fun r1632=>
 (q1d F a0 a1 a2 a3 a4 a5 a6 a7 qgd).bind fun r1633=>
 (q1d F a0 a1 a2 a3 a4 a5 a6 a7 qge).bind fun r1634=>
 (q1d F a0 a1 a2 a3 a4 a5 a6 a7 qgf).bind fun r1635=>
 (q07 F a0 a1 a2 a3 a4 a5 a6 a7 32 38).bind fun r1636=>
 (q07 F a0 a1 a2 a3 a4 a5 a6 a7 39 44).bind fun r1637=>
 (q07 F a0 a1 a2 a3 a4 a5 a6 a7 45 50).bind fun r1638=>
 (q07 F a0 a1 a2 a3 a4 a5 a6 a7 51 57).bind fun r1639=>
 (q07 F a0 a1 a2 a3 a4 a5 a6 a7 58 63).bind fun r1640=>
 (qmt F [r1632.1,r1633.1,r1634.1]).bind fun r1641=>
 (qmt F [r1635.1,r1636.1,r1637.1]).bind fun r1642=>
 (qmt F [r1638.1,r1639.1,r1640.1]).bind fun r1643=>
 (zbs F r1641.1 r1642.1 r1643.1).bind fun r1644=>
 some (r1644.1,())
def qpk(F:Nat)(rec:LI→LI→Bool→Bool→LI→LI→LI→LI→Bool→Int→LI→LI→Int→Option (LI×LI×Unit))(x0:LI)(x1:LI)(x2:Bool)(x3:Bool)(x4:LI)(x5:LI)(x6:LI)(x7:LI)(x8:Bool)(x9:Int)(x10:LI)(x11:LI)(x12:Int):Option (LI×LI×Unit):=
 cond (decide (x12<16))
  (let b1214:Bool:=((decide (0≤x12))&&(decide (x12<16)))
  cond b1214
   (cond (!x8)
    (cond (x9 !=3)
     (cond ((y7 x11 (y6 x12) 0)==2)
      (cond b1214
       (let n1219:Nat:=((y6 x12)*4)
       rec x0 x1 x2 x3 x4 x5 x6 x7 x8 x9 (((y8 n1219 x10)++[0,0,0,0])++(y9 (n1219+4) x10)) x11 (y0 .i64 (x12+1)))
        none)
      (rec x0 x1 x2 x3 x4 x5 x6 x7 x8 x9 x10 x11 (y0 .i64 (x12+1))))
     (rec x0 x1 x2 x3 x4 x5 x6 x7 x8 x9 x10 x11 (y0 .i64 (x12+1))))
    (rec x0 x1 x2 x3 x4 x5 x6 x7 x8 x9 x10 x11 (y0 .i64 (x12+1))))
    none)
  (some (x0,x10,()))
def q4a(F:Nat):Nat→LI→LI→Bool→Bool→LI→LI→LI→LI→Bool→Int→LI→LI→Int→Option (LI×LI×Unit)
 |0,_,_,_,_,_,_,_,_,_,_,_,_,_=>none
 |k+1,x0,x1,x2,x3,x4,x5,x6,x7,x8,x9,x10,x11,x12=>qpk F (q4a F k) x0 x1 x2 x3 x4 x5 x6 x7 x8 x9 x10 x11 x12
def qjl(a0:LI)(a1:Bool):Option (LI×Int×Unit):=
 cond ((((ya a0):Nat):Int) !=8)
  (some (q0i,1,()))
  ((zij F a0 a1).bind fun r806=>
  (qpj F r806.1 r806.2.1 r806.2.2.1 r806.2.2.2.1 r806.2.2.2.2.1 r806.2.2.2.2.2.1 r806.2.2.2.2.2.2.1 r806.2.2.2.2.2.2.2.1).bind fun r949=>
  cond (r949.1==0)
   ((qkx F r806.1 r806.2.1 r806.2.2.1 r806.2.2.2.1 r806.2.2.2.2.1 r806.2.2.2.2.2.1 r806.2.2.2.2.2.2.1 r806.2.2.2.2.2.2.2.1).bind fun r1192=>
   (q4a F F q0i r806.1 r806.2.1 r806.2.2.1 r806.2.2.2.1 r806.2.2.2.2.1 r806.2.2.2.2.2.1 r806.2.2.2.2.2.2.1 r806.2.2.2.2.2.2.2.1 r949.1 r1192.1 r806.2.2.2.2.2.2.1 0).bind fun r1225=>
   some (r1225.2.1,0,()))
   (cond (r949.1==1)
    ((qts F r806.1 r806.2.1 r806.2.2.1 r806.2.2.2.1 r806.2.2.2.2.1 r806.2.2.2.2.2.1 r806.2.2.2.2.2.2.1 r806.2.2.2.2.2.2.2.1).bind fun r1358=>
    (q4a F F q0i r806.1 r806.2.1 r806.2.2.1 r806.2.2.2.1 r806.2.2.2.2.1 r806.2.2.2.2.2.1 r806.2.2.2.2.2.2.1 r806.2.2.2.2.2.2.2.1 r949.1 r1358.1 r806.2.2.2.2.2.2.1 0).bind fun r1372=>
    some (r1372.2.1,0,()))
    (cond (r949.1==2)
     ((qtt F r806.1 r806.2.1 r806.2.2.1 r806.2.2.2.1 r806.2.2.2.2.1 r806.2.2.2.2.2.1 r806.2.2.2.2.2.2.1 r806.2.2.2.2.2.2.2.1).bind fun r1441=>
     (q4a F F q0i r806.1 r806.2.1 r806.2.2.1 r806.2.2.2.1 r806.2.2.2.2.1 r806.2.2.2.2.2.1 r806.2.2.2.2.2.2.1 r806.2.2.2.2.2.2.2.1 r949.1 r1441.1 r806.2.2.2.2.2.2.1 0).bind fun r1455=>
     some (r1455.2.1,0,()))
     (cond (r949.1==3)
      ((qky F r806.1 r806.2.1 r806.2.2.1 r806.2.2.2.1 r806.2.2.2.2.1 r806.2.2.2.2.2.1 r806.2.2.2.2.2.2.1 r806.2.2.2.2.2.2.2.1).bind fun r1645=>
      (q4a F F q0i r806.1 r806.2.1 r806.2.2.1 r806.2.2.2.1 r806.2.2.2.2.1 r806.2.2.2.2.2.1 r806.2.2.2.2.2.2.1 r806.2.2.2.2.2.2.2.1 r949.1 r1645.1 r806.2.2.2.2.2.2.1 0).bind fun r1659=>
      some (r1659.2.1,0,()))
       none))))
def qs0(a0:LI)(a1:Bool):Option ((Bool×Bool×LI×LI×LI×LI×Unit)×Unit):=
 cond a1
  ((q34 F a0 30 1 true 1).bind fun r2404=>
  (qkv F r2404.1).bind fun r2524=>
  some ((r2524.1.1,r2524.1.2.1,r2524.1.2.2.1,r2524.1.2.2.2.1,r2524.1.2.2.2.2.1,r2524.1.2.2.2.2.2.1,()),()))
  ((qkv F a0).bind fun r2525=>
  some ((r2525.1.1,r2525.1.2.1,r2525.1.2.2.1,r2525.1.2.2.2.1,r2525.1.2.2.2.2.1,r2525.1.2.2.2.2.2.1,()),()))
def ztc(a0:LI)(a1:Bool):Option (Int×Unit):=
 cond ((((ya a0):Nat):Int) !=8)
  (some (0,()))
  ((qs0 F a0 a1).bind fun r2526=>
  (qkw F (r2526.1.1,r2526.1.2.1,r2526.1.2.2.1,r2526.1.2.2.2.1,r2526.1.2.2.2.2.1,r2526.1.2.2.2.2.2.1,())).bind fun r2670=>
  cond (r2670.2.1==3)
   (some (0,()))
   (some ((y0 .i64 (r2670.2.1+1)),())))
def q36(a0:LI)(a1:Int)(a2:Int):Option (Int×Unit):=
 (q35 F a0 a1 (y0 .i64 ((y0 .i64 (a2-a1))+1))).bind fun r2679=>
 some (r2679.1,())
def z1o(rec:LI→LI→Int→Int→Option (Int×Unit))(x0:LI)(x1:LI)(x2:Int)(x3:Int):Option (Int×Unit):=
 let v2704:Int:=(((ya x1):Nat):Int)
 cond (decide (x3<v2704))
  (cond ((decide (0≤x3))&&(decide (x3<(((ya x1):Nat):Int))))
   ((q35 F x0 (y7 x1 (y6 x3) 0) 1).bind fun r2710=>
   rec x0 x1 (y0 .i64 ((y0 .i64 (2*x2))+r2710.1)) (y0 .i64 (x3+1)))
    none)
  (some (x2,()))
def qjm(F:Nat):Nat→LI→LI→Int→Int→Option (Int×Unit)
 |0,_,_,_,_=>none
 |k+1,x0,x1,x2,x3=>z1o F (qjm F k) x0 x1 x2 x3
def qao(a0:LI)(a1:LI):Option (Int×Unit):=
 (qjm F F a0 a1 0 0).bind fun r2713=>
 some (r2713.1,())
def z07(a0:LI):Option (LI×Unit):=
 (q0c F (y7 a0 0 0) 6).bind fun r2723=>
 (q0c F (y7 a0 1 0) 7).bind fun r2725=>
 (q0c F (y7 a0 2 0) 6).bind fun r2727=>
 some ([r2723.1,r2725.1,r2727.1,255],())
def qx8(rec:LI→LI→LI→LI→LI→Int→Int→Option (LI×LI×LI×LI×LI×Int×Unit))(x0:LI)(x1:LI)(x2:LI)(x3:LI)(x4:LI)(x5:Int)(x6:Int):Option (LI×LI×LI×LI×LI×Int×Unit):=
 cond (decide (x6<3))
  (let b2879:Bool:=((decide (0≤x6))&&(decide (x6<4)))
  cond b2879
   (cond b2879
    (let v2882:Int:=(y7 x0 (y6 x6) 0)
    cond b2879
     (cond b2879
      (cond b2879
       ((qh7 F 0 (y0 .i64 ((y0 .i64 ((y0 .i64 ((y0 .i64 ((yu x5 4)*(y0 .i64 ((y7 x1 (y6 x6) 0)-v2882))))+(y0 .i64 ((y0 .i64 (yv x5 4))*(y0 .i64 ((y7 x2 (y6 x6) 0)-v2882))))))+(y0 .i64 (4*v2882))))+2)) 1 4 0).bind fun r2893=>
       (qcf F r2893.1 255).bind fun r2894=>
       cond ((decide (0≤x5))&&(decide (x5<16)))
        (cond b2879
         (rec x0 x1 x2 x3 (yw x4 (((y6 x5)*4)+(y6 x6)) r2894.1) x5 (y0 .i64 (x6+1)))
          none)
         none)
        none)
       none)
      none)
     none)
    none)
  (some (x0,x1,x2,x3,x4,x5,()))
def qgh(F:Nat):Nat→LI→LI→LI→LI→LI→Int→Int→Option (LI×LI×LI×LI×LI×Int×Unit)
 |0,_,_,_,_,_,_,_=>none
 |k+1,x0,x1,x2,x3,x4,x5,x6=>qx8 F (qgh F k) x0 x1 x2 x3 x4 x5 x6
def qx9(rec:LI→LI→LI→LI→LI→Int→Option (LI×LI×Unit))(x0:LI)(x1:LI)(x2:LI)(x3:LI)(x4:LI)(x5:Int):Option (LI×LI×Unit):=
 cond (decide (x5<16))
  (cond ((decide (0≤x5))&&(decide (x5<16)))
   ((qgh F F x0 x1 x2 x3 (yw x4 (3+((y6 x5)*4)) 255) x5 0).bind fun r2900=>
   rec r2900.1 r2900.2.1 r2900.2.2.1 r2900.2.2.2.1 r2900.2.2.2.2.1 (y0 .i64 (r2900.2.2.2.2.2.1+1)))
    none)
  (some (x3,x4,()))
def qgi(F:Nat):Nat→LI→LI→LI→LI→LI→Int→Option (LI×LI×Unit)
 |0,_,_,_,_,_,_=>none
 |k+1,x0,x1,x2,x3,x4,x5=>qx9 F (qgi F k) x0 x1 x2 x3 x4 x5
def zik(a0:LI)(a1:LI)(a2:LI):Option (LI×Unit):=
 (qgi F F a0 a1 a2 q0i q0i 0).bind fun r2902=>
 some (r2902.2.1,())
def zbt(a0:LI):Option (LI×Unit):=
 (q36 F a0 1 6).bind fun r2680=>
 (qao F a0 qgd).bind fun r2714=>
 (qao F a0 qge).bind fun r2715=>
 (qao F a0 qgf).bind fun r2716=>
 (q36 F a0 32 38).bind fun r2717=>
 (q36 F a0 39 44).bind fun r2718=>
 (q36 F a0 45 50).bind fun r2719=>
 (q36 F a0 51 57).bind fun r2720=>
 (q36 F a0 58 63).bind fun r2721=>
 (z07 F [r2680.1,r2714.1,r2715.1]).bind fun r2728=>
 (z07 F [r2716.1,r2717.1,r2718.1]).bind fun r2729=>
 (z07 F [r2719.1,r2720.1,r2721.1]).bind fun r2730=>
 (zik F r2728.1 r2729.1 r2730.1).bind fun r2903=>
 some (r2903.1,())
def q3u(a0:LI):Option (LI×Unit):=
 (q0c F (y7 a0 0 0) 4).bind fun r2999=>
 (q0c F (y7 a0 1 0) 4).bind fun r3001=>
 (q0c F (y7 a0 2 0) 4).bind fun r3003=>
 some ([r2999.1,r3001.1,r3003.1,255],())
def qgj(F:Nat)(a0:Int):Option (Int×Unit):=
 let v3010:Int:=(yu a0 8)
 cond (decide (v3010<0))
  (let v3012:Int:=(y0 .i64 (v3010+8))
  cond ((decide (0≤v3012))&&(decide (v3012<8)))
   (some ((y7 qb5 (y6 v3012) 0),()))
    none)
  (cond ((decide (0≤v3010))&&(decide (v3010<8)))
   (some ((y7 qb5 (y6 v3010) 0),()))
    none)
def qxa(F:Nat)(a0:LI):Option (Int×Unit):=
 some ((y0 .i64 ((y0 .i64 ((y0 .i64 (256*(y7 a0 0 0)))+(y0 .i64 (16*(y7 a0 1 0)))))+(y7 a0 2 0))),())
def z8h(a0:LI)(a1:Int):Option (LI×Unit):=
 cond (a1==1)
  ((qao F a0 [3,4,6,7]).bind fun r2995=>
  (q36 F a0 8 11).bind fun r2996=>
  (q36 F a0 12 15).bind fun r2997=>
  (q3u F [r2995.1,r2996.1,r2997.1]).bind fun r3004=>
  (q36 F a0 16 19).bind fun r3005=>
  (q36 F a0 20 23).bind fun r3006=>
  (q36 F a0 24 27).bind fun r3007=>
  (q3u F [r3005.1,r3006.1,r3007.1]).bind fun r3008=>
  (qao F a0 [28,29,31]).bind fun r3009=>
  (qgj F r3009.1).bind fun r3019=>
  (q86 F r3008.1 r3019.1).bind fun r3020=>
  (q86 F r3008.1 (y0 .i64 (0-r3019.1))).bind fun r3022=>
  some ((r3004.1++(r3020.1++(r3008.1++r3022.1))),()))
  ((q36 F a0 1 4).bind fun r3024=>
  (qao F a0 [5,6,7,11]).bind fun r3025=>
  (qao F a0 [12,14,15,16]).bind fun r3026=>
  (q36 F a0 17 20).bind fun r3027=>
  (q36 F a0 21 24).bind fun r3028=>
  (q36 F a0 25 28).bind fun r3029=>
  (qao F a0 [29,31]).bind fun r3030=>
  let v3031:Int:=(y0 .i64 (2*r3030.1))
  (qxa F [r3024.1,r3025.1,r3026.1]).bind fun r3039=>
  (qxa F [r3027.1,r3028.1,r3029.1]).bind fun r3040=>
  cond (decide (r3040.1≤r3039.1))
   ((qgj F (y0 .i64 (v3031+1))).bind fun r3043=>
   (q3u F [r3024.1,r3025.1,r3026.1]).bind fun r3044=>
   (q86 F r3044.1 r3043.1).bind fun r3045=>
   (q3u F [r3024.1,r3025.1,r3026.1]).bind fun r3046=>
   let v3047:Int:=(y0 .i64 (0-r3043.1))
   (q86 F r3046.1 v3047).bind fun r3048=>
   (q3u F [r3027.1,r3028.1,r3029.1]).bind fun r3049=>
   (q86 F r3049.1 r3043.1).bind fun r3050=>
   (q3u F [r3027.1,r3028.1,r3029.1]).bind fun r3051=>
   (q86 F r3051.1 v3047).bind fun r3052=>
   some ((r3045.1++(r3048.1++(r3050.1++r3052.1))),()))
   ((qgj F v3031).bind fun r3054=>
   (q3u F [r3024.1,r3025.1,r3026.1]).bind fun r3055=>
   (q86 F r3055.1 r3054.1).bind fun r3056=>
   (q3u F [r3024.1,r3025.1,r3026.1]).bind fun r3057=>
   let v3058:Int:=(y0 .i64 (0-r3054.1))
   (q86 F r3057.1 v3058).bind fun r3059=>
   (q3u F [r3027.1,r3028.1,r3029.1]).bind fun r3060=>
   (q86 F r3060.1 r3054.1).bind fun r3061=>
   (q3u F [r3027.1,r3028.1,r3029.1]).bind fun r3062=>
   (q86 F r3062.1 v3058).bind fun r3063=>
   some ((r3056.1++(r3059.1++(r3061.1++r3063.1))),())))
def qtw(rec:LI→LI→Int→Bool→Bool→Bool→LI→LI→LI→LI→LI→LI→Int→Option (LI×LI×Unit))(x0:LI)(x1:LI)(x2:Int)(x3:Bool)(x4:Bool)(x5:Bool)(x6:LI)(x7:LI)(x8:LI)(x9:LI)(x10:LI)(x11:LI)(x12:Int):Option (LI×LI×Unit):=
 cond (decide (x12<16))
  (cond (x2==1)
   ((z8h F x0 x2).bind fun r3268=>
   let b3269:Bool:=((decide (0≤x12))&&(decide (x12<16)))
   cond b3269
    (let v3271:Int:=(y7 x9 (y6 x12) 0)
    cond ((decide (0≤v3271))&&(decide (v3271<4)))
     (cond b3269
      (let n3274:Nat:=((y6 x12)*4)
      let l3275:LI:=(((y8 n3274 x10)++(y8 4 (y9 ((y6 v3271)*4) r3268.1)))++(y9 (n3274+4) x10))
      cond (!x3)
       (cond b3269
        (cond (v3271==2)
         (cond b3269
          (rec x0 x1 x2 x3 x4 x5 x6 x7 x8 x9 (((y8 n3274 l3275)++[0,0,0,0])++(y9 (n3274+4) l3275)) x11 (y0 .i64 (x12+1)))
           none)
         (rec x0 x1 x2 x3 x4 x5 x6 x7 x8 x9 l3275 x11 (y0 .i64 (x12+1))))
         none)
       (rec x0 x1 x2 x3 x4 x5 x6 x7 x8 x9 l3275 x11 (y0 .i64 (x12+1))))
       none)
      none)
     none)
   (cond (x2==2)
    ((z8h F x0 x2).bind fun r3283=>
    let b3284:Bool:=((decide (0≤x12))&&(decide (x12<16)))
    cond b3284
     (let v3286:Int:=(y7 x9 (y6 x12) 0)
     cond ((decide (0≤v3286))&&(decide (v3286<4)))
      (cond b3284
       (let n3289:Nat:=((y6 x12)*4)
       let l3290:LI:=(((y8 n3289 x10)++(y8 4 (y9 ((y6 v3286)*4) r3283.1)))++(y9 (n3289+4) x10))
       cond (!x3)
        (cond b3284
         (cond (v3286==2)
          (cond b3284
           (rec x0 x1 x2 x3 x4 x5 x6 x7 x8 x9 (((y8 n3289 l3290)++[0,0,0,0])++(y9 (n3289+4) l3290)) x11 (y0 .i64 (x12+1)))
            none)
          (rec x0 x1 x2 x3 x4 x5 x6 x7 x8 x9 l3290 x11 (y0 .i64 (x12+1))))
          none)
        (rec x0 x1 x2 x3 x4 x5 x6 x7 x8 x9 l3290 x11 (y0 .i64 (x12+1))))
        none)
       none)
      none)
    (cond (!x3)
     (let b3298:Bool:=((decide (0≤x12))&&(decide (x12<16)))
     cond b3298
      (let v3300:Int:=(y7 x9 (y6 x12) 0)
      cond (v3300==0)
       ((z8g F x5 x12).bind fun r3302=>
       cond ((decide (0≤r3302.1))&&(decide (r3302.1<2)))
        (cond b3298
         (let n3306:Nat:=((y6 x12)*4)
         let l3307:LI:=(((y8 n3306 x10)++(y8 4 (y9 ((y6 r3302.1)*4) x11)))++(y9 (n3306+4) x10))
         cond (!x3)
          (cond b3298
           (cond (v3300==2)
            (cond b3298
             (rec x0 x1 x2 x3 x4 x5 x6 x7 x8 x9 (((y8 n3306 l3307)++[0,0,0,0])++(y9 (n3306+4) l3307)) x11 (y0 .i64 (x12+1)))
              none)
            (rec x0 x1 x2 x3 x4 x5 x6 x7 x8 x9 l3307 x11 (y0 .i64 (x12+1))))
            none)
          (rec x0 x1 x2 x3 x4 x5 x6 x7 x8 x9 l3307 x11 (y0 .i64 (x12+1))))
          none)
         none)
       (cond (!x3)
        (cond b3298
         (cond (v3300==2)
          (cond b3298
           (let n3314:Nat:=((y6 x12)*4)
           rec x0 x1 x2 x3 x4 x5 x6 x7 x8 x9 (((y8 n3314 x10)++[0,0,0,0])++(y9 (n3314+4) x10)) x11 (y0 .i64 (x12+1)))
            none)
          (rec x0 x1 x2 x3 x4 x5 x6 x7 x8 x9 x10 x11 (y0 .i64 (x12+1))))
          none)
        (rec x0 x1 x2 x3 x4 x5 x6 x7 x8 x9 x10 x11 (y0 .i64 (x12+1)))))
       none)
     (cond (!x3)
      (let b3319:Bool:=((decide (0≤x12))&&(decide (x12<16)))
      cond b3319
       (cond ((y7 x9 (y6 x12) 0)==2)
        (cond b3319
         (let n3323:Nat:=((y6 x12)*4)
         rec x0 x1 x2 x3 x4 x5 x6 x7 x8 x9 (((y8 n3323 x10)++[0,0,0,0])++(y9 (n3323+4) x10)) x11 (y0 .i64 (x12+1)))
          none)
        (rec x0 x1 x2 x3 x4 x5 x6 x7 x8 x9 x10 x11 (y0 .i64 (x12+1))))
        none)
      (rec x0 x1 x2 x3 x4 x5 x6 x7 x8 x9 x10 x11 (y0 .i64 (x12+1)))))))
  (some (x1,x10,()))
def q9m(F:Nat):Nat→LI→LI→Int→Bool→Bool→Bool→LI→LI→LI→LI→LI→LI→Int→Option (LI×LI×Unit)
 |0,_,_,_,_,_,_,_,_,_,_,_,_,_=>none
 |k+1,x0,x1,x2,x3,x4,x5,x6,x7,x8,x9,x10,x11,x12=>qtw F (q9m F k) x0 x1 x2 x3 x4 x5 x6 x7 x8 x9 x10 x11 x12
def q9n(a0:LI)(a1:Bool):Option (LI×Int×Unit):=
 cond ((((ya a0):Nat):Int) !=8)
  (some (q0i,1,()))
  ((ztc F a0 a1).bind fun r3195=>
  cond (r3195.1==3)
   ((zbt F a0).bind fun r3197=>
   some (r3197.1,0,()))
   (cond (!a1)
    ((qs0 F a0 a1).bind fun r3199=>
    (qry F (r3199.1.1,r3199.1.2.1,r3199.1.2.2.1,r3199.1.2.2.2.1,r3199.1.2.2.2.2.1,r3199.1.2.2.2.2.2.1,())).bind fun r3200=>
    (qkw F (r3199.1.1,r3199.1.2.1,r3199.1.2.2.1,r3199.1.2.2.2.1,r3199.1.2.2.2.2.1,r3199.1.2.2.2.2.2.1,())).bind fun r3201=>
    (q9m F F a0 q0i r3195.1 true r3199.1.1 r3199.1.2.1 r3199.1.2.2.1 r3199.1.2.2.2.1 r3199.1.2.2.2.2.1 r3199.1.2.2.2.2.2.1 r3200.1 r3201.1 0).bind fun r3328=>
    some (r3328.2.1,0,()))
    ((q35 F a0 30 1).bind fun r3329=>
    (qs0 F a0 a1).bind fun r3331=>
    (qry F (r3331.1.1,r3331.1.2.1,r3331.1.2.2.1,r3331.1.2.2.2.1,r3331.1.2.2.2.2.1,r3331.1.2.2.2.2.2.1,())).bind fun r3332=>
    (qkw F (r3331.1.1,r3331.1.2.1,r3331.1.2.2.1,r3331.1.2.2.2.1,r3331.1.2.2.2.2.1,r3331.1.2.2.2.2.2.1,())).bind fun r3333=>
    (q9m F F a0 q0i r3195.1 (r3329.1==1) r3331.1.1 r3331.1.2.1 r3331.1.2.2.1 r3331.1.2.2.2.1 r3331.1.2.2.2.2.1 r3331.1.2.2.2.2.2.1 r3332.1 r3333.1 0).bind fun r3397=>
    some (r3397.2.1,0,()))))
def z1p(F:Nat)(rec:Int→LI→Int→Option (LI×Unit))(x0:Int)(x1:LI)(x2:Int):Option (LI×Unit):=
 cond (decide (x2≤x0))
  (cond ((decide (((ya x1)+1)≤1099511627776))&&true)
   (rec x0 (x1++[x2]) (y0 .i64 (x2+1)))
    none)
  (some (x1,()))
def qjn(F:Nat):Nat→Int→LI→Int→Option (LI×Unit)
 |0,_,_,_=>none
 |k+1,x0,x1,x2=>z1p F (qjn F k) x0 x1 x2
def qfh(a0:Int)(a1:Int):Option (LI×Unit):=
 (qjn F F a1 [] a0).bind fun r3491=>
 some (r3491.1,())
def z5f(rec:LI→LI→Int→Int→Option (LI×Unit))(x0:LI)(x1:LI)(x2:Int)(x3:Int):Option (LI×Unit):=
 cond (decide (0≤x3))
  (cond ((decide (0≤x3))&&(decide (x3<(((ya x1):Nat):Int))))
   ((q34 F x0 (y7 x1 (y6 x3) 0) 1 true (y0 .u64 (yu x2 2))).bind fun r3561=>
   rec r3561.1 x1 (y0 .i64 (yv x2 2)) (y0 .i64 (x3-1)))
    none)
  (some (x0,()))
def qmu(F:Nat):Nat→LI→LI→Int→Int→Option (LI×Unit)
 |0,_,_,_,_=>none
 |k+1,x0,x1,x2,x3=>z5f F (qmu F k) x0 x1 x2 x3
def q5a(a0:LI)(a1:LI)(a2:Int):Option (LI×Unit):=
 (qmu F F a0 a1 a2 (y0 .i64 ((((ya a1):Nat):Int)-1))).bind fun r3565=>
 some (r3565.1,())
def z5g(rec:LI→LI→LI→LI→Int→Option (Unit⊕(LI×LI×LI×Unit)))(x0:LI)(x1:LI)(x2:LI)(x3:LI)(x4:Int):Option (Unit⊕(LI×LI×LI×Unit)):=
 let n3692:Nat:=((ya x3)/3)
 cond (decide (x4<3))
  (let b3694:Bool:=((decide (0≤x4))&&(decide (x4<((n3692:Nat):Int))))
  cond b3694
   (let n3695:Nat:=((y6 x4)*3)
   (q98 F (y7 x3 n3695 0) 0 63).bind fun r3697=>
   cond (!r3697.1)
    (some (.inl ()))
    (cond b3694
     ((q98 F (y7 x3 (1+n3695) 0) 0 127).bind fun r3701=>
     cond (!r3701.1)
      (some (.inl ()))
      (cond b3694
       ((q98 F (y7 x3 (2+n3695) 0) 0 63).bind fun r3705=>
       cond (!r3705.1)
        (some (.inl ()))
        (rec x0 x1 x2 x3 (y0 .i64 (x4+1))))
        none))
      none))
    none)
  (some (.inr (x0,x1,x2,())))
def qmv(F:Nat):Nat→LI→LI→LI→LI→Int→Option (Unit⊕(LI×LI×LI×Unit))
 |0,_,_,_,_,_=>none
 |k+1,x0,x1,x2,x3,x4=>z5g F (qmv F k) x0 x1 x2 x3 x4
def z5h(rec:LI→Int→Option (LI×Unit))(x0:LI)(x1:Int):Option (LI×Unit):=
 cond (decide (x1<2))
  ((qkv F x0).bind fun r3782=>
  let b3783:Bool:=((decide (0≤x1))&&(decide (x1<3)))
  cond b3783
   (cond b3783
    (let v3787:Int:=(y0 .i64 ((y7 r3782.1.2.2.1 (y6 x1) 0)+(y7 r3782.1.2.2.2.1 (y6 x1) 0)))
    cond (decide (v3787<0))
     ((q5a F x0 [(y0 .i64 (8*x1))] 1).bind fun r3790=>
     rec r3790.1 (y0 .i64 (x1+1)))
     (cond (decide (31<v3787))
      ((q5a F x0 [(y0 .i64 (8*x1))] 1).bind fun r3795=>
      rec r3795.1 (y0 .i64 (x1+1)))
      (rec x0 (y0 .i64 (x1+1)))))
     none)
    none)
  (some (x0,()))
def qmw(F:Nat):Nat→LI→Int→Option (LI×Unit)
 |0,_,_=>none
 |k+1,x0,x1=>z5h F (qmw F k) x0 x1
def j13(a0:LI)(a1:LI)(a2:LI):Option (LI×Int×Unit):=
 (qmv F F a0 a1 a2 (a0++(a1++a2)) 0).bind fun r3708=>match r3708 with
  | .inl r3708=>(some ([],1,()))
  | .inr r3708=>((qfh F 1 6).bind fun r3710=>
   (q5a F z5e r3710.1 (y7 r3708.1 0 0)).bind fun r3712=>
   (q5a F r3712.1 qgd (y7 r3708.1 1 0)).bind fun r3715=>
   (q5a F r3715.1 qge (y7 r3708.1 2 0)).bind fun r3718=>
   (q5a F r3718.1 qgf (y7 r3708.2.1 0 0)).bind fun r3721=>
   (qfh F 32 38).bind fun r3724=>
   (q5a F r3721.1 r3724.1 (y7 r3708.2.1 1 0)).bind fun r3726=>
   (qfh F 39 44).bind fun r3729=>
   (q5a F r3726.1 r3729.1 (y7 r3708.2.1 2 0)).bind fun r3731=>
   (qfh F 45 50).bind fun r3734=>
   (q5a F r3731.1 r3734.1 (y7 r3708.2.2.1 0 0)).bind fun r3736=>
   (qfh F 51 57).bind fun r3739=>
   (q5a F r3736.1 r3739.1 (y7 r3708.2.2.1 1 0)).bind fun r3741=>
   (qfh F 58 63).bind fun r3744=>
   (q5a F r3741.1 r3744.1 (y7 r3708.2.2.1 2 0)).bind fun r3746=>
   (q5a F r3746.1 [30] 1).bind fun r3748=>
   (qmw F F r3748.1 0).bind fun r3799=>
   (q36 F r3799.1 19 20).bind fun r3801=>
   (q36 F r3799.1 22 23).bind fun r3802=>
   let v3803:Int:=(y0 .i64 (r3801.1+r3802.1))
   cond (decide (4≤v3803))
    ((q5a F r3799.1 [16,17,18] 7).bind fun r3805=>
    some (r3805.1,0,()))
    ((q5a F r3799.1 [21] 1).bind fun r3807=>
    some (r3807.1,0,())))
def jce(F:Nat)(a0:Int):Option (Int×Unit):=
 some ((y0 .i64 (16+(y0 .i64 (3*(y0 .i64 ((y0 .i64 (4*(yu a0 4)))+(y0 .i64 (yv a0 4)))))))),())
def qpl:LI:=[0,0,0,0,0,0,0,0]
def zbu(rec:LI→LI→LI→Int→Option (LI×LI×Unit))(x0:LI)(x1:LI)(x2:LI)(x3:Int):Option (LI×LI×Unit):=
 let n25:Nat:=((ya x1)/3)
 cond (decide (x3<16))
  (cond ((decide (0≤x3))&&(decide (x3<16)))
   (let v28:Int:=(y7 x2 (y6 x3) 0)
   (jce F x3).bind fun r29=>
   cond ((decide ((n25+1)≤1099511627776))&&(if(false=true)then(decide (0<1))else true))
    (rec x0 (x1++[r29.1,3,v28]) x2 (y0 .i64 (x3+1)))
     none)
    none)
  (some (x0,x1,()))
def qs1(F:Nat):Nat→LI→LI→LI→Int→Option (LI×LI×Unit)
 |0,_,_,_,_=>none
 |k+1,x0,x1,x2,x3=>zbu F (qs1 F k) x0 x1 x2 x3
def zbv(rec:LI→LI→Int→Int→Option (LI×Bool×Unit))(x0:LI)(x1:LI)(x2:Int)(x3:Int):Option (LI×Bool×Unit):=
 let n67:Nat:=((ya x1)/3)
 cond (decide (x3<x2))
  (cond ((decide (0≤x3))&&(decide (x3<((n67:Nat):Int))))
   (let l71:LI:=(y8 3 (y9 ((y6 x3)*3) x1))
   let l72:LI:=(if((0=0)∧(3=3))then l71 else(((y8 0 [0,0,0])++l71)++(y9 3 [0,0,0])))
   (q9e F x0 (y7 l72 0 0) (y7 l72 1 0) (y0 .u64 (y7 l72 2 0))).bind fun r77=>
   cond (r77.2.1 !=0)
    (some (x0,false,()))
    (rec r77.1 x1 x2 (y0 .i64 (x3+1))))
    none)
  (some (x0,true,()))
def qs2(F:Nat):Nat→LI→LI→Int→Int→Option (LI×Bool×Unit)
 |0,_,_,_,_=>none
 |k+1,x0,x1,x2,x3=>zbv F (qs2 F k) x0 x1 x2 x3
def zuo(a0:Int)(a1:Int)(a2:Int)(a3:LI):Option (LI×Int×Unit):=
 (qs1 F F qpl [0,8,a0,8,4,a1,12,4,a2] (if((0=0)∧(16=16))then a3 else(y8 16 (y9 0 a3))) 0).bind fun r34=>
 (qs2 F F r34.1 r34.2.1 ((((ya r34.2.1)/3):Nat):Int) 0).bind fun r81=>
 cond (!r81.2.1)
  (some ([],1,()))
  (some (r81.1,0,()))
def qhh(a0:Int)(a1:Int)(a2:LI):Option (Int×Unit):=
 (qwr F a2 a0 a1).bind fun r85=>
 some ((y0 .i64 r85.1),())
def q9o:LI:=[0,0,0,0,0,0,0,0,0,0,0,0,0,0,0,0]
def z5i(rec:LI→LI→LI→Int→Option (LI×LI×LI×Unit))(x0:LI)(x1:LI)(x2:LI)(x3:Int):Option (LI×LI×LI×Unit):=
 cond (decide (x3<16))
  ((jce F x3).bind fun r100=>
  (qhh F r100.1 3 x2).bind fun r101=>
  cond ((decide (0≤x3))&&(decide (x3<16)))
   (rec x0 (yw x1 (y6 x3) r101.1) x2 (y0 .i64 (x3+1)))
    none)
  (some (x0,x1,x2,()))
def qmx(F:Nat):Nat→LI→LI→LI→Int→Option (LI×LI×LI×Unit)
 |0,_,_,_,_=>none
 |k+1,x0,x1,x2,x3=>z5i F (qmx F k) x0 x1 x2 x3
def j14(a0:LI):Option (Int×Int×Int×LI×Int×Unit):=
 cond ((((ya a0):Nat):Int) !=8)
  (some (0,0,0,q9o,1,()))
  ((qmx F F q9o q9o a0 0).bind fun r106=>
  (qhh F 0 8 r106.2.2.1).bind fun r108=>
  (qhh F 8 4 r106.2.2.1).bind fun r109=>
  (qhh F 12 4 r106.2.2.1).bind fun r110=>
  some (r108.1,r109.1,r110.1,r106.2.1,0,()))
def j15:LI:=[-3,-6,-9,-15,2,5,8,14,-3,-7,-10,-13,2,6,9,12,-2,-5,-8,-13,1,4,7,12,-2,-4,-6,-13,1,3,5,12,-3,-6,-8,-12,2,5,7,11,-3,-7,-9,-11,2,6,8,10,-4,-7,-8,-11,3,6,7,10,-3,-5,-8,-11,2,4,7,10,-2,-6,-8,-10,1,5,7,9,-2,-5,-8,-10,1,4,7,9,-2,-4,-8,-10,1,3,7,9,-2,-5,-7,-10,1,4,6,9,-3,-4,-7,-10,2,3,6,9,-1,-2,-3,-10,0,1,2,9,-4,-6,-8,-9,3,5,7,8,-3,-5,-7,-9,2,4,6,8]
def j16(F:Nat)(a0:Int):Option (LI×Unit):=
 let v118:Int:=(iand .i64 a0 15)
 cond ((decide (0≤v118))&&(decide (v118<16)))
  (let l121:LI:=(y8 8 (y9 ((y6 v118)*8) j15))
  let l122:LI:=(if((0=0)∧(8=8))then l121 else(((y8 0 qpl)++l121)++(y9 8 qpl)))
  some ((if((0=0)∧(8=8))then l122 else(y8 8 (y9 0 l122))),()))
   none
def zil(a0:Int)(a1:Int)(a2:Int)(a3:Bool):Option (Int×Unit):=
 cond (!a3)
  ((q27 F (y0 .i64 (a0+(y0 .i64 (a2*a1)))) 255).bind fun r129=>
  some (r129.1,()))
  (cond (a1==0)
   ((q27 F (y0 .i64 ((y0 .i64 ((y0 .i64 (8*a0))+4))+a2)) 2047).bind fun r134=>
   some (r134.1,()))
   ((q27 F (y0 .i64 ((y0 .i64 (8*(y0 .i64 (a0+(y0 .i64 (a2*a1))))))+4)) 2047).bind fun r139=>
   some (r139.1,())))
def z1q(rec:Bool→LI→Int→Int→LI→LI→LI→Int→Option (LI×LI×Unit))(x0:Bool)(x1:LI)(x2:Int)(x3:Int)(x4:LI)(x5:LI)(x6:LI)(x7:Int):Option (LI×LI×Unit):=
 cond (decide (x7<16))
  (let b167:Bool:=((decide (0≤x7))&&(decide (x7<16)))
  cond b167
   (let v168:Int:=(y7 x6 (y6 x7) 0)
   cond ((decide (0≤v168))&&(decide (v168<8)))
    ((zil F x2 x3 (y7 x5 (y6 v168) 0) x0).bind fun r172=>
    cond b167
     (rec x0 x1 x2 x3 (yw x4 (y6 x7) r172.1) x5 x6 (y0 .i64 (x7+1)))
      none)
     none)
    none)
  (some (x1,x4,()))
def qjo(F:Nat):Nat→Bool→LI→Int→Int→LI→LI→LI→Int→Option (LI×LI×Unit)
 |0,_,_,_,_,_,_,_,_=>none
 |k+1,x0,x1,x2,x3,x4,x5,x6,x7=>z1q F (qjo F k) x0 x1 x2 x3 x4 x5 x6 x7
def z8i(a0:LI)(a1:Bool):Option (LI×Int×Unit):=
 (j14 F a0).bind fun r141=>
 let l142:LI:=(if((0=0)∧(16=16))then r141.2.2.2.1 else(((y8 0 q9o)++r141.2.2.2.1)++(y9 16 q9o)))
 cond (r141.2.2.2.2.1 !=0)
  (let l144:LI:=(if((0=0)∧(16=16))then l142 else(y8 16 (y9 0 l142)))
  let l145:LI:=(if((0=0)∧(16=16))then l144 else(((y8 0 q9o)++l144)++(y9 16 q9o)))
  some ((if((0=0)∧(16=16))then l145 else(y8 16 (y9 0 l145))),r141.2.2.2.2.1,()))
  ((j16 F r141.2.2.1).bind fun r147=>
  (qjo F F a1 q9o r141.1 r141.2.1 l142 (if((0=0)∧(8=8))then r147.1 else(((y8 0 qpl)++r147.1)++(y9 8 qpl))) (if((0=0)∧(16=16))then l142 else(y8 16 (y9 0 l142))) 0).bind fun r176=>
  let l177:LI:=(if((0=0)∧(16=16))then r176.2.1 else(y8 16 (y9 0 r176.2.1)))
  let l178:LI:=(if((0=0)∧(16=16))then l177 else(((y8 0 r176.1)++l177)++(y9 16 r176.1)))
  some ((if((0=0)∧(16=16))then l178 else(y8 16 (y9 0 l178))),0,()))
def q9p(F:Nat)(a0:Int):Option ((Int×Int×Bool×Unit)×Int×Unit):=
 cond (a0==1)
  (some ((8,7,false,()),0,()))
  (cond (a0==7)
   (some ((8,7,false,()),0,()))
   (cond (a0==8)
    (some ((8,7,false,()),0,()))
    (cond (a0==2)
     (some ((16,15,false,()),0,()))
     (cond (a0==3)
      (some ((16,15,false,()),0,()))
      (cond (a0==6)
       (some ((16,15,false,()),0,()))
       (cond (a0==10)
        (some ((16,15,false,()),0,()))
        (cond (a0==9)
         (some ((8,15,false,()),0,()))
         (cond (a0==4)
          (some ((8,1,(a0==11),()),0,()))
          (let b12:Bool:=(a0==11)
          cond b12
           (some ((8,1,b12,()),0,()))
           (cond (a0==5)
            (some ((16,3,(a0==12),()),0,()))
            (let b15:Bool:=(a0==12)
            cond b15
             (some ((16,3,b15,()),0,()))
             (some ((0,0,false,()),5,())))))))))))))
def q2z:LI:=[0,0,0,0,0,0,0,0,0,0,0,0,0,0,0,0,0,0,0,0,0,0,0,0,0,0,0,0,0,0,0,0,0,0,0,0,0,0,0,0,0,0,0,0,0,0,0,0,0,0,0,0,0,0,0,0,0,0,0,0,0,0,0,0]
def qcq(F:Nat)(a0:LI)(a1:Int):Option (LI×Unit):=
 some (a0,())
def qdw(F:Nat)(rec:Int→LI→LI→LI→Int→Option (LI×LI×Unit))(x0:Int)(x1:LI)(x2:LI)(x3:LI)(x4:Int):Option (LI×LI×Unit):=
 cond (decide (x4<16))
  (let b344:Bool:=((decide (0≤x4))&&(decide (x4<16)))
  cond b344
   (cond b344
    (cond ((decide (0≤x0))&&(decide (x0<4)))
     (rec x0 (yw x1 (((y6 x4)*4)+(y6 x0)) (y7 x3 (y6 x4) 0)) x2 x3 (y0 .i64 (x4+1)))
      none)
     none)
    none)
  (some (x1,x2,()))
def q8l(F:Nat):Nat→Int→LI→LI→LI→Int→Option (LI×LI×Unit)
 |0,_,_,_,_,_=>none
 |k+1,x0,x1,x2,x3,x4=>qdw F (q8l F k) x0 x1 x2 x3 x4
def qfi(a0:LI)(a1:Int)(a2:LI)(a3:Int):Option (LI×Unit):=
 (q8l F F a1 a0 q2z a2 0).bind fun r351=>
 some (r351.1,())
def qi3(a0:LI)(a1:Int)(a2:Int)(a3:Bool):Option (LI×Int×Unit):=
 cond a3
  ((z8i F a0 true).bind fun r598=>
  some (r598.1,r598.2.1,()))
  ((qj5 F a0).bind fun r599=>
  some (r599.1,r599.2.1,()))
def q20(a0:LI)(a1:Int)(a2:LI)(a3:Int)(a4:Int)(a5:Bool):Option (LI×Unit):=
 (qi3 F a2 a3 a4 a5).bind fun r603=>
 (qfi F a0 a1 r603.1 r603.2.1).bind fun r604=>
 some (r604.1,())
def qtx(F:Nat)(rec:Bool→LI→LI→Int→Option (LI×LI×Unit))(x0:Bool)(x1:LI)(x2:LI)(x3:Int):Option (LI×LI×Unit):=
 cond (decide (x3<16))
  (let b618:Bool:=((decide (0≤x3))&&(decide (x3<16)))
  cond b618
   (let n620:Nat:=(3+((y6 x3)*4))
   let l621:LI:=(yw x2 n620 255)
   cond x0
    (cond b618
     (rec x0 x1 (yw l621 n620 2047) (y0 .i64 (x3+1)))
      none)
    (rec x0 x1 l621 (y0 .i64 (x3+1))))
    none)
  (some (x1,x2,()))
def qdx(F:Nat):Nat→Bool→LI→LI→Int→Option (LI×LI×Unit)
 |0,_,_,_,_=>none
 |k+1,x0,x1,x2,x3=>qtx F (qdx F k) x0 x1 x2 x3
def q9q(a0:Bool):Option (LI×Unit):=
 (qdx F F a0 q2z q2z 0).bind fun r625=>
 some (r625.2.1,())
def q15(a0:Int)(a1:(Int×Int×Bool×Unit))(a2:LI)(a3:LI)(a4:LI):Option (LI×Int×Unit):=
 cond (a0==2)
  ((qmk F a2).bind fun r238=>
  (q78 F a3 true).bind fun r329=>
  (qcq F r329.1 r329.2.1).bind fun r330=>
  (qfi F r330.1 3 r238.1 r238.2.1).bind fun r352=>
  some (r352.1,r238.2.1,()))
  (cond (a0==3)
   ((q78 F a3 true).bind fun r354=>
   (qcq F r354.1 r354.2.1).bind fun r355=>
   (q20 F r355.1 3 a2 a1.1 a1.2.1 a1.2.2.1).bind fun r605=>
   some (r605.1,0,()))
   (cond (a0==4)
    ((q9q F a1.2.2.1).bind fun r626=>
    (q20 F r626.1 0 a2 a1.1 a1.2.1 a1.2.2.1).bind fun r627=>
    some (r627.1,0,()))
    (cond (a0==11)
     ((q9q F a1.2.2.1).bind fun r629=>
     (q20 F r629.1 0 a2 a1.1 a1.2.1 a1.2.2.1).bind fun r630=>
     some (r630.1,0,()))
     (cond (a0==5)
      ((q9q F a1.2.2.1).bind fun r632=>
      (q20 F r632.1 0 a2 a1.1 a1.2.1 a1.2.2.1).bind fun r633=>
      (q20 F r633.1 1 a3 a1.1 a1.2.1 a1.2.2.1).bind fun r634=>
      some (r634.1,0,()))
      (cond (a0==12)
       ((q9q F a1.2.2.1).bind fun r636=>
       (q20 F r636.1 0 a2 a1.1 a1.2.1 a1.2.2.1).bind fun r637=>
       (q20 F r637.1 1 a3 a1.1 a1.2.1 a1.2.2.1).bind fun r638=>
       some (r638.1,0,()))
       (cond (a0==6)
        ((qbd F a4).bind fun r2195=>
        some (r2195.1,r2195.2.1,()))
        (cond (a0==7)
         ((z59 F a4).bind fun r2588=>
         some (r2588.1,r2588.2.1,()))
         (cond (a0==8)
          ((qjl F a4 (a0==9)).bind fun r3387=>
          some (r3387.1,r3387.2.1,()))
          (let b3388:Bool:=(a0==9)
          cond b3388
           ((qjl F a4 b3388).bind fun r3389=>
           some (r3389.1,r3389.2.1,()))
           (cond (a0==10)
            ((z8i F a2 false).bind fun r3391=>
            (qjl F a3 false).bind fun r3392=>
            (qcq F r3392.1 r3392.2.1).bind fun r3393=>
            (qfi F r3393.1 3 r3391.1 r3391.2.1).bind fun r3394=>
            some (r3394.1,r3391.2.1,()))
            ((q78 F a4 false).bind fun r3395=>
            some (r3395.1,r3395.2.1,()))))))))))))
def qjp(a0:Int)(a1:LI):Option (LI×Int×Unit):=
 (q9p F a0).bind fun r20=>
 cond (r20.2.1 !=0)
  (some (q2z,r20.2.1,()))
  (let v22:Int:=(((ya a1):Nat):Int)
  cond (v22 !=r20.1.1)
   (some (q2z,1,()))
   (cond (decide (8≤(ya a1)))
    (let v25:Int:=(y0 .i64 (v22-8))
    cond ((decide (0≤v25))&&((decide ((y6 v25)≤(ya a1)))&&true))
     ((q15 F a0 (r20.1.1,r20.1.2.1,r20.1.2.2.1,()) (y8 8 a1) (y8 (psub (ya a1) (y6 v25)) (y9 (y6 v25) a1)) a1).bind fun r3398=>
     some (r3398.1,r3398.2.1,()))
      none)
     none))
def qc5(F:Nat)(rec:LI→LI→Int→Int→LI→Int→Option (LI×LI×Int×Unit))(x0:LI)(x1:LI)(x2:Int)(x3:Int)(x4:LI)(x5:Int):Option (LI×LI×Int×Unit):=
 cond (decide (x5<4))
  (let b3503:Bool:=((decide (0≤x5))&&(decide (x5<4)))
  cond b3503
   (let v3504:Int:=(y7 x4 (y6 x5) 0)
   cond ((decide (0≤x2))&&(decide (x2<16)))
    (cond b3503
     (rec (yw x0 (((y6 x2)*4)+(y6 x5)) (y0 .i64 ((y0 .i64 (8*v3504))+(y0 .i64 (yv v3504 32))))) x1 x2 x3 x4 (y0 .i64 (x5+1)))
      none)
     none)
    none)
  (some (x0,x1,x3,()))
def q72(F:Nat):Nat→LI→LI→Int→Int→LI→Int→Option (LI×LI×Int×Unit)
 |0,_,_,_,_,_,_=>none
 |k+1,x0,x1,x2,x3,x4,x5=>qc5 F (q72 F k) x0 x1 x2 x3 x4 x5
def qc6(rec:LI→LI→Int→Option (LI×LI×Unit))(x0:LI)(x1:LI)(x2:Int):Option (LI×LI×Unit):=
 cond (decide (x2<16))
  (cond ((decide (0≤x2))&&(decide (x2<16)))
   ((q72 F F x0 x1 x2 x2 (y8 4 (y9 ((y6 x2)*4) x0)) 0).bind fun r3513=>
   rec r3513.1 r3513.2.1 (y0 .i64 (r3513.2.2.1+1)))
    none)
  (some (x0,x1,()))
def q73(F:Nat):Nat→LI→LI→Int→Option (LI×LI×Unit)
 |0,_,_,_=>none
 |k+1,x0,x1,x2=>qc6 F (q73 F k) x0 x1 x2
def qhi(a0:Int)(a1:LI):Option (LI×Unit):=
 (q9p F a0).bind fun r3432=>
 cond (!r3432.1.2.2.1)
  (some (a1,()))
  ((q73 F F a1 q2z 0).bind fun r3515=>
  some (r3515.1,()))
def qdy(rec:Int→LI→LI→Int→Int→Int→Int→Option (Int×LI×LI×Int×Int×Unit))(x0:Int)(x1:LI)(x2:LI)(x3:Int)(x4:Int)(x5:Int)(x6:Int):Option (Int×LI×LI×Int×Int×Unit):=
 cond (decide (x6<4))
  (cond (decide (0≤x6))
   (cond ((iand .i64 (ishr .i64 x0 x6) 1)==1)
    (let b3612:Bool:=((decide (0≤x4))&&(decide (x4<16)))
    cond b3612
     (let b3614:Bool:=((decide (0≤x6))&&(decide (x6<4)))
     cond b3614
      (let n3615:Nat:=(((y6 x4)*4)+(y6 x6))
      cond b3612
       (cond b3614
        ((q4m F (y0 .i64 ((y7 x1 n3615 0)-(y7 x2 n3615 0)))).bind fun r3619=>
        rec x0 x1 x2 (y0 .i64 (x3+r3619.1)) x4 x5 (y0 .i64 (x6+1)))
         none)
        none)
       none)
      none)
    (rec x0 x1 x2 x3 x4 x5 (y0 .i64 (x6+1))))
    none)
  (some (x0,x1,x2,x3,x5,()))
def q8m(F:Nat):Nat→Int→LI→LI→Int→Int→Int→Int→Option (Int×LI×LI×Int×Int×Unit)
 |0,_,_,_,_,_,_,_=>none
 |k+1,x0,x1,x2,x3,x4,x5,x6=>qdy F (q8m F k) x0 x1 x2 x3 x4 x5 x6
def qdz(rec:Int→LI→LI→Int→Int→Option (Int×Unit))(x0:Int)(x1:LI)(x2:LI)(x3:Int)(x4:Int):Option (Int×Unit):=
 cond (decide (x4<16))
  ((q8m F F x0 x1 x2 x3 x4 x4 0).bind fun r3623=>
  rec r3623.1 r3623.2.1 r3623.2.2.1 r3623.2.2.2.1 (y0 .i64 (r3623.2.2.2.2.1+1)))
  (some (x3,()))
def q8n(F:Nat):Nat→Int→LI→LI→Int→Int→Option (Int×Unit)
 |0,_,_,_,_,_=>none
 |k+1,x0,x1,x2,x3,x4=>qdz F (q8n F k) x0 x1 x2 x3 x4
def qs3(a0:LI)(a1:LI)(a2:Int):Option (Int×Unit):=
 (q8n F F a2 a0 a1 0 0).bind fun r3625=>
 some (r3625.1,())
def q9r(a0:Int)(a1:LI)(a2:LI):Option (Int×Int×Unit):=
 (qjp F a0 a1).bind fun r3429=>
 cond (r3429.2.1 !=0)
  (some (0,r3429.2.1,()))
  ((q9p F a0).bind fun r3431=>
  (qhi F a0 a2).bind fun r3516=>
  (qs3 F r3516.1 r3429.1 r3431.1.2.1).bind fun r3626=>
  some (r3626.1,0,()))
def q48(F:Nat)(rec:LI→Int→Int→Option (Unit⊕(LI×Int×Unit)))(x0:LI)(x1:Int)(x2:Int):Option (Unit⊕(LI×Int×Unit)):=
 cond (decide (x2<4))
  (let b3697:Bool:=((decide (0≤x1))&&(decide (x1<16)))
  cond b3697
   (let b3699:Bool:=((decide (0≤x2))&&(decide (x2<4)))
   cond b3699
    (let v3701:Int:=(y7 x0 (((y6 x1)*4)+(y6 x2)) 0)
    cond (decide (v3701<0))
     (some (.inl ()))
     (cond b3697
      (cond b3699
       (cond (decide (255<v3701))
        (some (.inl ()))
        (rec x0 x1 (y0 .i64 (x2+1))))
        none)
       none))
     none)
    none)
  (some (.inr (x0,x1,())))
def q1f(F:Nat):Nat→LI→Int→Int→Option (Unit⊕(LI×Int×Unit))
 |0,_,_,_=>none
 |k+1,x0,x1,x2=>q48 F (q1f F k) x0 x1 x2
def q49(rec:LI→Int→Option (Unit⊕Unit))(x0:LI)(x1:Int):Option (Unit⊕Unit):=
 cond (decide (x1<16))
  ((q1f F F x0 x1 0).bind fun r3705=>match r3705 with
   | .inl r3705=>(some (.inl ()))
   | .inr r3705=>(rec r3705.1 (y0 .i64 (r3705.2.1+1))))
  (some (.inr ()))
def q1g(F:Nat):Nat→LI→Int→Option (Unit⊕Unit)
 |0,_,_=>none
 |k+1,x0,x1=>q49 F (q1g F k) x0 x1
def q4r(a0:LI):Option (Bool×Unit):=
 (q1g F F a0 0).bind fun r3707=>match r3707 with
  | .inl r3707=>(some (false,()))
  | .inr r3707=>(some (true,()))
def qmy(F:Nat)(a0:Int):Option ((Int×Int×Bool×Unit)×Int×Unit):=
 cond (decide (a0<1))
  (some ((0,0,false,()),5,()))
  (cond (decide (12<a0))
   (some ((0,0,false,()),5,()))
   (cond (a0==0)
    (some ((0,0,false,()),0,()))
    (cond (a0==1)
     (some ((8,7,false,()),0,()))
     (cond (a0==2)
      (some ((16,15,false,()),0,()))
      (cond (a0==3)
       (some ((16,15,false,()),0,()))
       (cond (a0==4)
        (some ((8,1,false,()),0,()))
        (cond (a0==5)
         (some ((16,3,false,()),0,()))
         (cond (a0==6)
          (some ((16,15,false,()),0,()))
          (cond (a0==7)
           (some ((8,7,false,()),0,()))
           (cond (a0==8)
            (some ((8,7,false,()),0,()))
            (cond (a0==9)
             (some ((8,15,false,()),0,()))
             (cond (a0==10)
              (some ((16,15,false,()),0,()))
              (cond (a0==11)
               (some ((8,1,true,()),0,()))
               (cond (a0==12)
                (some ((16,3,true,()),0,()))
                 none))))))))))))))
def q66:LI:=[0,0,0,0,0,0,0,0,0,0,0,0,0,0,0,0,0,0,0,0,0,0,0,0,0,0,0,0,0,0,0,0,0,0,0,0,0,0,0,0,0,0,0,0,0,0,0,0,0,0,0,0,0,0,0,0,0,0,0,0,0,0,0,0]
def q8o(F:Nat)(rec:LI→Int→LI→Int→Option (Unit⊕(LI×Int×Unit)))(x0:LI)(x1:Int)(x2:LI)(x3:Int):Option (Unit⊕(LI×Int×Unit)):=
 cond (decide (x3<4))
  (cond ((decide (0≤x3))&&(decide (x3<4)))
   (let v75:Int:=(y7 x2 (y6 x3) 0)
   cond (decide (v75<0))
    (some (.inl ()))
    (cond (decide (255<v75))
     (some (.inl ()))
     (rec x0 x1 x2 (y0 .i64 (x3+1)))))
    none)
  (some (.inr (x0,x1,())))
def q3h(F:Nat):Nat→LI→Int→LI→Int→Option (Unit⊕(LI×Int×Unit))
 |0,_,_,_,_=>none
 |k+1,x0,x1,x2,x3=>q8o F (q3h F k) x0 x1 x2 x3
def q8p(rec:LI→Int→Option (Unit⊕Unit))(x0:LI)(x1:Int):Option (Unit⊕Unit):=
 cond (decide (x1<16))
  (cond ((decide (0≤x1))&&(decide (x1<16)))
   ((q3h F F x0 x1 (y8 4 (y9 ((y6 x1)*4) x0)) 0).bind fun r79=>match r79 with
    | .inl r79=>(some (.inl ()))
    | .inr r79=>(rec r79.1 (y0 .i64 (r79.2.1+1))))
    none)
  (some (.inr ()))
def q3i(F:Nat):Nat→LI→Int→Option (Unit⊕Unit)
 |0,_,_=>none
 |k+1,x0,x1=>q8p F (q3i F k) x0 x1
def q8q(a0:LI):Option (Bool×Unit):=
 (q3i F F a0 0).bind fun r81=>match r81 with
  | .inl r81=>(some (false,()))
  | .inr r81=>(some (true,()))
def qxb(a0:Int)(a1:Int):Option (Int×Unit):=
 (q0m F a0 a1).bind fun r229=>
 some (r229.1,())
def q4y(rec:Int→LI→Int→LI→Int→Int→Option (Int×Unit))(x0:Int)(x1:LI)(x2:Int)(x3:LI)(x4:Int)(x5:Int):Option (Int×Unit):=
 cond (decide (x5<x4))
  (cond ((decide (0≤x5))&&(decide (x5<(((ya x3):Nat):Int))))
   (cond ((decide (0≤x0))&&(decide (x0<(((ya x1):Nat):Int))))
    ((q4m F (y0 .i64 ((y7 x3 (y6 x5) 0)-(y7 x1 (y6 x0) 0)))).bind fun r338=>
    rec x0 x1 (y0 .i64 (x2+r338.1)) x3 x4 (y0 .i64 (x5+1)))
     none)
    none)
  (some (x2,()))
def q4b(F:Nat):Nat→Int→LI→Int→LI→Int→Int→Option (Int×Unit)
 |0,_,_,_,_,_,_=>none
 |k+1,x0,x1,x2,x3,x4,x5=>q4y F (q4b F k) x0 x1 x2 x3 x4 x5
def qjq(a0:Int)(a1:LI)(a2:LI):Option (Int×Unit):=
 (q4b F F a0 a2 0 a1 (((ya a1):Nat):Int) 0).bind fun r341=>
 some (r341.1,())
def q13(rec:LI→LI→Int→Int→Int→Int→Option (Int×Unit))(x0:LI)(x1:LI)(x2:Int)(x3:Int)(x4:Int)(x5:Int):Option (Int×Unit):=
 cond (decide (x5<x4))
  ((qjq F x5 x0 x1).bind fun r398=>
  cond (x5==0)
   (rec x0 x1 x5 r398.1 x4 (y0 .i64 (x5+1)))
   (cond (decide (r398.1<x3))
    (rec x0 x1 x5 r398.1 x4 (y0 .i64 (x5+1)))
    (rec x0 x1 x2 x3 x4 (y0 .i64 (x5+1)))))
  (some (x2,()))
def q0x(F:Nat):Nat→LI→LI→Int→Int→Int→Int→Option (Int×Unit)
 |0,_,_,_,_,_,_=>none
 |k+1,x0,x1,x2,x3,x4,x5=>q13 F (q0x F k) x0 x1 x2 x3 x4 x5
def qcg(a0:Int)(a1:LI)(a2:LI):Option (Int×Unit):=
 (q0x F F a1 a2 0 0 a0 0).bind fun r404=>
 some (r404.1,())
def qcr(a0:LI)(a1:LI):Option (Int×Unit):=
 (qcg F (((ya a0):Nat):Int) a1 a0).bind fun r405=>
 some (r405.1,())
def q67(F:Nat)(rec:Int→Int→Int→LI→LI→Int→Option (Int×Int×LI×Unit))(x0:Int)(x1:Int)(x2:Int)(x3:LI)(x4:LI)(x5:Int):Option (Int×Int×LI×Unit):=
 cond (decide (x5<16))
  (cond ((decide (0≤x5))&&(decide (x5<16)))
   (let l426:LI:=(y8 4 (y9 ((y6 x5)*4) x4))
   cond ((decide (0≤x0))&&(decide (x0<4)))
    (let v429:Int:=(y7 l426 (y6 x0) 0)
    cond ((decide (((ya x3)+1)≤1099511627776))&&true)
     (rec x0 x1 x2 (x3++[v429]) x4 (y0 .i64 (x5+1)))
      none)
     none)
    none)
  (some (x1,x2,x3,()))
def q2r(F:Nat):Nat→Int→Int→Int→LI→LI→Int→Option (Int×Int×LI×Unit)
 |0,_,_,_,_,_,_=>none
 |k+1,x0,x1,x2,x3,x4,x5=>q67 F (q2r F k) x0 x1 x2 x3 x4 x5
def q2i(rec:Int→LI→LI→Int→Int→Option (LI×LI×Unit))(x0:Int)(x1:LI)(x2:LI)(x3:Int)(x4:Int):Option (LI×LI×Unit):=
 cond (decide (x4<x3))
  ((qxb F x4 x0).bind fun r451=>
  cond ((decide (((ya x2)+1)≤1099511627776))&&true)
   (rec x0 x1 (x2++[r451.1]) x3 (y0 .i64 (x4+1)))
    none)
  (some (x1,x2,()))
def q28(F:Nat):Nat→Int→LI→LI→Int→Int→Option (LI×LI×Unit)
 |0,_,_,_,_,_=>none
 |k+1,x0,x1,x2,x3,x4=>q2i F (q28 F k) x0 x1 x2 x3 x4
def qap(a0:LI)(a1:Int)(a2:Int)(a3:Int):Option (Int×Unit):=
 (q2r F F a1 a2 a3 [] a0 0).bind fun r434=>
 (q28 F F r434.2.1 r434.2.2.1 [] r434.1 0).bind fun r456=>
 (qcr F r456.2.1 r456.1).bind fun r459=>
 some (r459.1,())
def qbe(a0:LI)(a1:Int)(a2:Int):Option (Int×Unit):=
 cond (decide (0≤a2))
  ((qap F a0 a1 (ishl .i64 1 a2) a2).bind fun r460=>
  some (r460.1,()))
   none
def q0a:LI:=[0,0,0,0,0,0,0,0,0,0,0,0,0,0,0,0]
def qc7(F:Nat)(rec:Int→LI→LI→Int→Option (LI×LI×Unit))(x0:Int)(x1:LI)(x2:LI)(x3:Int):Option (LI×LI×Unit):=
 cond (decide (x3<16))
  (cond ((decide (0≤x3))&&(decide (x3<16)))
   (rec x0 x1 (yw x2 (y6 x3) x0) (y0 .i64 (x3+1)))
    none)
  (some (x1,x2,()))
def q5b(F:Nat):Nat→Int→LI→LI→Int→Option (LI×LI×Unit)
 |0,_,_,_,_=>none
 |k+1,x0,x1,x2,x3=>qc7 F (q5b F k) x0 x1 x2 x3
def q68(a0:Int):Option (LI×Unit):=
 (q5b F F a0 q0a q0a 0).bind fun r474=>
 some (r474.2.1,())
def z08(a0:LI):Option (LI×Unit):=
 (qbe F a0 0 5).bind fun r774=>
 (qbe F a0 1 6).bind fun r776=>
 (qbe F a0 2 5).bind fun r779=>
 let v780:Int:=(ior .i64 (ior .i64 (ishl .i64 r774.1 11) (ishl .i64 r776.1 5)) r779.1)
 (q68 F 0).bind fun r781=>
 (q44 F v780 v780 r781.1).bind fun r782=>
 some (r782.1,())
def qs4(F:Nat)(a0:Int):Option (Int×Unit):=
 some (a0,())
def q5k(F:Nat)(rec:Int→Int→LI→LI→Int→Option (Int×LI×Unit))(x0:Int)(x1:Int)(x2:LI)(x3:LI)(x4:Int):Option (Int×LI×Unit):=
 cond (decide (x4<16))
  (cond ((decide (0≤x4))&&(decide (x4<16)))
   (let l862:LI:=(y8 4 (y9 ((y6 x4)*4) x3))
   cond ((decide (0≤x0))&&(decide (x0<4)))
    (let v865:Int:=(y7 l862 (y6 x0) 0)
    cond ((decide (((ya x2)+1)≤1099511627776))&&true)
     (rec x0 x1 (x2++[v865]) x3 (y0 .i64 (x4+1)))
      none)
     none)
    none)
  (some (x1,x2,()))
def q2j(F:Nat):Nat→Int→Int→LI→LI→Int→Option (Int×LI×Unit)
 |0,_,_,_,_,_=>none
 |k+1,x0,x1,x2,x3,x4=>q5k F (q2j F k) x0 x1 x2 x3 x4
def q2b(rec:LI→LI→Int→Int→Option (LI×LI×Unit))(x0:LI)(x1:LI)(x2:Int)(x3:Int):Option (LI×LI×Unit):=
 cond (decide (x3<x2))
  ((qs4 F x3).bind fun r887=>
  cond ((decide (((ya x1)+1)≤1099511627776))&&true)
   (rec x0 (x1++[r887.1]) x2 (y0 .i64 (x3+1)))
    none)
  (some (x0,x1,()))
def q1p(F:Nat):Nat→LI→LI→Int→Int→Option (LI×LI×Unit)
 |0,_,_,_,_=>none
 |k+1,x0,x1,x2,x3=>q2b F (q1p F k) x0 x1 x2 x3
def qe0(a0:LI)(a1:Int)(a2:Int):Option (Int×Unit):=
 (q2j F F a1 a2 [] a0 0).bind fun r870=>
 (q1p F F r870.2.1 [] r870.1 0).bind fun r892=>
 (qcr F r892.2.1 r892.1).bind fun r895=>
 some (r895.1,())
def qpm(a0:LI)(a1:Int):Option (Int×Unit):=
 (qe0 F a0 a1 256).bind fun r896=>
 some (r896.1,())
def qkz(a0:LI)(a1:Int):Option (LI×Unit):=
 (qpm F a0 a1).bind fun r921=>
 (q68 F 0).bind fun r922=>
 (q26 F r921.1 r921.1 r922.1).bind fun r923=>
 some (r923.1,())
def qoc(F:Nat)(a0:Int)(a1:Int):Option (Int×Unit):=
 some ((y0 .i64 ((y0 .i64 (2*a0))+a1)),())
def q4h(F:Nat)(rec:Int→Int→Int→LI→LI→Int→Option (Int×Int×LI×Unit))(x0:Int)(x1:Int)(x2:Int)(x3:LI)(x4:LI)(x5:Int):Option (Int×Int×LI×Unit):=
 cond (decide (x5<16))
  (cond ((decide (0≤x5))&&(decide (x5<16)))
   (let l1020:LI:=(y8 4 (y9 ((y6 x5)*4) x4))
   cond ((decide (0≤x0))&&(decide (x0<4)))
    (let v1023:Int:=(y7 l1020 (y6 x0) 0)
    cond ((decide (((ya x3)+1)≤1099511627776))&&true)
     (rec x0 x1 x2 (x3++[v1023]) x4 (y0 .i64 (x5+1)))
      none)
     none)
    none)
  (some (x1,x2,x3,()))
def q2c(F:Nat):Nat→Int→Int→Int→LI→LI→Int→Option (Int×Int×LI×Unit)
 |0,_,_,_,_,_,_=>none
 |k+1,x0,x1,x2,x3,x4,x5=>q4h F (q2c F k) x0 x1 x2 x3 x4 x5
def q22(rec:Int→LI→LI→Int→Int→Option (LI×LI×Unit))(x0:Int)(x1:LI)(x2:LI)(x3:Int)(x4:Int):Option (LI×LI×Unit):=
 cond (decide (x4<x3))
  ((qoc F x4 x0).bind fun r1045=>
  cond ((decide (((ya x2)+1)≤1099511627776))&&true)
   (rec x0 x1 (x2++[r1045.1]) x3 (y0 .i64 (x4+1)))
    none)
  (some (x1,x2,()))
def q1i(F:Nat):Nat→Int→LI→LI→Int→Int→Option (LI×LI×Unit)
 |0,_,_,_,_,_=>none
 |k+1,x0,x1,x2,x3,x4=>q22 F (q1i F k) x0 x1 x2 x3 x4
def q7n(a0:LI)(a1:Int)(a2:Int)(a3:Int):Option (Int×Unit):=
 (q2c F F a1 a2 a3 [] a0 0).bind fun r1028=>
 (q1i F F r1028.2.1 r1028.2.2.1 [] r1028.1 0).bind fun r1050=>
 (qcr F r1050.2.1 r1050.1).bind fun r1053=>
 some (r1053.1,())
def qe1(rec:LI→Int→LI→Int→Option (Int×LI×Unit))(x0:LI)(x1:Int)(x2:LI)(x3:Int):Option (Int×LI×Unit):=
 cond (decide (x3<4))
  ((q7n F x0 x3 128 x1).bind fun r1243=>
  cond ((decide (0≤x3))&&(decide (x3<4)))
   (rec x0 x1 (yw x2 (y6 x3) r1243.1) (y0 .i64 (x3+1)))
    none)
  (some (x1,x2,()))
def q6i(F:Nat):Nat→LI→Int→LI→Int→Option (Int×LI×Unit)
 |0,_,_,_,_=>none
 |k+1,x0,x1,x2,x3=>qe1 F (q6i F k) x0 x1 x2 x3
def ql0(a0:Int)(a1:LI):Option (LI×Unit):=
 (q6i F F a1 a0 [0,0,0,0] 0).bind fun r1248=>
 (q68 F 0).bind fun r1250=>
 (q52 F (r1248.2.1++r1248.2.1) [r1248.1,r1248.1] r1250.1).bind fun r1251=>
 some (r1251.1,())
def ql1(a0:Int)(a1:LI)(a2:LI)(a3:LI):Option (LI×Unit):=
 (q9r F a0 a2 a1).bind fun r4705=>
 (q9r F a0 a3 a1).bind fun r4706=>
 cond (decide (r4706.1<r4705.1))
  (some (a3,()))
  (some (a2,()))
def zup(a0:LI):Option (LI×Unit):=
 (ql0 F 0 a0).bind fun r4710=>
 (ql0 F 1 a0).bind fun r4712=>
 (ql1 F 6 a0 r4710.1 r4712.1).bind fun r4714=>
 some (r4714.1,())
def z1r(a0:Int):Option (Int×Unit):=
 (q0m F a0 5).bind fun r4750=>
 (q27 F (y0 .i64 (r4750.1+2)) 255).bind fun r4752=>
 some (r4752.1,())
def qe2(F:Nat)(rec:Int→Int→LI→LI→Int→Option (Int×LI×Unit))(x0:Int)(x1:Int)(x2:LI)(x3:LI)(x4:Int):Option (Int×LI×Unit):=
 cond (decide (x4<16))
  (cond ((decide (0≤x4))&&(decide (x4<16)))
   (let l4794:LI:=(y8 4 (y9 ((y6 x4)*4) x3))
   cond ((decide (0≤x0))&&(decide (x0<4)))
    (let v4797:Int:=(y7 l4794 (y6 x0) 0)
    cond ((decide (((ya x2)+1)≤1099511627776))&&true)
     (rec x0 x1 (x2++[v4797]) x3 (y0 .i64 (x4+1)))
      none)
     none)
    none)
  (some (x1,x2,()))
def q5l(F:Nat):Nat→Int→Int→LI→LI→Int→Option (Int×LI×Unit)
 |0,_,_,_,_,_=>none
 |k+1,x0,x1,x2,x3,x4=>qe2 F (q5l F k) x0 x1 x2 x3 x4
def qe3(rec:LI→LI→Int→Int→Option (LI×LI×Unit))(x0:LI)(x1:LI)(x2:Int)(x3:Int):Option (LI×LI×Unit):=
 cond (decide (x3<x2))
  ((z1r F x3).bind fun r4819=>
  cond ((decide (((ya x1)+1)≤1099511627776))&&true)
   (rec x0 (x1++[r4819.1]) x2 (y0 .i64 (x3+1)))
    none)
  (some (x0,x1,()))
def q5m(F:Nat):Nat→LI→LI→Int→Int→Option (LI×LI×Unit)
 |0,_,_,_,_=>none
 |k+1,x0,x1,x2,x3=>qe3 F (q5m F k) x0 x1 x2 x3
def ql2(a0:LI)(a1:Int)(a2:Int):Option (Int×Unit):=
 (q5l F F a1 a2 [] a0 0).bind fun r4802=>
 (q5m F F r4802.2.1 [] r4802.1 0).bind fun r4824=>
 (qcr F r4824.2.1 r4824.1).bind fun r4827=>
 some (r4827.1,())
def qxc(rec:LI→LI→LI→LI→LI→Int→Option (LI×LI×LI×LI×Unit))(x0:LI)(x1:LI)(x2:LI)(x3:LI)(x4:LI)(x5:Int):Option (LI×LI×LI×LI×Unit):=
 cond (decide (x5<3))
  ((ql2 F x0 x5 32).bind fun r5359=>
  cond ((decide (0≤x5))&&(decide (x5<3)))
   (rec x0 (yw x1 (y6 x5) r5359.1) x2 x3 x4 (y0 .i64 (x5+1)))
    none)
  (some (x1,x2,x3,x4,()))
def qgk(F:Nat):Nat→LI→LI→LI→LI→LI→Int→Option (LI×LI×LI×LI×Unit)
 |0,_,_,_,_,_,_=>none
 |k+1,x0,x1,x2,x3,x4,x5=>qxc F (qgk F k) x0 x1 x2 x3 x4 x5
def zim(a0:LI):Option (LI×Unit):=
 (qgk F F a0 [0,0,0] [0,0,0] [0,0] q0a 0).bind fun r5364=>
 (zif F (true,false,r5364.1,r5364.2.1,r5364.2.2.1,r5364.2.2.2.1,())).bind fun r5365=>
 some (r5365.1,())
def qs5(a0:LI):Option (LI×Unit):=
 (qbe F a0 0 6).bind fun r5758=>
 (qbe F a0 1 7).bind fun r5759=>
 (qbe F a0 2 6).bind fun r5760=>
 (ztb F [r5758.1,r5759.1,r5760.1] [r5758.1,r5759.1,r5760.1] [r5758.1,r5759.1,r5760.1]).bind fun r5761=>
 some (r5761.1,())
def ql3:LI:=[0,0,0,0,255,255,0,0]
def z5j(a0:Int):Option (Int×Unit):=
 (zil F a0 1 0 true).bind fun r5962=>
 some (r5962.1,())
def qf6(F:Nat)(rec:Int→Int→LI→LI→Int→Option (Int×LI×Unit))(x0:Int)(x1:Int)(x2:LI)(x3:LI)(x4:Int):Option (Int×LI×Unit):=
 cond (decide (x4<16))
  (cond ((decide (0≤x4))&&(decide (x4<16)))
   (let l6004:LI:=(y8 4 (y9 ((y6 x4)*4) x3))
   cond ((decide (0≤x0))&&(decide (x0<4)))
    (let v6007:Int:=(y7 l6004 (y6 x0) 0)
    cond ((decide (((ya x2)+1)≤1099511627776))&&true)
     (rec x0 x1 (x2++[v6007]) x3 (y0 .i64 (x4+1)))
      none)
     none)
    none)
  (some (x1,x2,()))
def q69(F:Nat):Nat→Int→Int→LI→LI→Int→Option (Int×LI×Unit)
 |0,_,_,_,_,_=>none
 |k+1,x0,x1,x2,x3,x4=>qf6 F (q69 F k) x0 x1 x2 x3 x4
def qf7(rec:LI→LI→Int→Int→Option (LI×LI×Unit))(x0:LI)(x1:LI)(x2:Int)(x3:Int):Option (LI×LI×Unit):=
 cond (decide (x3<x2))
  ((z5j F x3).bind fun r6029=>
  cond ((decide (((ya x1)+1)≤1099511627776))&&true)
   (rec x0 (x1++[r6029.1]) x2 (y0 .i64 (x3+1)))
    none)
  (some (x0,x1,()))
def q6a(F:Nat):Nat→LI→LI→Int→Int→Option (LI×LI×Unit)
 |0,_,_,_,_=>none
 |k+1,x0,x1,x2,x3=>qf7 F (q6a F k) x0 x1 x2 x3
def qmz(a0:LI)(a1:Int)(a2:Int):Option (Int×Unit):=
 (q69 F F a1 a2 [] a0 0).bind fun r6012=>
 (q6a F F r6012.2.1 [] r6012.1 0).bind fun r6034=>
 (qcr F r6034.2.1 r6034.1).bind fun r6037=>
 some (r6037.1,())
def z09(a0:LI)(a1:Int):Option (LI×Unit):=
 (qmz F a0 a1 256).bind fun r6042=>
 (q68 F 4).bind fun r6043=>
 (zuo F r6042.1 1 13 r6043.1).bind fun r6044=>
 some (r6044.1,())
def q2s(a0:Int)(a1:LI):Option (LI×Unit):=
 let b6058:Bool:=(a0==2)
 cond b6058
  ((qbe F a1 3 4).bind fun r6059=>
  (q68 F r6059.1).bind fun r6060=>
  (q1v F r6060.1).bind fun r6061=>
  let n6062:Nat:=(ya r6061.1)
  (z08 F a1).bind fun r6063=>
  let n6064:Nat:=(ya r6063.1)
  cond ((decide ((n6062+n6064)≤1099511627776))&&true)
   (some ((r6061.1++r6063.1),()))
    none)
  (let b6068:Bool:=(a0==3)
  cond b6068
   ((qkz F a1 3).bind fun r6069=>
   let n6070:Nat:=(ya r6069.1)
   (z08 F a1).bind fun r6071=>
   let n6072:Nat:=(ya r6071.1)
   cond ((decide ((n6070+n6072)≤1099511627776))&&true)
    (some ((r6069.1++r6071.1),()))
     none)
   (let b6076:Bool:=(a0==4)
   cond b6076
    ((qkz F a1 0).bind fun r6077=>
    some (r6077.1,()))
    (let b6079:Bool:=(a0==5)
    cond b6079
     ((qkz F a1 0).bind fun r6080=>
     let n6081:Nat:=(ya r6080.1)
     (qkz F a1 1).bind fun r6082=>
     let n6083:Nat:=(ya r6082.1)
     cond ((decide ((n6081+n6083)≤1099511627776))&&true)
      (some ((r6080.1++r6082.1),()))
       none)
     (let b6087:Bool:=(a0==6)
     cond b6087
      ((zup F a1).bind fun r6088=>
      some (r6088.1,()))
      (let b6090:Bool:=(a0==7)
      cond b6090
       ((zim F a1).bind fun r6091=>
       some (r6091.1,()))
       (let b6093:Bool:=(a0==8)
       cond b6093
        ((qs5 F a1).bind fun r6094=>
        some (r6094.1,()))
        (let b6096:Bool:=(a0==9)
        cond b6096
         ((qs5 F a1).bind fun r6097=>
         (ql1 F a0 a1 r6097.1 ql3).bind fun r6099=>
         some (r6099.1,()))
         (let b6101:Bool:=(a0==10)
         cond b6101
          ((qpm F a1 3).bind fun r6102=>
          (q68 F 0).bind fun r6103=>
          (zuo F r6102.1 0 0 r6103.1).bind fun r6104=>
          let n6105:Nat:=(ya r6104.1)
          (qs5 F a1).bind fun r6106=>
          let n6107:Nat:=(ya r6106.1)
          cond ((decide ((n6105+n6107)≤1099511627776))&&true)
           (some ((r6104.1++r6106.1),()))
            none)
          (let b6111:Bool:=(a0==11)
          cond b6111
           ((z09 F a1 0).bind fun r6112=>
           some (r6112.1,()))
           (let b6114:Bool:=(a0==12)
           cond b6114
            ((z09 F a1 0).bind fun r6115=>
            let n6116:Nat:=(ya r6115.1)
            (z09 F a1 1).bind fun r6117=>
            let n6118:Nat:=(ya r6117.1)
            cond ((decide ((n6116+n6118)≤1099511627776))&&true)
             (some ((r6115.1++r6117.1),()))
              none)
            ((z08 F a1).bind fun r6122=>
            some (r6122.1,()))))))))))))
def qaq(a0:Int)(a1:LI):Option (LI×Int×Unit):=
 (q9p F a0).bind fun r6126=>
 cond (r6126.2.1 !=0)
  (some ([],r6126.2.1,()))
  ((q8q F a1).bind fun r6128=>
  cond (!r6128.1)
   (some ([],1,()))
   ((qhi F a0 a1).bind fun r6130=>
   (q2s F a0 r6130.1).bind fun r6131=>
   some (r6131.1,0,())))
def qe4(F:Nat)(rec:LI→LI→Int→Int→Bool→Int→Int→Bool→Option (LI×LI×Int×Int×Bool×Int×Bool×Unit))(x0:LI)(x1:LI)(x2:Int)(x3:Int)(x4:Bool)(x5:Int)(x6:Int)(x7:Bool):Option (LI×LI×Int×Int×Bool×Int×Bool×Unit):=
 cond (decide (x6<4))
  (let b6381:Bool:=((decide (0≤x5))&&(decide (x5<16)))
  cond b6381
   (let b6383:Bool:=((decide (0≤x6))&&(decide (x6<4)))
   cond b6383
    (let n6384:Nat:=(((y6 x5)*4)+(y6 x6))
    let v6385:Int:=(y7 x0 n6384 0)
    cond b6381
     (cond b6383
      (cond b6381
       (cond b6383
        (rec (yw x0 n6384 (y0 .i64 ((y0 .i64 (8*v6385))+(y0 .i64 (yv v6385 32))))) x1 x2 x3 x4 x5 (y0 .i64 (x6+1)) x7)
         none)
        none)
       none)
      none)
     none)
    none)
  (some (x0,x1,x2,x3,x4,x5,x7,()))
def q8r(F:Nat):Nat→LI→LI→Int→Int→Bool→Int→Int→Bool→Option (LI×LI×Int×Int×Bool×Int×Bool×Unit)
 |0,_,_,_,_,_,_,_,_=>none
 |k+1,x0,x1,x2,x3,x4,x5,x6,x7=>qe4 F (q8r F k) x0 x1 x2 x3 x4 x5 x6 x7
def qe5(rec:LI→LI→Int→Int→Bool→Int→Option (LI×LI×Unit))(x0:LI)(x1:LI)(x2:Int)(x3:Int)(x4:Bool)(x5:Int):Option (LI×LI×Unit):=
 cond (decide (x5<16))
  (cond x4
   ((q8r F F x0 x1 x2 x3 x4 x5 0 x4).bind fun r6391=>
   rec r6391.1 r6391.2.1 r6391.2.2.1 r6391.2.2.2.1 r6391.2.2.2.2.1 (y0 .i64 (r6391.2.2.2.2.2.1+1)))
   (some (x0,x1,())))
  (some (x0,x1,()))
def q8s(F:Nat):Nat→LI→LI→Int→Int→Bool→Int→Option (LI×LI×Unit)
 |0,_,_,_,_,_,_=>none
 |k+1,x0,x1,x2,x3,x4,x5=>qe5 F (q8s F k) x0 x1 x2 x3 x4 x5
def qfj(a0:Int)(a1:LI):Option (LI×Unit):=
 (qmy F a0).bind fun r6318=>
 (q8s F F a1 q66 r6318.1.1 r6318.1.2.1 r6318.1.2.2.1 0).bind fun r6393=>
 some (r6393.1,())
def q8t(F:Nat)(rec:Int→Int→Int→Option (Int×Int×Unit))(x0:Int)(x1:Int)(x2:Int):Option (Int×Int×Unit):=
 cond (decide (x2<x0))
  (rec x0 (y0 .i64 (2*x1)) (y0 .i64 (x2+1)))
  (some (x0,x1,()))
def q7o(F:Nat):Nat→Int→Int→Int→Option (Int×Int×Unit)
 |0,_,_,_=>none
 |k+1,x0,x1,x2=>q8t F (q7o F k) x0 x1 x2
def q8u(rec:Int→LI→Int→Int→Option (LI×Unit))(x0:Int)(x1:LI)(x2:Int)(x3:Int):Option (LI×Unit):=
 cond (decide (x3<x2))
  ((q0c F x3 x0).bind fun r6493=>
  cond ((decide (((ya x1)+1)≤1099511627776))&&true)
   (rec x0 (x1++[r6493.1]) x2 (y0 .i64 (x3+1)))
    none)
  (some (x1,()))
def q7p(F:Nat):Nat→Int→LI→Int→Int→Option (LI×Unit)
 |0,_,_,_,_=>none
 |k+1,x0,x1,x2,x3=>q8u F (q7p F k) x0 x1 x2 x3
def q3c(a0:Int):Option (LI×Unit):=
 (q7o F F a0 1 0).bind fun r6480=>
 (q7p F F r6480.1 [] r6480.2.1 0).bind fun r6498=>
 some (r6498.1,())
def qgl(F:Nat)(rec:Int→LI→LI→Int→Option (LI×Unit))(x0:Int)(x1:LI)(x2:LI)(x3:Int):Option (LI×Unit):=
 cond (decide (x3<16))
  (cond ((decide (0≤x3))&&(decide (x3<16)))
   (let n6548:Nat:=((y6 x3)*4)
   cond ((decide (0≤x0))&&(decide (x0<4)))
    (let n6550:Nat:=(n6548+(y6 x0))
    let v6551:Int:=(y7 x1 n6550 0)
    cond ((decide (((ya x2)+1)≤1099511627776))&&true)
     (rec x0 x1 (x2++[v6551]) (y0 .i64 (x3+1)))
      none)
     none)
    none)
  (some (x2,()))
def qar(F:Nat):Nat→Int→LI→LI→Int→Option (LI×Unit)
 |0,_,_,_,_=>none
 |k+1,x0,x1,x2,x3=>qgl F (qar F k) x0 x1 x2 x3
def q23(a0:LI)(a1:Int):Option (LI×Unit):=
 (qar F F a1 a0 [] 0).bind fun r6556=>
 some (r6556.1,())
def qas(rec:Int→LI→Int→Int→Option (Int×Unit))(x0:Int)(x1:LI)(x2:Int)(x3:Int):Option (Int×Unit):=
 let v6589:Int:=(((ya x1):Nat):Int)
 cond (decide (x3<v6589))
  (cond ((decide (0≤x3))&&(decide (x3<(((ya x1):Nat):Int))))
   ((qbc F (y0 .i64 ((y7 x1 (y6 x3) 0)-x0))).bind fun r6595=>
   rec x0 x1 (y0 .i64 (x2+r6595.1)) (y0 .i64 (x3+1)))
    none)
  (some (x2,()))
def q9s(F:Nat):Nat→Int→LI→Int→Int→Option (Int×Unit)
 |0,_,_,_,_=>none
 |k+1,x0,x1,x2,x3=>qas F (q9s F k) x0 x1 x2 x3
def qxd(a0:Int)(a1:LI):Option (Int×Unit):=
 (q9s F F a0 a1 0 0).bind fun r6598=>
 some (r6598.1,())
def q8v(rec:LI→LI→Int→Int→Option (Int×Unit))(x0:LI)(x1:LI)(x2:Int)(x3:Int):Option (Int×Unit):=
 let v6621:Int:=(((ya x0):Nat):Int)
 cond (decide (x3<v6621))
  (cond ((decide (0≤x3))&&(decide (x3<(((ya x0):Nat):Int))))
   ((qxd F (y7 x0 (y6 x3) 0) x1).bind fun r6626=>
   cond ((decide (0≤x2))&&(decide (x2<(((ya x0):Nat):Int))))
    ((qxd F (y7 x0 (y6 x2) 0) x1).bind fun r6630=>
    cond (decide (r6626.1<r6630.1))
     (rec x0 x1 x3 (y0 .i64 (x3+1)))
     (rec x0 x1 x2 (y0 .i64 (x3+1))))
     none)
    none)
  (some (x2,()))
def q7q(F:Nat):Nat→LI→LI→Int→Int→Option (Int×Unit)
 |0,_,_,_,_=>none
 |k+1,x0,x1,x2,x3=>q8v F (q7q F k) x0 x1 x2 x3
def q2d(a0:LI)(a1:LI):Option (Int×Unit):=
 (q7q F F a0 a1 0 1).bind fun r6634=>
 some (r6634.1,())
def qpn(a0:LI):Option (LI×Unit):=
 (q3c F 5).bind fun r7450=>
 (q23 F a0 0).bind fun r7452=>
 (q2d F r7450.1 r7452.1).bind fun r7454=>
 (q3c F 6).bind fun r7456=>
 (q23 F a0 1).bind fun r7458=>
 (q2d F r7456.1 r7458.1).bind fun r7460=>
 (q3c F 5).bind fun r7463=>
 (q23 F a0 2).bind fun r7465=>
 (q2d F r7463.1 r7465.1).bind fun r7467=>
 let v7468:Int:=(y0 .i64 ((y0 .i64 ((y0 .i64 (2048*r7454.1))+(y0 .i64 (32*r7460.1))))+r7467.1))
 (q8k F v7468 v7468 q0a).bind fun r7469=>
 some (r7469.1,())
def qjr(F:Nat)(rec:Int→LI→LI→Int→Option (LI×LI×Unit))(x0:Int)(x1:LI)(x2:LI)(x3:Int):Option (LI×LI×Unit):=
 cond (decide (x3<16))
  (cond ((decide (0≤x3))&&(decide (x3<16)))
   (rec x0 x1 (yw x2 (y6 x3) x0) (y0 .i64 (x3+1)))
    none)
  (some (x1,x2,()))
def q9t(F:Nat):Nat→Int→LI→LI→Int→Option (LI×LI×Unit)
 |0,_,_,_,_=>none
 |k+1,x0,x1,x2,x3=>qjr F (q9t F k) x0 x1 x2 x3
def qxe(a0:Int):Option (LI×Unit):=
 (q9t F F a0 q0a q0a 0).bind fun r7490=>
 some (r7490.2.1,())
def q8w(F:Nat)(rec:Int→Int→Int→LI→Int→Option (LI×Unit))(x0:Int)(x1:Int)(x2:Int)(x3:LI)(x4:Int):Option (LI×Unit):=
 cond (decide (x4<x0))
  (let v7603:Int:=(y0 .i64 (x1*x4))
  let v7604:Int:=(y0 .i64 (v7603+x2))
  cond ((decide (((ya x3)+1)≤1099511627776))&&true)
   (rec x0 x1 x2 (x3++[v7604]) (y0 .i64 (x4+1)))
    none)
  (some (x3,()))
def q7r(F:Nat):Nat→Int→Int→Int→LI→Int→Option (LI×Unit)
 |0,_,_,_,_,_=>none
 |k+1,x0,x1,x2,x3,x4=>q8w F (q7r F k) x0 x1 x2 x3 x4
def qat(a0:Int)(a1:Int)(a2:Int):Option (LI×Unit):=
 (q7r F F a0 a1 a2 [] 0).bind fun r7609=>
 some (r7609.1,())
def qfk(a0:LI)(a1:Int):Option (LI×Unit):=
 (qat F 256 1 0).bind fun r7700=>
 (q23 F a0 a1).bind fun r7702=>
 (q2d F r7700.1 r7702.1).bind fun r7704=>
 (q8g F r7704.1 r7704.1 q0a).bind fun r7705=>
 some (r7705.1,())
def qgm(F:Nat)(rec:Int→LI→LI→LI→Int→Option (LI×LI×Unit))(x0:Int)(x1:LI)(x2:LI)(x3:LI)(x4:Int):Option (LI×LI×Unit):=
 cond (decide (x4<16))
  (let b8409:Bool:=((decide (0≤x4))&&(decide (x4<16)))
  cond b8409
   (cond b8409
    (cond ((decide (0≤x0))&&(decide (x0<4)))
     (rec x0 (yw x1 (((y6 x4)*4)+(y6 x0)) (y7 x2 (y6 x4) 0)) x2 x3 (y0 .i64 (x4+1)))
      none)
     none)
    none)
  (some (x1,x3,()))
def qau(F:Nat):Nat→Int→LI→LI→LI→Int→Option (LI×LI×Unit)
 |0,_,_,_,_,_=>none
 |k+1,x0,x1,x2,x3,x4=>qgm F (qau F k) x0 x1 x2 x3 x4
def q14(a0:LI)(a1:LI)(a2:Int):Option (LI×Unit):=
 (qau F F a2 a0 a1 q66 0).bind fun r8417=>
 some (r8417.1,())
def qxf(F:Nat)(rec:Int→LI→LI→Int→Option (LI×LI×Unit))(x0:Int)(x1:LI)(x2:LI)(x3:Int):Option (LI×LI×Unit):=
 cond (decide (x3<16))
  (cond ((decide (0≤x3))&&(decide (x3<16)))
   (rec x0 x1 (yw x2 (3+((y6 x3)*4)) x0) (y0 .i64 (x3+1)))
    none)
  (some (x1,x2,()))
def qgn(F:Nat):Nat→Int→LI→LI→Int→Option (LI×LI×Unit)
 |0,_,_,_,_=>none
 |k+1,x0,x1,x2,x3=>qxf F (qgn F k) x0 x1 x2 x3
def q5c(a0:Int):Option (LI×Unit):=
 (qgn F F a0 q66 q66 0).bind fun r8436=>
 some (r8436.2.1,())
def qxg(rec:LI→LI→LI→Int→Option (LI×LI×LI×Unit))(x0:LI)(x1:LI)(x2:LI)(x3:Int):Option (LI×LI×LI×Unit):=
 cond (decide (x3<16))
  ((q35 F x0 (y0 .i64 (16+(y0 .i64 (3*(y0 .i64 ((y0 .i64 (4*(yu x3 4)))+(y0 .i64 (yv x3 4)))))))) 3).bind fun r13166=>
  cond ((decide (0≤x3))&&(decide (x3<16)))
   (rec x0 x1 (yw x2 (y6 x3) r13166.1) (y0 .i64 (x3+1)))
    none)
  (some (x0,x1,x2,()))
def qgo(F:Nat):Nat→LI→LI→LI→Int→Option (LI×LI×LI×Unit)
 |0,_,_,_,_=>none
 |k+1,x0,x1,x2,x3=>qxg F (qgo F k) x0 x1 x2 x3
def zin(a0:LI):Option (Int×Int×Int×LI×Int×Unit):=
 cond ((((ya a0):Nat):Int) !=8)
  (some (0,0,0,q0a,1,()))
  ((qgo F F a0 q0a q0a 0).bind fun r13171=>
  (q35 F r13171.1 0 8).bind fun r13173=>
  (q35 F r13171.1 8 4).bind fun r13174=>
  (q35 F r13171.1 12 4).bind fun r13175=>
  some (r13173.1,r13174.1,r13175.1,r13171.2.2.1,0,()))
def qpo:LI:=[-3,-6,-9,-15,2,5,8,14,-3,-7,-10,-13,2,6,9,12,-2,-5,-8,-13,1,4,7,12,-2,-4,-6,-13,1,3,5,12,-3,-6,-8,-12,2,5,7,11,-3,-7,-9,-11,2,6,8,10,-4,-7,-8,-11,3,6,7,10,-3,-5,-8,-11,2,4,7,10,-2,-6,-8,-10,1,5,7,9,-2,-5,-8,-10,1,4,7,9,-2,-4,-8,-10,1,3,7,9,-2,-5,-7,-10,1,4,6,9,-3,-4,-7,-10,2,3,6,9,-1,-2,-3,-10,0,1,2,9,-4,-6,-8,-9,3,5,7,8,-3,-5,-7,-9,2,4,6,8]
def zio(F:Nat)(a0:Int):Option (LI×Unit):=
 let v13179:Int:=(yu a0 16)
 cond (decide (v13179<0))
  (let v13181:Int:=(y0 .i64 (v13179+16))
  cond ((decide (0≤v13181))&&(decide (v13181<16)))
   (some ((y8 8 (y9 ((y6 v13181)*8) qpo)),()))
    none)
  (cond ((decide (0≤v13179))&&(decide (v13179<16)))
   (some ((y8 8 (y9 ((y6 v13179)*8) qpo)),()))
    none)
def ziq(a0:Int)(a1:Int)(a2:Int)(a3:Bool):Option (Int×Unit):=
 cond (!a3)
  ((qcf F (y0 .i64 (a0+(y0 .i64 (a2*a1)))) 255).bind fun r13212=>
  some (r13212.1,()))
  (cond (a1==0)
   ((qcf F (y0 .i64 ((y0 .i64 ((y0 .i64 (8*a0))+4))+(y0 .i64 (a2*1)))) 2047).bind fun r13219=>
   some (r13219.1,()))
   ((qcf F (y0 .i64 ((y0 .i64 ((y0 .i64 (8*a0))+4))+(y0 .i64 (a2*(y0 .i64 (8*a1)))))) 2047).bind fun r13224=>
   some (r13224.1,())))
def qty(rec:Bool→LI→Int→Int→Int→LI→Int→Option (LI×LI×Unit))(x0:Bool)(x1:LI)(x2:Int)(x3:Int)(x4:Int)(x5:LI)(x6:Int):Option (LI×LI×Unit):=
 cond (decide (x6<16))
  ((zio F x4).bind fun r13238=>
  let b13239:Bool:=((decide (0≤x6))&&(decide (x6<16)))
  cond b13239
   (let v13241:Int:=(y7 x5 (y6 x6) 0)
   cond ((decide (0≤v13241))&&(decide (v13241<8)))
    ((ziq F x2 x3 (y7 r13238.1 (y6 v13241) 0) x0).bind fun r13244=>
    cond b13239
     (rec x0 x1 x2 x3 x4 (yw x5 (y6 x6) r13244.1) (y0 .i64 (x6+1)))
      none)
     none)
    none)
  (some (x1,x5,()))
def qe6(F:Nat):Nat→Bool→LI→Int→Int→Int→LI→Int→Option (LI×LI×Unit)
 |0,_,_,_,_,_,_,_=>none
 |k+1,x0,x1,x2,x3,x4,x5,x6=>qty F (qe6 F k) x0 x1 x2 x3 x4 x5 x6
def q9u(a0:LI)(a1:Bool):Option (LI×Int×Unit):=
 (zin F a0).bind fun r13176=>
 cond (r13176.2.2.2.2.1 !=0)
  (some (r13176.2.2.2.1,r13176.2.2.2.2.1,()))
  ((qe6 F F a1 q0a r13176.1 r13176.2.1 r13176.2.2.1 r13176.2.2.2.1 0).bind fun r13247=>
  some (r13247.2.1,0,()))
def qn0(a0:Int)(a1:LI):Option (LI×Int×Unit):=
 (qmy F a0).bind fun r8143=>
 cond (r8143.2.1 !=0)
  (some (q66,r8143.2.1,()))
  (let v8145:Int:=(((ya a1):Nat):Int)
  cond (v8145 !=r8143.1.1)
   (some (q66,1,()))
   (cond (decide (8≤(ya a1)))
    (let v8148:Int:=(y0 .i64 (v8145-8))
    cond ((decide (0≤v8148))&&((decide ((y6 v8148)≤(ya a1)))&&true))
     (let l8257:LI:=(y8 8 a1)
     (qh8 F l8257).bind fun r8258=>
     let l8259:LI:=(y8 (psub (ya a1) (y6 v8148)) (y9 (y6 v8148) a1))
     (qh8 F l8259).bind fun r8260=>
     cond (a0==1)
      ((q4o F a1 false).bind fun r8365=>
      some (r8365.1,r8365.2.1,()))
      (cond (a0==2)
       ((q4o F l8259 true).bind fun r8367=>
       (qku F l8257).bind fun r8394=>
       (q14 F r8367.1 r8394.1 3).bind fun r8418=>
       some (r8418.1,0,()))
       (cond (a0==3)
        ((q4o F l8259 true).bind fun r8420=>
        (q14 F r8420.1 r8258.1 3).bind fun r8421=>
        some (r8421.1,0,()))
        (cond (a0==4)
         ((q5c F 255).bind fun r8437=>
         (q14 F r8437.1 r8258.1 0).bind fun r8438=>
         some (r8438.1,0,()))
         (cond (a0==5)
          ((q5c F 255).bind fun r8440=>
          (q14 F r8440.1 r8258.1 0).bind fun r8441=>
          (q14 F r8441.1 r8260.1 1).bind fun r8442=>
          some (r8442.1,0,()))
          (cond (a0==6)
           ((qhe F a1).bind fun r12176=>
           some (r12176.1,r12176.2.1,()))
           (cond (a0==7)
            ((qx4 F a1).bind fun r12480=>
            some (r12480.1,r12480.2.1,()))
            (cond (a0==8)
             ((q9n F a1 false).bind fun r13133=>
             some (r13133.1,r13133.2.1,()))
             (cond (a0==9)
              ((q9n F a1 true).bind fun r13135=>
              some (r13135.1,r13135.2.1,()))
              (cond (a0==10)
               ((q9n F l8259 false).bind fun r13137=>
               (q9u F l8257 false).bind fun r13248=>
               (q14 F r13137.1 r13248.1 3).bind fun r13249=>
               some (r13249.1,0,()))
               ((q9u F l8257 true).bind fun r13250=>
               (q9u F l8259 true).bind fun r13251=>
               cond (a0==11)
                ((q5c F 2047).bind fun r13253=>
                (q14 F r13253.1 r13250.1 0).bind fun r13254=>
                some (r13254.1,0,()))
                ((q5c F 2047).bind fun r13255=>
                (q14 F r13255.1 r13250.1 0).bind fun r13256=>
                (q14 F r13256.1 r13251.1 1).bind fun r13257=>
                some (r13257.1,0,())))))))))))))
      none)
     none))
def qe7(rec:Int→LI→LI→Int→Int→Int→Option (Int×LI×LI×Int×Int×Unit))(x0:Int)(x1:LI)(x2:LI)(x3:Int)(x4:Int)(x5:Int):Option (Int×LI×LI×Int×Int×Unit):=
 cond (decide (x5<4))
  ((qkt F x0 16).bind fun r13365=>
  (qcd F x5).bind fun r13366=>
  cond (!(r13366.1==0))
   (cond ((yu (y0 .i64 (yv r13365.1 r13366.1)) 2)==1)
    (let b13371:Bool:=((decide (0≤x4))&&(decide (x4<16)))
    cond b13371
     (let b13373:Bool:=((decide (0≤x5))&&(decide (x5<4)))
     cond b13373
      (let n13374:Nat:=(((y6 x4)*4)+(y6 x5))
      cond b13371
       (cond b13373
        ((qbc F (y0 .i64 ((y7 x1 n13374 0)-(y7 x2 n13374 0)))).bind fun r13378=>
        rec x0 x1 x2 (y0 .i64 (x3+r13378.1)) x4 (y0 .i64 (x5+1)))
         none)
        none)
       none)
      none)
    (rec x0 x1 x2 x3 x4 (y0 .i64 (x5+1))))
    none)
  (some (x0,x1,x2,x3,x4,()))
def q8x(F:Nat):Nat→Int→LI→LI→Int→Int→Int→Option (Int×LI×LI×Int×Int×Unit)
 |0,_,_,_,_,_,_=>none
 |k+1,x0,x1,x2,x3,x4,x5=>qe7 F (q8x F k) x0 x1 x2 x3 x4 x5
def qe8(rec:Int→LI→LI→Int→Int→Option (Int×Unit))(x0:Int)(x1:LI)(x2:LI)(x3:Int)(x4:Int):Option (Int×Unit):=
 cond (decide (x4<16))
  ((q8x F F x0 x1 x2 x3 x4 0).bind fun r13382=>
  rec r13382.1 r13382.2.1 r13382.2.2.1 r13382.2.2.2.1 (y0 .i64 (r13382.2.2.2.2.1+1)))
  (some (x3,()))
def q8y(F:Nat):Nat→Int→LI→LI→Int→Int→Option (Int×Unit)
 |0,_,_,_,_,_=>none
 |k+1,x0,x1,x2,x3,x4=>qe8 F (q8y F k) x0 x1 x2 x3 x4
def z3u(a0:LI)(a1:LI)(a2:Int):Option (Int×Unit):=
 (q8y F F a2 a0 a1 0 0).bind fun r13384=>
 some (r13384.1,())
def qfl(a0:Int)(a1:LI)(a2:LI):Option (Int×Int×Unit):=
 (qn0 F a0 a1).bind fun r13258=>
 cond (r13258.2.1 !=0)
  (some (0,r13258.2.1,()))
  ((qmy F a0).bind fun r13260=>
  (qfj F a0 a2).bind fun r13261=>
  (z3u F r13261.1 r13258.1 r13260.1.2.1).bind fun r13385=>
  some (r13385.1,0,()))
def qe9(rec:LI→LI→Int→Int→LI→Int→Option (LI×LI×Int×Int×LI×Unit))(x0:LI)(x1:LI)(x2:Int)(x3:Int)(x4:LI)(x5:Int):Option (LI×LI×Int×Int×LI×Unit):=
 cond (decide (x5<4))
  ((qat F 128 2 x3).bind fun r13540=>
  (q23 F x0 x5).bind fun r13542=>
  (q2d F r13540.1 r13542.1).bind fun r13544=>
  cond ((decide (0≤x5))&&(decide (x5<4)))
   (rec x0 x1 x2 x3 (yw x4 (y6 x5) r13544.1) (y0 .i64 (x5+1)))
    none)
  (some (x0,x1,x2,x3,x4,()))
def q6j(F:Nat):Nat→LI→LI→Int→Int→LI→Int→Option (LI×LI×Int×Int×LI×Unit)
 |0,_,_,_,_,_,_=>none
 |k+1,x0,x1,x2,x3,x4,x5=>qe9 F (q6j F k) x0 x1 x2 x3 x4 x5
def q74(rec:LI→LI→Int→Int→Option (LI×Unit))(x0:LI)(x1:LI)(x2:Int)(x3:Int):Option (LI×Unit):=
 cond (decide (x3<2))
  ((q6j F F x0 x1 x2 x3 [0,0,0,0] 0).bind fun r13549=>
  (qx5 F (r13549.2.2.2.2.1++r13549.2.2.2.2.1) [r13549.2.2.2.1,r13549.2.2.2.1] q0a).bind fun r13552=>
  (qfl F 6 r13552.1 r13549.1).bind fun r13554=>
  cond (r13549.2.2.2.1==0)
   (rec r13549.1 r13552.1 r13554.1 (y0 .i64 (r13549.2.2.2.1+1)))
   (cond (decide (r13554.1<r13549.2.2.1))
    (rec r13549.1 r13552.1 r13554.1 (y0 .i64 (r13549.2.2.2.1+1)))
    (rec r13549.1 r13549.2.1 r13549.2.2.1 (y0 .i64 (r13549.2.2.2.1+1)))))
  (some (x1,()))
def q3j(F:Nat):Nat→LI→LI→Int→Int→Option (LI×Unit)
 |0,_,_,_,_=>none
 |k+1,x0,x1,x2,x3=>q74 F (q3j F k) x0 x1 x2 x3
def qs6(a0:LI):Option (LI×Unit):=
 (q3j F F a0 [] 0 0).bind fun r13560=>
 some (r13560.1,())
def qxh(rec:LI→LI→Int→Option (LI×LI×Unit))(x0:LI)(x1:LI)(x2:Int):Option (LI×LI×Unit):=
 let v14005:Int:=(((ya x1):Nat):Int)
 cond (decide (x2<v14005))
  (let b14007:Bool:=((decide (0≤x2))&&(decide (x2<(((ya x1):Nat):Int))))
  cond b14007
   ((qcf F (y0 .i64 ((y7 x1 (y6 x2) 0)+2)) 255).bind fun r14011=>
   cond b14007
    (rec x0 (yw x1 (y6 x2) r14011.1) (y0 .i64 (x2+1)))
     none)
    none)
  (some (x0,x1,()))
def qgp(F:Nat):Nat→LI→LI→Int→Option (LI×LI×Unit)
 |0,_,_,_=>none
 |k+1,x0,x1,x2=>qxh F (qgp F k) x0 x1 x2
def qxi(rec:LI→LI→LI→LI→LI→LI→Int→Option (LI×LI×LI×LI×Unit))(x0:LI)(x1:LI)(x2:LI)(x3:LI)(x4:LI)(x5:LI)(x6:Int):Option (LI×LI×LI×LI×Unit):=
 cond (decide (x6<3))
  ((q23 F x0 x6).bind fun r14032=>
  (q2d F x1 r14032.1).bind fun r14034=>
  cond ((decide (0≤x6))&&(decide (x6<3)))
   (rec x0 x1 (yw x2 (y6 x6) r14034.1) x3 x4 x5 (y0 .i64 (x6+1)))
    none)
  (some (x2,x3,x4,x5,()))
def qgq(F:Nat):Nat→LI→LI→LI→LI→LI→LI→Int→Option (LI×LI×LI×LI×Unit)
 |0,_,_,_,_,_,_,_=>none
 |k+1,x0,x1,x2,x3,x4,x5,x6=>qxi F (qgq F k) x0 x1 x2 x3 x4 x5 x6
def zir(a0:LI):Option (LI×Unit):=
 (q3c F 5).bind fun r13984=>
 (qgp F F a0 r13984.1 0).bind fun r14014=>
 (qgq F F r14014.1 r14014.2.1 [0,0,0] [0,0,0] [0,0] q0a 0).bind fun r14039=>
 (zt9 F (true,false,r14039.1,r14039.2.1,r14039.2.2.1,r14039.2.2.2.1,())).bind fun r14040=>
 some (r14040.1,())
def qn1(a0:LI):Option (LI×Unit):=
 (q3c F 6).bind fun r14461=>
 (q23 F a0 0).bind fun r14463=>
 (q2d F r14461.1 r14463.1).bind fun r14465=>
 (q3c F 7).bind fun r14466=>
 (q23 F a0 1).bind fun r14468=>
 (q2d F r14466.1 r14468.1).bind fun r14470=>
 (q3c F 6).bind fun r14471=>
 (q23 F a0 2).bind fun r14473=>
 (q2d F r14471.1 r14473.1).bind fun r14475=>
 (j13 F [r14465.1,r14470.1,r14475.1] [r14465.1,r14470.1,r14475.1] [r14465.1,r14470.1,r14475.1]).bind fun r14476=>
 some (r14476.1,())
def z5k(F:Nat)(a0:Int)(a1:Int):Option (Bool×Unit):=
 cond (decide (0≤a0))
  (some ((decide (a0≤a1)),()))
  (some (false,()))
def z1s(rec:LI→LI→Int→Option (Unit⊕(LI×Unit)))(x0:LI)(x1:LI)(x2:Int):Option (Unit⊕(LI×Unit)):=
 cond (decide (x2<16))
  (let b14583:Bool:=((decide (0≤x2))&&(decide (x2<16)))
  cond b14583
   (let v14585:Int:=(y7 x0 (y6 x2) 0)
   (z5k F v14585 7).bind fun r14586=>
   cond (!r14586.1)
    (some (.inl ()))
    (cond b14583
     ((q34 F x1 (y0 .i64 (16+(y0 .i64 (3*(y0 .i64 ((y0 .i64 (4*(yu x2 4)))+(y0 .i64 (yv x2 4)))))))) 3 true (y0 .u64 v14585)).bind fun r14595=>
     rec x0 r14595.1 (y0 .i64 (x2+1)))
      none))
    none)
  (some (.inr (x1,())))
def qjs(F:Nat):Nat→LI→LI→Int→Option (Unit⊕(LI×Unit))
 |0,_,_,_=>none
 |k+1,x0,x1,x2=>z1s F (qjs F k) x0 x1 x2
def z8j(a0:Int)(a1:Int)(a2:Int)(a3:LI):Option (LI×Int×Unit):=
 (z5k F a0 255).bind fun r14547=>
 cond (!r14547.1)
  (some ([],1,()))
  ((z5k F a1 15).bind fun r14549=>
  cond (!r14549.1)
   (some ([],1,()))
   ((z5k F a2 15).bind fun r14551=>
   cond (!r14551.1)
    (some ([],1,()))
    ((qjs F F a3 [(y0 .u8 a0),(y0 .u8 (y0 .i64 ((y0 .i64 (16*a1))+a2))),0,0,0,0,0,0] 0).bind fun r14598=>match r14598 with
     | .inl r14598=>(some ([],1,()))
     | .inr r14598=>(some (r14598.1,0,())))))
def qs7(a0:LI)(a1:Int):Option (LI×Unit):=
 (qat F 256 8 4).bind fun r14616=>
 (q23 F a0 a1).bind fun r14618=>
 (q2d F r14616.1 r14618.1).bind fun r14620=>
 (qxe F 4).bind fun r14621=>
 (z8j F r14620.1 1 13 r14621.1).bind fun r14622=>
 some (r14622.1,())
def q6k(a0:Int)(a1:LI):Option (LI×Int×Unit):=
 (qmy F a0).bind fun r14633=>
 cond (r14633.2.1 !=0)
  (some ([],r14633.2.1,()))
  ((q4r F a1).bind fun r14635=>
  cond (!r14635.1)
   (some ([],1,()))
   ((qfj F a0 a1).bind fun r14637=>
   let b14638:Bool:=(a0==1)
   cond b14638
    ((qpn F a1).bind fun r14639=>
    some (r14639.1,0,()))
    (let b14641:Bool:=(a0==2)
    cond b14641
     ((q3c F 4).bind fun r14642=>
     let n14643:Nat:=(ya r14642.1)
     (q23 F a1 3).bind fun r14644=>
     let n14645:Nat:=(ya r14644.1)
     (q2d F r14642.1 r14644.1).bind fun r14646=>
     (qxe F r14646.1).bind fun r14647=>
     (q6y F r14647.1).bind fun r14648=>
     let n14649:Nat:=(ya r14648.1)
     (qpn F a1).bind fun r14650=>
     let n14651:Nat:=(ya r14650.1)
     cond ((decide ((n14649+n14651)≤1099511627776))&&true)
      (some ((r14648.1++r14650.1),0,()))
       none)
     (let b14655:Bool:=(a0==3)
     cond b14655
      ((qfk F a1 3).bind fun r14656=>
      let n14657:Nat:=(ya r14656.1)
      (qpn F a1).bind fun r14658=>
      let n14659:Nat:=(ya r14658.1)
      cond ((decide ((n14657+n14659)≤1099511627776))&&true)
       (some ((r14656.1++r14658.1),0,()))
        none)
      (let b14663:Bool:=(a0==4)
      cond b14663
       ((qfk F a1 0).bind fun r14664=>
       some (r14664.1,0,()))
       (let b14666:Bool:=(a0==5)
       cond b14666
        ((qfk F a1 0).bind fun r14667=>
        let n14668:Nat:=(ya r14667.1)
        (qfk F a1 1).bind fun r14669=>
        let n14670:Nat:=(ya r14669.1)
        cond ((decide ((n14668+n14670)≤1099511627776))&&true)
         (some ((r14667.1++r14669.1),0,()))
          none)
        (let b14674:Bool:=(a0==6)
        cond b14674
         ((qs6 F a1).bind fun r14675=>
         some (r14675.1,0,()))
         (let b14677:Bool:=(a0==7)
         cond b14677
          ((zir F a1).bind fun r14678=>
          some (r14678.1,0,()))
          (let b14680:Bool:=(a0==8)
          cond b14680
           ((qn1 F a1).bind fun r14681=>
           some (r14681.1,0,()))
           (let b14683:Bool:=(a0==9)
           cond b14683
            ((qn1 F a1).bind fun r14684=>
            (qfl F 9 r14684.1 a1).bind fun r14686=>
            (qfl F 9 ql3 a1).bind fun r14687=>
            cond (decide (r14687.1<r14686.1))
             (some (ql3,0,()))
             (some (r14684.1,0,())))
            (let b14689:Bool:=(a0==10)
            cond b14689
             ((qat F 256 1 0).bind fun r14690=>
             let n14691:Nat:=(ya r14690.1)
             (q23 F a1 3).bind fun r14692=>
             let n14693:Nat:=(ya r14692.1)
             (q2d F r14690.1 r14692.1).bind fun r14694=>
             (z8j F r14694.1 0 0 q0a).bind fun r14695=>
             let n14696:Nat:=(ya r14695.1)
             (qn1 F a1).bind fun r14697=>
             let n14698:Nat:=(ya r14697.1)
             cond ((decide ((n14696+n14698)≤1099511627776))&&true)
              (some ((r14695.1++r14697.1),0,()))
               none)
             (let b14702:Bool:=(a0==11)
             cond b14702
              ((qs7 F r14637.1 0).bind fun r14703=>
              some (r14703.1,0,()))
              ((qs7 F r14637.1 0).bind fun r14705=>
              let n14706:Nat:=(ya r14705.1)
              (qs7 F r14637.1 1).bind fun r14707=>
              let n14708:Nat:=(ya r14707.1)
              cond ((decide ((n14706+n14708)≤1099511627776))&&true)
               (some ((r14705.1++r14707.1),0,()))
                none)))))))))))))
def qhj(a0:Int)(a1:LI)(a2:Int)(a3:Int)(a4:Int):Option (Int×Unit):=
 cond (decide (a0<a3))
  (some (5,()))
  (cond (decide (a4<a0))
   (some (5,()))
   ((q4r F a1).bind fun r227532=>
   cond (!r227532.1)
    (some (1,()))
    (cond (decide (a2<0))
     (some (1,()))
     (cond (decide (2<a2))
      (some (1,()))
      (some (0,()))))))
def q12:LI:=[0,0,0,0,0,0,0,0,0,0,0,0,0,0,0,0,0,0,0,0,0,0,0,0,0,0,0,0,0,0,0,0,0,0,0,0,0,0,0,0,0,0,0,0,0,0,0,0,0,0,0,0,0,0,0,0,0,0,0,0,0,0,0,0]
def qjt(F:Nat)(rec:Int→LI→LI→LI→LI→Int→Option (LI×LI×Unit))(x0:Int)(x1:LI)(x2:LI)(x3:LI)(x4:LI)(x5:Int):Option (LI×LI×Unit):=
 cond (decide (x5<16))
  (let b256019:Bool:=((decide (0≤x5))&&(decide (x5<16)))
  cond b256019
   (let n256020:Nat:=((y6 x5)*4)
   let l256021:LI:=(((y8 n256020 x4)++x1)++(y9 (n256020+4) x4))
   cond ((iand .i64 x0 1)==1)
    (cond b256019
     (rec (ishr .i64 x0 1) x1 x2 x3 (((y8 n256020 l256021)++x2)++(y9 (n256020+4) l256021)) (y0 .i64 (x5+1)))
      none)
    (rec (ishr .i64 x0 1) x1 x2 x3 l256021 (y0 .i64 (x5+1))))
    none)
  (some (x3,x4,()))
def q9v(F:Nat):Nat→Int→LI→LI→LI→LI→Int→Option (LI×LI×Unit)
 |0,_,_,_,_,_,_=>none
 |k+1,x0,x1,x2,x3,x4,x5=>qjt F (q9v F k) x0 x1 x2 x3 x4 x5
def ql4(a0:LI)(a1:LI)(a2:Int):Option (LI×Unit):=
 (q9v F F a2 a0 a1 q12 q12 0).bind fun r256029=>
 some (r256029.2.1,())
def qgr(F:Nat)(a0:LI):Option (List (LI×LI)):=some (zt7 a0)
def qav(F:Nat)(rec:LI→LI→Int→Int→Int→Option (Int×Unit))(x0:LI)(x1:LI)(x2:Int)(x3:Int)(x4:Int):Option (Int×Unit):=
 cond (decide (x4<x3))
  (let b256063:Bool:=((decide (0≤x4))&&(decide (x4<4)))
  cond b256063
   (cond b256063
    (let v256067:Int:=(y0 .i64 ((y7 x0 (y6 x4) 0)-(y7 x1 (y6 x4) 0)))
    cond b256063
     (cond b256063
      (rec x0 x1 (y0 .i64 (x2+(y0 .i64 (v256067*v256067)))) x3 (y0 .i64 (x4+1)))
       none)
      none)
     none)
    none)
  (some (x2,()))
def q9w(F:Nat):Nat→LI→LI→Int→Int→Int→Option (Int×Unit)
 |0,_,_,_,_,_=>none
 |k+1,x0,x1,x2,x3,x4=>qav F (q9w F k) x0 x1 x2 x3 x4
def ql5(a0:LI)(a1:LI)(a2:Int):Option (Int×Unit):=
 (q9w F F a0 a1 0 a2 0).bind fun r256071=>
 some (r256071.1,())
def q8z(x:LI×LI)(x0:Int)(x1:LI)(x2:LI)(x3:LI)(x4:LI):Option ((Int×LI×LI×LI×LI×Unit)⊕Unit):=
 (ql5 F x.1 x.2 x0).bind fun r256075=>
 (ql5 F x3 x4 x0).bind fun r256076=>
 cond (decide (r256076.1<r256075.1))
  (some (.inl (x0,x1,x2,x.1,x.2,())))
  (some (.inl (x0,x1,x2,x3,x4,())))
def q7e(a0:LI)(a1:Int):Option (LI×LI×Unit):=
 let l256046:LI:=(y8 4 a0)
 (qgr F a0).bind fun l256078=>
 (runL (fun x=>u5 (q8z F x)) l256078 (a1,[0,0,0,0],[0,0,0,0],l256046,l256046,())).bind fun r256079=>match r256079 with
  | .inl r256079=>(some (r256079.2.2.2.1,r256079.2.2.2.2.1,()))
  | .inr r256079=>none
def q21:LI:=[0,0,0,0,0,0,0,0,0,0,0,0,0,0,0,0]
def qhk(a0:LI)(a1:LI):Option (Int×Unit):=
 (ql5 F a1 a0 3).bind fun r256108=>
 some (r256108.1,())
def q0n(rec:LI→LI→Int→Int→Int→Option (Int×Unit))(x0:LI)(x1:LI)(x2:Int)(x3:Int)(x4:Int):Option (Int×Unit):=
 let n256185:Nat:=((ya x0)/4)
 cond (decide (x4<x3))
  (cond ((decide (0≤x4))&&(decide (x4<((n256185:Nat):Int))))
   (cond ((decide (0≤x2))&&(decide (x2<((n256185:Nat):Int))))
    ((qhk F (y8 4 (y9 ((y6 x4)*4) x0)) x1).bind fun r256193=>
    (qhk F (y8 4 (y9 ((y6 x2)*4) x0)) x1).bind fun r256194=>
    cond (decide (r256193.1<r256194.1))
     (rec x0 x1 x4 x3 (y0 .i64 (x4+1)))
     (rec x0 x1 x2 x3 (y0 .i64 (x4+1))))
     none)
    none)
  (some (x2,()))
def q0d(F:Nat):Nat→LI→LI→Int→Int→Int→Option (Int×Unit)
 |0,_,_,_,_,_=>none
 |k+1,x0,x1,x2,x3,x4=>q0n F (q0d F k) x0 x1 x2 x3 x4
def q2a(a0:LI)(a1:LI):Option (Int×Unit):=
 (q0d F F a0 a1 0 ((((ya a0)/4):Nat):Int) 0).bind fun r256198=>
 some (r256198.1,())
def qju(rec:Int→Int→LI→LI→LI→Int→Option (Int×Int×LI×Unit))(x0:Int)(x1:Int)(x2:LI)(x3:LI)(x4:LI)(x5:Int):Option (Int×Int×LI×Unit):=
 cond (decide (x5<16))
  (let b256230:Bool:=((decide (0≤x5))&&(decide (x5<16)))
  cond b256230
   ((q2a F x2 (y8 4 (y9 ((y6 x5)*4) x4))).bind fun r256232=>
   cond b256230
    (rec x0 x1 x2 (yw x3 (y6 x5) r256232.1) x4 (y0 .i64 (x5+1)))
     none)
    none)
  (some (x0,x1,x3,()))
def q9x(F:Nat):Nat→Int→Int→LI→LI→LI→Int→Option (Int×Int×LI×Unit)
 |0,_,_,_,_,_,_=>none
 |k+1,x0,x1,x2,x3,x4,x5=>qju F (q9x F k) x0 x1 x2 x3 x4 x5
def qpp(a0:LI)(a1:Int)(a2:Int)(a3:Bool):Option (LI×Unit):=
 (qae F a1 a2 a3).bind fun r256218=>
 (q9x F F a1 a2 r256218.1 q21 a0 0).bind fun r256236=>
 (q44 F r256236.1 r256236.2.1 r256236.2.2.1).bind fun r256237=>
 some (r256237.1,())
def q0p(a0:LI)(a1:Int)(a2:LI)(a3:Int)(a4:LI):Option (Bool×Int×LI×LI×Int×Unit):=
 (q9r F a1 a4 a2).bind fun r256291=>
 cond (r256291.2.1 !=0)
  (some (false,a1,a2,a0,a3,()))
  (cond (decide (a3≤r256291.1))
   (some (false,a1,a2,a0,a3,()))
   (some (true,a1,a2,a4,r256291.1,())))
def q0h(a0:Int)(a1:Int)(a2:LI)(a3:Int)(a4:LI)(a5:Int)(a6:LI)(a7:LI)(a8:Bool):Option (Bool×Int×LI×LI×Int×Unit):=
 let v256305:Int:=(((ya a6):Nat):Int)
 let b256306:Bool:=((decide (0≤v256305))&&((decide (0≤v256305))&&((decide ((y6 v256305)≤(ya a6)))&&(decide ((y6 v256305)=(y6 v256305))))))
 cond b256306
  ((qpp F a7 a0 a1 a8).bind fun r256308=>
  let n256309:Nat:=(ya r256308.1)
  cond ((decide (((y6 v256305)+n256309)≤1099511627776))&&(decide (0<n256309)))
   (let n256311:Nat:=((y6 v256305)+n256309)
   let l256312:LI:=((y8 (y6 v256305) a6)++r256308.1)
   (q0p F a2 a3 a4 a5 l256312).bind fun r256313=>
   let n256314:Nat:=(ya r256313.2.2.2.1)
   cond b256306
    ((qpp F a7 a1 a0 a8).bind fun r256315=>
    let n256316:Nat:=(ya r256315.1)
    cond ((decide (((y6 v256305)+n256316)≤1099511627776))&&(decide (0<n256316)))
     ((q0p F r256313.2.2.2.1 r256313.2.1 r256313.2.2.1 r256313.2.2.2.2.1 ((y8 (y6 v256305) a6)++r256315.1)).bind fun r256320=>
     cond r256313.1
      (some (true,r256320.2.1,r256320.2.2.1,r256320.2.2.2.1,r256320.2.2.2.2.1,()))
      (some (r256320.1,r256320.2.1,r256320.2.2.1,r256320.2.2.2.1,r256320.2.2.2.2.1,())))
      none)
     none)
    none)
   none
def bcfit_stepsT256328:LI:=[2048,-2048,32,-32,1,-1]
def z3v(F:Nat):Option (LI×Unit):=
 some (bcfit_stepsT256328,())
def q4i(rec:LI→Int→LI→Int→Int→LI→LI→Bool→Int→Int→Int→Int→Bool→LI→Int→Option (LI×Int×LI×Int×Int×LI×LI×Bool×Int×Int×Int×Int×Bool×Unit))(x0:LI)(x1:Int)(x2:LI)(x3:Int)(x4:Int)(x5:LI)(x6:LI)(x7:Bool)(x8:Int)(x9:Int)(x10:Int)(x11:Int)(x12:Bool)(x13:LI)(x14:Int):Option (LI×Int×LI×Int×Int×LI×LI×Bool×Int×Int×Int×Int×Bool×Unit):=
 cond (decide (x14<6))
  (cond ((decide (0≤x14))&&(decide (x14<6)))
   (let v257012:Int:=(y7 x13 (y6 x14) 0)
   let v257013:Int:=(y0 .i64 (x8+v257012))
   cond (decide (0≤v257013))
    (cond ((ishr .i64 v257013 16)==0)
     ((q0h F v257013 x9 x0 x1 x2 x3 x5 x6 x7).bind fun r257017=>
     cond r257017.1
      (let v257019:Int:=(y0 .i64 (x9+v257012))
      cond (decide (0≤v257019))
       (cond ((ishr .i64 v257019 16)==0)
        ((q0h F v257013 v257019 r257017.2.2.2.1 r257017.2.1 r257017.2.2.1 r257017.2.2.2.2.1 x5 x6 x7).bind fun r257023=>
        cond r257023.1
         (rec r257023.2.2.2.1 r257023.2.1 r257023.2.2.1 r257023.2.2.2.2.1 x4 x5 x6 x7 v257013 v257019 x10 x11 x12 x13 (y0 .i64 (x14+1)))
         (rec r257023.2.2.2.1 r257023.2.1 r257023.2.2.1 r257023.2.2.2.2.1 x4 x5 x6 x7 v257013 x9 x10 x11 x12 x13 (y0 .i64 (x14+1))))
        (rec r257017.2.2.2.1 r257017.2.1 r257017.2.2.1 r257017.2.2.2.2.1 x4 x5 x6 x7 v257013 x9 x10 x11 x12 x13 (y0 .i64 (x14+1))))
       (rec r257017.2.2.2.1 r257017.2.1 r257017.2.2.1 r257017.2.2.2.2.1 x4 x5 x6 x7 v257013 x9 x10 x11 x12 x13 (y0 .i64 (x14+1))))
      (let v257029:Int:=(y0 .i64 (x9+v257012))
      cond (decide (0≤v257029))
       (cond ((ishr .i64 v257029 16)==0)
        ((q0h F x8 v257029 r257017.2.2.2.1 r257017.2.1 r257017.2.2.1 r257017.2.2.2.2.1 x5 x6 x7).bind fun r257033=>
        cond r257033.1
         (rec r257033.2.2.2.1 r257033.2.1 r257033.2.2.1 r257033.2.2.2.2.1 x4 x5 x6 x7 x8 v257029 x10 x11 x12 x13 (y0 .i64 (x14+1)))
         (rec r257033.2.2.2.1 r257033.2.1 r257033.2.2.1 r257033.2.2.2.2.1 x4 x5 x6 x7 x8 x9 x10 x11 x12 x13 (y0 .i64 (x14+1))))
        (rec r257017.2.2.2.1 r257017.2.1 r257017.2.2.1 r257017.2.2.2.2.1 x4 x5 x6 x7 x8 x9 x10 x11 x12 x13 (y0 .i64 (x14+1))))
       (rec r257017.2.2.2.1 r257017.2.1 r257017.2.2.1 r257017.2.2.2.2.1 x4 x5 x6 x7 x8 x9 x10 x11 x12 x13 (y0 .i64 (x14+1)))))
     (let v257039:Int:=(y0 .i64 (x9+v257012))
     cond (decide (0≤v257039))
      (cond ((ishr .i64 v257039 16)==0)
       ((q0h F x8 v257039 x0 x1 x2 x3 x5 x6 x7).bind fun r257043=>
       cond r257043.1
        (rec r257043.2.2.2.1 r257043.2.1 r257043.2.2.1 r257043.2.2.2.2.1 x4 x5 x6 x7 x8 v257039 x10 x11 x12 x13 (y0 .i64 (x14+1)))
        (rec r257043.2.2.2.1 r257043.2.1 r257043.2.2.1 r257043.2.2.2.2.1 x4 x5 x6 x7 x8 x9 x10 x11 x12 x13 (y0 .i64 (x14+1))))
       (rec x0 x1 x2 x3 x4 x5 x6 x7 x8 x9 x10 x11 x12 x13 (y0 .i64 (x14+1))))
      (rec x0 x1 x2 x3 x4 x5 x6 x7 x8 x9 x10 x11 x12 x13 (y0 .i64 (x14+1)))))
    (let v257049:Int:=(y0 .i64 (x9+v257012))
    cond (decide (0≤v257049))
     (cond ((ishr .i64 v257049 16)==0)
      ((q0h F x8 v257049 x0 x1 x2 x3 x5 x6 x7).bind fun r257053=>
      cond r257053.1
       (rec r257053.2.2.2.1 r257053.2.1 r257053.2.2.1 r257053.2.2.2.2.1 x4 x5 x6 x7 x8 v257049 x10 x11 x12 x13 (y0 .i64 (x14+1)))
       (rec r257053.2.2.2.1 r257053.2.1 r257053.2.2.1 r257053.2.2.2.2.1 x4 x5 x6 x7 x8 x9 x10 x11 x12 x13 (y0 .i64 (x14+1))))
      (rec x0 x1 x2 x3 x4 x5 x6 x7 x8 x9 x10 x11 x12 x13 (y0 .i64 (x14+1))))
     (rec x0 x1 x2 x3 x4 x5 x6 x7 x8 x9 x10 x11 x12 x13 (y0 .i64 (x14+1)))))
    none)
  (some (x0,x1,x2,x3,x4,x5,x6,x7,x8,x9,x10,x11,x12,()))
def q0b(F:Nat):Nat→LI→Int→LI→Int→Int→LI→LI→Bool→Int→Int→Int→Int→Bool→LI→Int→Option (LI×Int×LI×Int×Int×LI×LI×Bool×Int×Int×Int×Int×Bool×Unit)
 |0,_,_,_,_,_,_,_,_,_,_,_,_,_,_,_=>none
 |k+1,x0,x1,x2,x3,x4,x5,x6,x7,x8,x9,x10,x11,x12,x13,x14=>q4i F (q0b F k) x0 x1 x2 x3 x4 x5 x6 x7 x8 x9 x10 x11 x12 x13 x14
def q24(rec:LI→Int→LI→Int→Int→LI→LI→Bool→Int→Int→Int→Option (LI×Int×LI×Int×Unit))(x0:LI)(x1:Int)(x2:LI)(x3:Int)(x4:Int)(x5:LI)(x6:LI)(x7:Bool)(x8:Int)(x9:Int)(x10:Int):Option (LI×Int×LI×Int×Unit):=
 cond (decide (x10<3))
  (let b256955:Bool:=(x4==2)
  cond b256955
   ((z3v F).bind fun r256956=>
   (q0b F F x0 x1 x2 x3 x4 x5 x6 x7 x8 x9 x10 x4 b256955 r256956.1 0).bind fun r257059=>
   rec r257059.1 r257059.2.1 r257059.2.2.1 r257059.2.2.2.1 r257059.2.2.2.2.1 r257059.2.2.2.2.2.1 r257059.2.2.2.2.2.2.1 r257059.2.2.2.2.2.2.2.1 r257059.2.2.2.2.2.2.2.2.1 r257059.2.2.2.2.2.2.2.2.2.1 (y0 .i64 (r257059.2.2.2.2.2.2.2.2.2.2.1+1)))
   (some (x0,x1,x2,x3,())))
  (some (x0,x1,x2,x3,()))
def q0y(F:Nat):Nat→LI→Int→LI→Int→Int→LI→LI→Bool→Int→Int→Int→Option (LI×Int×LI×Int×Unit)
 |0,_,_,_,_,_,_,_,_,_,_,_=>none
 |k+1,x0,x1,x2,x3,x4,x5,x6,x7,x8,x9,x10=>q24 F (q0y F k) x0 x1 x2 x3 x4 x5 x6 x7 x8 x9 x10
def q1b(a0:LI)(a1:Int)(a2:LI)(a3:Int)(a4:LI)(a5:LI)(a6:Bool)(a7:Int):Option (Int×LI×LI×Int×Unit):=
 (q7e F a4 3).bind fun r256694=>
 (qkd F r256694.1).bind fun r256695=>
 (qkd F r256694.2.1).bind fun r256696=>
 (q0h F r256695.1 r256696.1 a0 a1 a2 a3 a5 a4 a6).bind fun r256697=>
 (q0y F F r256697.2.2.2.1 r256697.2.1 r256697.2.2.1 r256697.2.2.2.2.1 a7 a5 a4 a6 r256695.1 r256696.1 0).bind fun r257063=>
 some (r257063.2.1,r257063.2.2.1,r257063.1,r257063.2.2.2.1,())
def qea(rec:LI→LI→Int→Option (LI×Unit))(x0:LI)(x1:LI)(x2:Int):Option (LI×Unit):=
 cond (decide (x2<16))
  (let b257104:Bool:=((decide (0≤x2))&&(decide (x2<16)))
  cond b257104
   ((q8h F (y7 (y8 4 (y9 ((y6 x2)*4) x1)) 3 0) 4).bind fun r257107=>
   cond b257104
    (rec (yw x0 (y6 x2) r257107.1) x1 (y0 .i64 (x2+1)))
     none)
    none)
  (some (x0,()))
def q6l(F:Nat):Nat→LI→LI→Int→Option (LI×Unit)
 |0,_,_,_=>none
 |k+1,x0,x1,x2=>qea F (q6l F k) x0 x1 x2
def ql6(a0:LI):Option (LI×Unit):=
 (q6l F F q21 a0 0).bind fun r257111=>
 (q1v F r257111.1).bind fun r257112=>
 some (r257112.1,())
def qaw(F:Nat)(rec:Int→LI→LI→Int→Option (LI×Unit))(x0:Int)(x1:LI)(x2:LI)(x3:Int):Option (LI×Unit):=
 cond (decide (x3<16))
  (let b257164:Bool:=((decide (0≤x3))&&(decide (x3<16)))
  cond b257164
   (cond ((decide (0≤x0))&&(decide (x0<4)))
    (cond b257164
     (rec x0 (yw x1 ((y6 x3)*4) (y7 (y8 4 (y9 ((y6 x3)*4) x2)) (y6 x0) 0)) x2 (y0 .i64 (x3+1)))
      none)
     none)
    none)
  (some (x1,()))
def q4c(F:Nat):Nat→Int→LI→LI→Int→Option (LI×Unit)
 |0,_,_,_,_=>none
 |k+1,x0,x1,x2,x3=>qaw F (q4c F k) x0 x1 x2 x3
def qax(a0:LI)(a1:Int):Option (Int×Unit):=
 (q4c F F a1 q12 a0 0).bind fun r257172=>
 (qaq F 4 r257172.1).bind fun r257173=>
 let n257174:Nat:=(ya r257173.1)
 cond (decide (0<((n257174:Nat):Int)))
  (some ((y7 r257173.1 0 0),()))
   none
def q1h:LI:=[0,0,0,0,0,0,0,0]
def q87(F:Nat)(a0:Int)(a1:Int):Option (Int×Unit):=
 let v257193:Int:=(y0 .i64 (a0-a1))
 some ((y0 .i64 (v257193*v257193)),())
def q0r(rec:LI→Int→Int→Int→Int→Option (Int×Unit))(x0:LI)(x1:Int)(x2:Int)(x3:Int)(x4:Int):Option (Int×Unit):=
 cond (decide (x4<x3))
  (cond ((decide (0≤x4))&&(decide (x4<(((ya x0):Nat):Int))))
   (cond ((decide (0≤x2))&&(decide (x2<(((ya x0):Nat):Int))))
    ((q87 F (y7 x0 (y6 x4) 0) x1).bind fun r257279=>
    (q87 F (y7 x0 (y6 x2) 0) x1).bind fun r257280=>
    cond (decide (r257279.1<r257280.1))
     (rec x0 x1 x4 x3 (y0 .i64 (x4+1)))
     (rec x0 x1 x2 x3 (y0 .i64 (x4+1))))
     none)
    none)
  (some (x2,()))
def q0j(F:Nat):Nat→LI→Int→Int→Int→Int→Option (Int×Unit)
 |0,_,_,_,_,_=>none
 |k+1,x0,x1,x2,x3,x4=>q0r F (q0j F k) x0 x1 x2 x3 x4
def q1k(a0:LI)(a1:Int):Option (Int×Unit):=
 (q0j F F a0 a1 0 (((ya a0):Nat):Int) 0).bind fun r257284=>
 some (r257284.1,())
def qay(rec:Int→Int→Int→LI→LI→LI→Int→LI→Int→Option (Int×Int×Int×LI×LI×Int×Unit))(x0:Int)(x1:Int)(x2:Int)(x3:LI)(x4:LI)(x5:LI)(x6:Int)(x7:LI)(x8:Int):Option (Int×Int×Int×LI×LI×Int×Unit):=
 cond (decide (x8<16))
  (let b257464:Bool:=((decide (0≤x8))&&(decide (x8<16)))
  cond b257464
   (let v257465:Int:=(y7 x7 (y6 x8) 0)
   (q1k F x4 v257465).bind fun r257466=>
   cond b257464
    (let l257468:LI:=(yw x5 (y6 x8) r257466.1)
    cond b257464
     (let v257469:Int:=(y7 l257468 (y6 x8) 0)
     let b257470:Bool:=((decide (0≤v257469))&&(decide (v257469<8)))
     cond b257470
      (let v257473:Int:=(y0 .i64 ((y7 x4 (y6 v257469) 0)-v257465))
      cond b257464
       (cond b257470
        (rec x0 x1 x2 x3 x4 l257468 (y0 .i64 (x6+(y0 .i64 (v257473*v257473)))) x7 (y0 .i64 (x8+1)))
         none)
        none)
       none)
      none)
     none)
    none)
  (some (x0,x1,x2,x3,x5,x6,()))
def q4d(F:Nat):Nat→Int→Int→Int→LI→LI→LI→Int→LI→Int→Option (Int×Int×Int×LI×LI×Int×Unit)
 |0,_,_,_,_,_,_,_,_,_=>none
 |k+1,x0,x1,x2,x3,x4,x5,x6,x7,x8=>qay F (q4d F k) x0 x1 x2 x3 x4 x5 x6 x7 x8
def q1c(a0:Int)(a1:Int)(a2:LI)(a3:Int)(a4:LI):Option (Int×LI×Unit):=
 (q27 F a0 255).bind fun r257433=>
 (q27 F a1 255).bind fun r257434=>
 (qfe F r257433.1 r257434.1).bind fun r257435=>
 (q4d F F r257433.1 r257434.1 a3 a4 r257435.1 q21 0 a2 0).bind fun r257477=>
 cond (decide (r257477.2.2.1<0))
  ((q26 F r257477.1 r257477.2.1 r257477.2.2.2.2.1).bind fun r257480=>
  some (r257477.2.2.2.2.2.1,r257480.1,()))
  (cond (decide (r257477.2.2.2.2.2.1<r257477.2.2.1))
   ((q26 F r257477.1 r257477.2.1 r257477.2.2.2.2.1).bind fun r257483=>
   some (r257477.2.2.2.2.2.1,r257483.1,()))
   (some (r257477.2.2.1,r257477.2.2.2.1,())))
def qgs(F:Nat)(rec:Int→Int→LI→LI→Int→Int→LI→Int→Option (Int×Int×LI×LI×Int×Int×Unit))(x0:Int)(x1:Int)(x2:LI)(x3:LI)(x4:Int)(x5:Int)(x6:LI)(x7:Int):Option (Int×Int×LI×LI×Int×Int×Unit):=
 cond (decide (x7<16))
  (let b257550:Bool:=((decide (0≤x7))&&(decide (x7<16)))
  cond b257550
   (let b257552:Bool:=((decide (0≤x0))&&(decide (x0<4)))
   cond b257552
    (let v257554:Int:=(y7 (y8 4 (y9 ((y6 x7)*4) x6)) (y6 x0) 0)
    cond b257550
     (cond b257552
      (cond b257552
       (rec x0 x1 x2 (yw x3 (y6 x7) v257554) (min x4 v257554) (max x5 v257554) x6 (y0 .i64 (x7+1)))
        none)
       none)
      none)
     none)
    none)
  (some (x0,x1,x2,x3,x4,x5,()))
def q7s(F:Nat):Nat→Int→Int→LI→LI→Int→Int→LI→Int→Option (Int×Int×LI×LI×Int×Int×Unit)
 |0,_,_,_,_,_,_,_,_=>none
 |k+1,x0,x1,x2,x3,x4,x5,x6,x7=>qgs F (q7s F k) x0 x1 x2 x3 x4 x5 x6 x7
def qgt(rec:Int→Int→LI→LI→Int→Int→Option (LI×Unit))(x0:Int)(x1:Int)(x2:LI)(x3:LI)(x4:Int)(x5:Int):Option (LI×Unit):=
 cond (decide (x5≤3))
  (let v257595:Int:=(y0 .i64 (x1-x5))
  let v257596:Int:=(y0 .i64 (x0+x5))
  (q1c F v257595 v257596 x3 x4 x2).bind fun r257597=>
  (q1c F v257596 v257595 x3 r257597.1 r257597.2.1).bind fun r257599=>
  (q1c F v257595 x0 x3 r257599.1 r257599.2.1).bind fun r257601=>
  (q1c F x1 v257596 x3 r257601.1 r257601.2.1).bind fun r257603=>
  rec x0 x1 r257603.2.1 x3 r257603.1 (y0 .i64 (x5+1)))
  (some (x2,()))
def q6b(F:Nat):Nat→Int→Int→LI→LI→Int→Int→Option (LI×Unit)
 |0,_,_,_,_,_,_=>none
 |k+1,x0,x1,x2,x3,x4,x5=>qgt F (q6b F k) x0 x1 x2 x3 x4 x5
def q5z(a0:LI)(a1:Int)(a2:Int):Option (LI×Unit):=
 (q7s F F a1 a2 a0 q21 255 0 a0 0).bind fun r257560=>
 (qax F r257560.2.2.1 r257560.1).bind fun r257561=>
 (q1c F r257561.1 r257561.1 r257560.2.2.2.1 (-1) []).bind fun r257562=>
 (q1c F r257560.2.2.2.2.2.1 r257560.2.2.2.2.1 r257560.2.2.2.1 r257562.1 r257562.2.1).bind fun r257564=>
 (q1c F r257560.2.2.2.2.1 r257560.2.2.2.2.2.1 r257560.2.2.2.1 r257564.1 r257564.2.1).bind fun r257566=>
 cond (r257560.2.1==2)
  ((q6b F F r257560.2.2.2.2.1 r257560.2.2.2.2.2.1 r257566.2.1 r257560.2.2.2.1 r257566.1 1).bind fun r257606=>
  some (r257606.1,()))
  (some (r257566.2.1,()))
def qjv(rec:LI→LI→LI→LI→Int→Int→LI→Int→Option (LI×LI×LI×LI×Int×Unit))(x0:LI)(x1:LI)(x2:LI)(x3:LI)(x4:Int)(x5:Int)(x6:LI)(x7:Int):Option (LI×LI×LI×LI×Int×Unit):=
 cond (decide (x7<4))
  (let b257748:Bool:=((decide (0≤x7))&&(decide (x7<4)))
  cond b257748
   (let v257749:Int:=(y7 x6 (y6 x7) 0)
   (q27 F (y0 .i64 (yv (y0 .i64 ((y0 .i64 (v257749+1))-x4)) 2)) 127).bind fun r257753=>
   let b257754:Bool:=((decide (0≤x4))&&(decide (x4<2)))
   cond b257754
    (cond b257748
     (let n257756:Nat:=(((y6 x4)*4)+(y6 x7))
     let l257757:LI:=(yw x2 n257756 r257753.1)
     cond b257754
      (cond b257748
       (let v257761:Int:=(y0 .i64 ((y0 .i64 ((y0 .i64 (2*(y7 l257757 n257756 0)))+x4))-v257749))
       cond b257754
        (cond b257754
         (rec x0 x1 l257757 (yw x3 (y6 x4) (y0 .i64 ((y7 x3 (y6 x4) 0)+(y0 .i64 (v257761*v257761))))) x4 x5 x6 (y0 .i64 (x7+1)))
          none)
         none)
        none)
       none)
      none)
     none)
    none)
  (some (x0,x1,x2,x3,x5,()))
def qcs(F:Nat):Nat→LI→LI→LI→LI→Int→Int→LI→Int→Option (LI×LI×LI×LI×Int×Unit)
 |0,_,_,_,_,_,_,_,_=>none
 |k+1,x0,x1,x2,x3,x4,x5,x6,x7=>qjv F (qcs F k) x0 x1 x2 x3 x4 x5 x6 x7
def qjw(rec:LI→LI→LI→LI→Int→Option (LI×LI×LI×Unit))(x0:LI)(x1:LI)(x2:LI)(x3:LI)(x4:Int):Option (LI×LI×LI×Unit):=
 cond (decide (x4<2))
  ((qcs F F x0 x1 x2 x3 x4 x4 x0 0).bind fun r257768=>
  rec r257768.1 r257768.2.1 r257768.2.2.1 r257768.2.2.2.1 (y0 .i64 (r257768.2.2.2.2.1+1)))
  (some (x1,x2,x3,()))
def q9y(F:Nat):Nat→LI→LI→LI→LI→Int→Option (LI×LI×LI×Unit)
 |0,_,_,_,_,_=>none
 |k+1,x0,x1,x2,x3,x4=>qjw F (q9y F k) x0 x1 x2 x3 x4
def qhl(a0:LI):Option (LI×Int×Unit):=
 (q9y F F a0 [0,0,0,0] q1h [0,0] 0).bind fun r257770=>
 let v257771:Int:=(y7 r257770.2.2.1 1 0)
 let v257772:Int:=(y7 r257770.2.2.1 0 0)
 cond (decide (v257771<v257772))
  (some ((y8 4 (y9 4 r257770.2.1)),1,()))
  (some ((y8 4 r257770.2.1),0,()))
def qhm(a0:LI)(a1:LI):Option (Int×Unit):=
 (ql5 F a1 a0 4).bind fun r257962=>
 some (r257962.1,())
def q0o(rec:LI→LI→Int→Int→Int→Option (Int×Unit))(x0:LI)(x1:LI)(x2:Int)(x3:Int)(x4:Int):Option (Int×Unit):=
 let n258039:Nat:=((ya x0)/4)
 cond (decide (x4<x3))
  (cond ((decide (0≤x4))&&(decide (x4<((n258039:Nat):Int))))
   (cond ((decide (0≤x2))&&(decide (x2<((n258039:Nat):Int))))
    ((qhm F (y8 4 (y9 ((y6 x4)*4) x0)) x1).bind fun r258047=>
    (qhm F (y8 4 (y9 ((y6 x2)*4) x0)) x1).bind fun r258048=>
    cond (decide (r258047.1<r258048.1))
     (rec x0 x1 x4 x3 (y0 .i64 (x4+1)))
     (rec x0 x1 x2 x3 (y0 .i64 (x4+1))))
     none)
    none)
  (some (x2,()))
def q0e(F:Nat):Nat→LI→LI→Int→Int→Int→Option (Int×Unit)
 |0,_,_,_,_,_=>none
 |k+1,x0,x1,x2,x3,x4=>q0o F (q0e F k) x0 x1 x2 x3 x4
def q19(a0:LI)(a1:LI):Option (Int×Unit):=
 (q0e F F a0 a1 0 ((((ya a0)/4):Nat):Int) 0).bind fun r258052=>
 some (r258052.1,())
def qjx(rec:LI→LI→LI→LI→LI→Int→Option (LI×LI×LI×Unit))(x0:LI)(x1:LI)(x2:LI)(x3:LI)(x4:LI)(x5:Int):Option (LI×LI×LI×Unit):=
 cond (decide (x5<16))
  (let b258117:Bool:=((decide (0≤x5))&&(decide (x5<16)))
  cond b258117
   ((q19 F x2 (y8 4 (y9 ((y6 x5)*4) x4))).bind fun r258119=>
   cond b258117
    (rec x0 x1 x2 (yw x3 (y6 x5) r258119.1) x4 (y0 .i64 (x5+1)))
     none)
    none)
  (some (x0,x1,x3,()))
def q9z(F:Nat):Nat→LI→LI→LI→LI→LI→Int→Option (LI×LI×LI×Unit)
 |0,_,_,_,_,_,_=>none
 |k+1,x0,x1,x2,x3,x4,x5=>qjx F (q9z F k) x0 x1 x2 x3 x4 x5
def qjy(F:Nat)(rec:LI→LI→LI→LI→Int→Option (LI×LI×LI×Unit))(x0:LI)(x1:LI)(x2:LI)(x3:LI)(x4:Int):Option (LI×LI×LI×Unit):=
 cond (decide (x4<16))
  (let b258145:Bool:=((decide (0≤x4))&&(decide (x4<16)))
  cond b258145
   (cond b258145
    (rec x0 x1 (yw x2 (y6 x4) (y0 .i64 (15-(y7 x3 (y6 x4) 0)))) x3 (y0 .i64 (x4+1)))
     none)
    none)
  (some (x0,x1,x2,()))
def q7f(F:Nat):Nat→LI→LI→LI→LI→Int→Option (LI×LI×LI×Unit)
 |0,_,_,_,_,_=>none
 |k+1,x0,x1,x2,x3,x4=>qjy F (q7f F k) x0 x1 x2 x3 x4
def qeb(a0:LI)(a1:LI)(a2:LI):Option (LI×Unit):=
 (qhf F a1 a2).bind fun r258102=>
 (qcp F (y8 4 r258102.1) (y8 4 (y9 4 r258102.1))).bind fun r258105=>
 (q9z F F a1 a2 r258105.1 q21 a0 0).bind fun r258123=>
 let v258124:Int:=(y7 r258123.2.2.1 0 0)
 cond (decide (8≤v258124))
  (let l258130:LI:=(((y8 0 r258123.1)++(y8 4 (y9 4 r258123.1)))++(y9 4 r258123.1))
  (q7f F F (((y8 4 l258130)++(y8 4 r258123.1))++(y9 8 l258130)) (yw (yw r258123.2.1 0 (y7 r258123.2.1 1 0)) 1 (y7 r258123.2.1 0 0)) r258123.2.2.1 r258123.2.2.1 0).bind fun r258151=>
  (q52 F r258151.1 r258151.2.1 r258151.2.2.1).bind fun r258152=>
  some (r258152.1,()))
  ((q52 F r258123.1 r258123.2.1 r258123.2.2.1).bind fun r258154=>
  some (r258154.1,()))
def q5n(rec:LI→Int→LI→Int→Int→LI→LI→Int→Int→Int→Bool→Int→LI→Int→Option (LI×Int×LI×Int×Int×LI×LI×Int×Int×Bool×Int×Unit))(x0:LI)(x1:Int)(x2:LI)(x3:Int)(x4:Int)(x5:LI)(x6:LI)(x7:Int)(x8:Int)(x9:Int)(x10:Bool)(x11:Int)(x12:LI)(x13:Int):Option (LI×Int×LI×Int×Int×LI×LI×Int×Int×Bool×Int×Unit):=
 cond (decide (x13<2))
  (cond ((decide (0≤x13))&&(decide (x13<2)))
   (let v258973:Int:=(y0 .i64 (yv x8 4))
   let v258974:Int:=(yu x8 4)
   cond ((decide (0≤v258973))&&(decide (v258973<2)))
    (cond ((decide (0≤v258974))&&(decide (v258974<4)))
     (let n258978:Nat:=(((y6 v258973)*4)+(y6 v258974))
     (q27 F (y0 .i64 ((y7 x5 n258978 0)+(y7 x12 (y6 x13) 0))) 127).bind fun r258981=>
     let l258982:LI:=(yw x5 n258978 r258981.1)
     (qeb F x2 l258982 x6).bind fun r258983=>
     (q0p F x0 x1 x2 x3 r258983.1).bind fun r258985=>
     cond r258985.1
      (rec r258985.2.2.2.1 r258985.2.1 r258985.2.2.1 r258985.2.2.2.2.1 x4 l258982 x6 x7 x8 x9 x10 x11 x12 (y0 .i64 (x13+1)))
      (rec r258985.2.2.2.1 r258985.2.1 r258985.2.2.1 r258985.2.2.2.2.1 x4 x5 x6 x7 x8 x9 x10 x11 x12 (y0 .i64 (x13+1))))
      none)
     none)
    none)
  (some (x0,x1,x2,x3,x4,x5,x6,x7,x9,x10,x11,()))
def q1q(F:Nat):Nat→LI→Int→LI→Int→Int→LI→LI→Int→Int→Int→Bool→Int→LI→Int→Option (LI×Int×LI×Int×Int×LI×LI×Int×Int×Bool×Int×Unit)
 |0,_,_,_,_,_,_,_,_,_,_,_,_,_,_=>none
 |k+1,x0,x1,x2,x3,x4,x5,x6,x7,x8,x9,x10,x11,x12,x13=>q5n F (q1q F k) x0 x1 x2 x3 x4 x5 x6 x7 x8 x9 x10 x11 x12 x13
def q5o(rec:LI→Int→LI→Int→Int→LI→LI→Int→Int→Bool→Int→Option (LI×Int×LI×Int×Int×LI×LI×Int×Int×Bool×Unit))(x0:LI)(x1:Int)(x2:LI)(x3:Int)(x4:Int)(x5:LI)(x6:LI)(x7:Int)(x8:Int)(x9:Bool)(x10:Int):Option (LI×Int×LI×Int×Int×LI×LI×Int×Int×Bool×Unit):=
 cond (decide (x10<8))
  ((q1q F F x0 x1 x2 x3 x4 x5 x6 x7 x10 x8 x9 x10 [1,(-1)] 0).bind fun r258989=>
  rec r258989.1 r258989.2.1 r258989.2.2.1 r258989.2.2.2.1 r258989.2.2.2.2.1 r258989.2.2.2.2.2.1 r258989.2.2.2.2.2.2.1 r258989.2.2.2.2.2.2.2.1 r258989.2.2.2.2.2.2.2.2.1 r258989.2.2.2.2.2.2.2.2.2.1 (y0 .i64 (r258989.2.2.2.2.2.2.2.2.2.2.1+1)))
  (some (x0,x1,x2,x3,x4,x5,x6,x7,x8,x9,()))
def q1r(F:Nat):Nat→LI→Int→LI→Int→Int→LI→LI→Int→Int→Bool→Int→Option (LI×Int×LI×Int×Int×LI×LI×Int×Int×Bool×Unit)
 |0,_,_,_,_,_,_,_,_,_,_,_=>none
 |k+1,x0,x1,x2,x3,x4,x5,x6,x7,x8,x9,x10=>q5o F (q1r F k) x0 x1 x2 x3 x4 x5 x6 x7 x8 x9 x10
def q5p(rec:LI→Int→LI→Int→Int→LI→LI→Int→Int→Bool→Int→Option (LI×Int×LI×Int×Int×LI×LI×Int×Int×Bool×Unit))(x0:LI)(x1:Int)(x2:LI)(x3:Int)(x4:Int)(x5:LI)(x6:LI)(x7:Int)(x8:Int)(x9:Bool)(x10:Int):Option (LI×Int×LI×Int×Int×LI×LI×Int×Int×Bool×Unit):=
 cond (decide (x10<2))
  (let b259009:Bool:=((decide (0≤x10))&&(decide (x10<2)))
  cond b259009
   (cond b259009
    (let l259013:LI:=(yw x6 (y6 x10) (y0 .i64 (1-(y7 x6 (y6 x10) 0))))
    (qeb F x2 x5 l259013).bind fun r259014=>
    (q0p F x0 x1 x2 x3 r259014.1).bind fun r259016=>
    cond r259016.1
     (rec r259016.2.2.2.1 r259016.2.1 r259016.2.2.1 r259016.2.2.2.2.1 x4 x5 l259013 x7 x8 x9 (y0 .i64 (x10+1)))
     (rec r259016.2.2.2.1 r259016.2.1 r259016.2.2.1 r259016.2.2.2.2.1 x4 x5 x6 x7 x8 x9 (y0 .i64 (x10+1))))
     none)
    none)
  (some (x0,x1,x2,x3,x4,x5,x6,x7,x8,x9,()))
def q1s(F:Nat):Nat→LI→Int→LI→Int→Int→LI→LI→Int→Int→Bool→Int→Option (LI×Int×LI×Int×Int×LI×LI×Int×Int×Bool×Unit)
 |0,_,_,_,_,_,_,_,_,_,_,_=>none
 |k+1,x0,x1,x2,x3,x4,x5,x6,x7,x8,x9,x10=>q5p F (q1s F k) x0 x1 x2 x3 x4 x5 x6 x7 x8 x9 x10
def q2e(rec:LI→Int→LI→Int→Int→LI→LI→Int→Option (LI×Int×LI×Int×Unit))(x0:LI)(x1:Int)(x2:LI)(x3:Int)(x4:Int)(x5:LI)(x6:LI)(x7:Int):Option (LI×Int×LI×Int×Unit):=
 cond (decide (x7<3))
  (let b258901:Bool:=(x4==2)
  cond b258901
   ((q1r F F x0 x1 x2 x3 x4 x5 x6 x7 x4 b258901 0).bind fun r258992=>
   (q1s F F r258992.1 r258992.2.1 r258992.2.2.1 r258992.2.2.2.1 r258992.2.2.2.2.1 r258992.2.2.2.2.2.1 r258992.2.2.2.2.2.2.1 r258992.2.2.2.2.2.2.2.1 r258992.2.2.2.2.2.2.2.2.1 r258992.2.2.2.2.2.2.2.2.2.1 0).bind fun r259020=>
   rec r259020.1 r259020.2.1 r259020.2.2.1 r259020.2.2.2.1 r259020.2.2.2.2.1 r259020.2.2.2.2.2.1 r259020.2.2.2.2.2.2.1 (y0 .i64 (r259020.2.2.2.2.2.2.2.1+1)))
   (some (x0,x1,x2,x3,())))
  (some (x0,x1,x2,x3,()))
def q0t(F:Nat):Nat→LI→Int→LI→Int→Int→LI→LI→Int→Option (LI×Int×LI×Int×Unit)
 |0,_,_,_,_,_,_,_,_=>none
 |k+1,x0,x1,x2,x3,x4,x5,x6,x7=>q2e F (q0t F k) x0 x1 x2 x3 x4 x5 x6 x7
def q6c(a0:LI)(a1:Int)(a2:LI)(a3:Int)(a4:Int):Option (Int×LI×LI×Int×Unit):=
 (q7e F a2 4).bind fun r258595=>
 (qhl F r258595.1).bind fun r258596=>
 let l258597:LI:=(((y8 0 q1h)++r258596.1)++(y9 4 q1h))
 (qhl F r258595.2.1).bind fun r258598=>
 let l258599:LI:=(((y8 4 l258597)++r258598.1)++(y9 8 l258597))
 (qeb F a2 l258599 [r258596.2.1,r258598.2.1]).bind fun r258600=>
 (q0p F a0 a1 a2 a3 r258600.1).bind fun r258602=>
 (q0t F F r258602.2.2.2.1 r258602.2.1 r258602.2.2.1 r258602.2.2.2.2.1 a4 l258599 [r258596.2.1,r258598.2.1] 0).bind fun r259023=>
 some (r259023.2.1,r259023.2.2.1,r259023.1,r259023.2.2.2.1,())
def q16(rec:Int→Int→LI→LI→Int→LI→Int→Int→Option (LI×Int×LI×Int×Unit))(x0:Int)(x1:Int)(x2:LI)(x3:LI)(x4:Int)(x5:LI)(x6:Int)(x7:Int):Option (LI×Int×LI×Int×Unit):=
 cond (decide (x7≤x1))
  (let b259187:Bool:=(x0==1)
  cond b259187
   ((q1b F x3 x4 x5 x6 x2 [] false x7).bind fun r259188=>
   rec x0 x1 x2 r259188.2.2.1 r259188.1 r259188.2.1 r259188.2.2.2.1 (y0 .i64 (x7+1)))
   (let b259191:Bool:=(x0==2)
   cond b259191
    ((ql6 F x2).bind fun r259192=>
    (q1b F x3 x4 x5 x6 x2 r259192.1 true x7).bind fun r259194=>
    rec x0 x1 x2 r259194.2.2.1 r259194.1 r259194.2.1 r259194.2.2.2.1 (y0 .i64 (x7+1)))
    (let b259197:Bool:=(x0==3)
    cond b259197
     ((q5z F x2 3 x7).bind fun r259198=>
     (q1b F x3 x4 x5 x6 x2 r259198.1 true x7).bind fun r259200=>
     rec x0 x1 x2 r259200.2.2.1 r259200.1 r259200.2.1 r259200.2.2.2.1 (y0 .i64 (x7+1)))
     (let b259203:Bool:=(x0==4)
     cond b259203
      ((q5z F x2 0 x7).bind fun r259204=>
      (q0p F x3 x4 x5 x6 r259204.1).bind fun r259206=>
      rec x0 x1 x2 r259206.2.2.2.1 r259206.2.1 r259206.2.2.1 r259206.2.2.2.2.1 (y0 .i64 (x7+1)))
      (let b259209:Bool:=(x0==5)
      cond b259209
       ((q5z F x2 0 x7).bind fun r259210=>
       let n259211:Nat:=(ya r259210.1)
       (q5z F x2 1 x7).bind fun r259212=>
       let n259213:Nat:=(ya r259212.1)
       cond ((decide ((n259211+n259213)≤1099511627776))&&true)
        ((q0p F x3 x4 x5 x6 (r259210.1++r259212.1)).bind fun r259217=>
        rec x0 x1 x2 r259217.2.2.2.1 r259217.2.1 r259217.2.2.1 r259217.2.2.2.2.1 (y0 .i64 (x7+1)))
         none)
       ((q6c F x3 x4 x5 x6 x7).bind fun r259220=>
       rec x0 x1 x2 r259220.2.2.1 r259220.1 r259220.2.1 r259220.2.2.2.1 (y0 .i64 (x7+1))))))))
  (some (x3,x4,x5,x6,()))
def q1t(F:Nat):Nat→Int→Int→LI→LI→Int→LI→Int→Int→Option (LI×Int×LI×Int×Unit)
 |0,_,_,_,_,_,_,_,_=>none
 |k+1,x0,x1,x2,x3,x4,x5,x6,x7=>q16 F (q1t F k) x0 x1 x2 x3 x4 x5 x6 x7
def q1e(a0:Int)(a1:LI)(a2:Int):Option (LI×Int×Int×Unit):=
 cond (decide (a0<1))
  (some ([],0,5,()))
  (cond (decide (6<a0))
   (some ([],0,5,()))
   ((qaq F a0 a1).bind fun r259107=>
   cond (r259107.2.1 !=0)
    (some ([],0,1,()))
    (cond (decide (a2<0))
     (some ([],0,1,()))
     (cond (decide (2<a2))
      (some ([],0,1,()))
      ((qaq F a0 a1).bind fun r259112=>
      (q9r F a0 r259112.1 a1).bind fun r259114=>
      (q1t F F a0 a2 a1 r259112.1 a0 a1 r259114.1 1).bind fun r259223=>
      some (r259223.1,r259223.2.2.2.1,0,()))))))
def ql7:Option (Bool×Unit):=
 (ql4 F [0,9,9,9] [255,9,9,9] 21).bind fun r256030=>
 (q1e F 4 r256030.1 1).bind fun r259225=>
 (q1e F 4 r256030.1 0).bind fun r259227=>
 (q1e F 7 r256030.1 1).bind fun r259229=>
 cond ((((ya r259225.1):Nat):Int)==8)
  (cond (r259225.2.1==0)
   (cond (r259225.2.2.1==0)
    (cond ((((ya r259227.1):Nat):Int)==8)
     (cond (decide (0<r259227.2.1))
      (cond (r259227.2.2.1==0)
       (some ((r259229.2.2.1==5),()))
       (some (false,())))
      (some (false,())))
     (some (false,())))
    (some (false,())))
   (some (false,())))
  (some (false,()))
def ql8(a0:Int)(a1:LI):Option (Bool×Unit):=
 (ql7 F).bind fun r259256=>
 (qhj F a0 a1 0 1 6).bind fun r259257=>
 cond (r259257.1 !=0)
  (some (r259256.1,()))
  ((q1e F a0 a1 0).bind fun r259259=>
  (q1e F a0 a1 1).bind fun r259261=>
  (q1e F a0 a1 2).bind fun r259263=>
  (q6k F a0 a1).bind fun r259265=>
  (z03 F r259259.1 r259265.1).bind fun r259267=>
  cond r259256.1
   (cond (r259259.2.2.1==0)
    (cond (r259261.2.2.1==0)
     (cond (r259263.2.2.1==0)
      (cond r259267.1
       (cond (decide (r259261.2.1≤r259259.2.1))
        (some ((decide (r259263.2.1≤r259261.2.1)),()))
        (some (false,())))
       (some (false,())))
      (some (false,())))
     (some (false,())))
    (some (false,())))
   (some (false,())))
end
end Go.AE.Gn

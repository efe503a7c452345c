/- A part of the proof, put together of my texts: A02defs, A07defs, A08defs, B06defs, B10defs, C09defs. -/
import Derived.Test.YtdnccegimipapaaGreatRowBcfitLessP3
set_option linter.unusedSimpArgs false
set_option linter.unusedVariables false
open Go.IntKind renaming wrap → y0
open List renaming length → ya, set → yw, take → y8, drop → y9, getD → y7, replicate → yx
open Int renaming toNat → y6, tdiv → yv, tmod → yu
namespace Go.AE.Gn
open Go Go.AE
def qp9(F:Nat)(a0:LI)(a1:Int)(a2:Int):Option (Bool×Unit):=
 let v2:Int:=(y0 .i64 (8*(((ya a0):Nat):Int)))
 cond (decide (a1≤v2))
  (let v4:Int:=(y0 .i64 (v2-a1))
  some ((decide (a2≤v4)),()))
  (some (false,()))
section
variable (F:Nat)
def qkc(a0:LI)(a1:Int)(a2:Int):Option (Int×Unit):=
 cond (decide (a1<0))
  (some (1,()))
  (cond (decide (a2<0))
   (some (1,()))
   (cond (decide (64<a2))
    (some (1,()))
    ((qp9 F a0 a1 a2).bind fun r10=>
    cond (!r10.1)
     (some (2,()))
     (some (0,())))))
def z54:LI:=[0,0,0,0,0,0,0,0]
def qwq(F:Nat)(rec:Int→LI→LI→Int→Option (LI×LI×Unit))(x0:Int)(x1:LI)(x2:LI)(x3:Int):Option (LI×LI×Unit):=
 cond (decide (x3<8))
  (cond (decide (0≤x3))
   (cond ((decide (0≤x3))&&(decide (x3<8)))
    (rec x0 x1 (yw x2 (y6 x3) (iand .u8 (ishr .u8 x0 x3) 1)) (y0 .i64 (x3+1)))
     none)
    none)
  (some (x1,x2,()))
def qg3(F:Nat):Nat→Int→LI→LI→Int→Option (LI×LI×Unit)
 |0,_,_,_,_=>none
 |k+1,x0,x1,x2,x3=>qwq F (qg3 F k) x0 x1 x2 x3
def qko(a0:Int):Option (LI×Unit):=
 (qg3 F F a0 z54 z54 0).bind fun r31=>
 let l32:LI:=(if((0=0)∧(8=8))then r31.2.1 else(y8 8 (y9 0 r31.2.1)))
 let l33:LI:=(if((0=0)∧(8=8))then l32 else(((y8 0 r31.1)++l32)++(y9 8 r31.1)))
 some ((if((0=0)∧(8=8))then l33 else(y8 8 (y9 0 l33))),())
def zgt(a0:LI)(a1:Int):Option (Int×Unit):=
 let v36:Int:=(y0 .i64 (yv a1 8))
 cond ((decide (0≤v36))&&(decide (v36<(((ya a0):Nat):Int))))
  ((qko F (y7 a0 (y6 v36) 0)).bind fun r40=>
  let v41:Int:=(yu a1 8)
  cond ((decide (0≤v41))&&(decide (v41<8)))
   (some ((y7 r40.1 (y6 v41) 0),()))
    none)
   none
def qmh(rec:LI→Int→Int→Int→Int→Int→Option ((Int×Unit)⊕(Int×Int×Unit)))(x0:LI)(x1:Int)(x2:Int)(x3:Int)(x4:Int)(x5:Int):Option ((Int×Unit)⊕(Int×Int×Unit)):=
 cond (decide (x5<x4))
  (cond (x2 !=0)
   (some (.inl (x2,())))
   ((zgt F x0 (y0 .i64 (x1+x5))).bind fun r66=>
   cond (decide (0≤x5))
    (rec x0 x1 x2 (ior .u64 x3 (ishl .u64 r66.1 x5)) x4 (y0 .i64 (x5+1)))
     none))
  (some (.inr (x2,x3,())))
def qcc(F:Nat):Nat→LI→Int→Int→Int→Int→Int→Option ((Int×Unit)⊕(Int×Int×Unit))
 |0,_,_,_,_,_,_=>none
 |k+1,x0,x1,x2,x3,x4,x5=>qmh F (qcc F k) x0 x1 x2 x3 x4 x5
def z01(a0:LI)(a1:Int)(a2:Int):Option (Int×Int×Unit):=
 (qkc F a0 a1 a2).bind fun r45=>
 (qcc F F a0 a1 r45.1 0 a2 0).bind fun r71=>match r71 with
  | .inl r71=>(some (0,r71.1,()))
  | .inr r71=>(some (r71.2.1,r71.1,()))
def j10(a0:LI)(a1:Int):Option (Int×Unit):=
 let v73:Int:=(y0 .i64 (yv a1 8))
 cond ((decide (0≤v73))&&(decide (v73<(((ya a0):Nat):Int))))
  ((qko F (y7 a0 (y6 v73) 0)).bind fun r77=>
  let v79:Int:=(y0 .i64 (7-(yu a1 8)))
  cond ((decide (0≤v79))&&(decide (v79<8)))
   (some ((y7 r77.1 (y6 v79) 0),()))
    none)
   none
def z55(rec:LI→Int→Int→Int→Int→Int→Option ((Int×Unit)⊕(Int×Int×Unit)))(x0:LI)(x1:Int)(x2:Int)(x3:Int)(x4:Int)(x5:Int):Option ((Int×Unit)⊕(Int×Int×Unit)):=
 cond (decide (x5<x4))
  (cond (x2 !=0)
   (some (.inl (x2,())))
   ((j10 F x0 (y0 .i64 (x1+x5))).bind fun r103=>
   rec x0 x1 x2 (ior .u64 (ishl .u64 x3 1) r103.1) x4 (y0 .i64 (x5+1))))
  (some (.inr (x2,x3,())))
def qmi(F:Nat):Nat→LI→Int→Int→Int→Int→Int→Option ((Int×Unit)⊕(Int×Int×Unit))
 |0,_,_,_,_,_,_=>none
 |k+1,x0,x1,x2,x3,x4,x5=>z55 F (qmi F k) x0 x1 x2 x3 x4 x5
def qwr(a0:LI)(a1:Int)(a2:Int):Option (Int×Int×Unit):=
 (qkc F a0 a1 a2).bind fun r83=>
 (qmi F F a0 a1 r83.1 0 a2 0).bind fun r106=>match r106 with
  | .inl r106=>(some (0,r106.1,()))
  | .inr r106=>(some (r106.2.1,r106.1,()))
def qws(a0:LI)(a1:Int)(a2:Int)(a3:Int):Option (Int×Unit):=
 (qkc F a0 a1 a2).bind fun r108=>
 cond (r108.1 !=0)
  (some (r108.1,()))
  (cond (decide (a2<64))
   (cond (decide (0≤a2))
    (cond ((ishr .u64 a3 a2) !=0)
     (some (10,()))
     (some (0,())))
     none)
   (some (0,())))
def q5i(F:Nat)(a0:LI):Option (LI×Unit):=zi5 1 a0
def z56(F:Nat)(a0:Int)(a1:Int)(a2:Int):Option (Int×Unit):=
 let b114:Bool:=(decide (0≤a1))
 cond b114
  (cond b114
   (some ((ior .u8 (zzs .u8 a0 (ishl .u8 1 a1)) (ishl .u8 (y0 .u8 (iand .u64 a2 1)) a1)),()))
    none)
   none
def qtk(rec:Int→Int→Int→LI→Int→Int→Option (LI×Unit))(x0:Int)(x1:Int)(x2:Int)(x3:LI)(x4:Int)(x5:Int):Option (LI×Unit):=
 cond (decide (x5<x4))
  (let v160:Int:=(y0 .i64 ((y0 .i64 ((y0 .i64 (x0+x1))-1))-x5))
  let v161:Int:=(y0 .i64 (yv v160 8))
  let b162:Bool:=((decide (0≤v161))&&(decide (v161<(((ya x3):Nat):Int))))
  cond b162
   (cond (decide (0≤x5))
    ((z56 F (y7 x3 (y6 v161) 0) (y0 .i64 (7-(yu v160 8))) (ishr .u64 x2 x5)).bind fun r169=>
    cond b162
     (rec x0 x1 x2 (yw x3 (y6 v161) r169.1) x4 (y0 .i64 (x5+1)))
      none)
     none)
    none)
  (some (x3,()))
def qdf(F:Nat):Nat→Int→Int→Int→LI→Int→Int→Option (LI×Unit)
 |0,_,_,_,_,_,_=>none
 |k+1,x0,x1,x2,x3,x4,x5=>qtk F (qdf F k) x0 x1 x2 x3 x4 x5
def q9e(a0:LI)(a1:Int)(a2:Int)(a3:Int):Option (LI×Int×Unit):=
 (qws F a0 a1 a2 a3).bind fun r122=>
 cond (r122.1 !=0)
  (some ([],r122.1,()))
  ((q5i F a0).bind fun r124=>
  (qdf F F a1 a2 a3 r124.1 a2 0).bind fun r172=>
  some (r172.1,0,()))
def qkp(rec:Int→Int→LI→Int→Int→Option (LI×Unit))(x0:Int)(x1:Int)(x2:LI)(x3:Int)(x4:Int):Option (LI×Unit):=
 cond (decide (x4<x3))
  (let v205:Int:=(y0 .i64 (x0+x4))
  let v206:Int:=(y0 .i64 (yv v205 8))
  let b207:Bool:=((decide (0≤v206))&&(decide (v206<(((ya x2):Nat):Int))))
  cond b207
   (cond (decide (0≤x4))
    ((z56 F (y7 x2 (y6 v206) 0) (yu v205 8) (ishr .u64 x1 x4)).bind fun r213=>
    cond b207
     (rec x0 x1 (yw x2 (y6 v206) r213.1) x3 (y0 .i64 (x4+1)))
      none)
     none)
    none)
  (some (x2,()))
def q8d(F:Nat):Nat→Int→Int→LI→Int→Int→Option (LI×Unit)
 |0,_,_,_,_,_=>none
 |k+1,x0,x1,x2,x3,x4=>qkp F (q8d F k) x0 x1 x2 x3 x4
def q7j(a0:LI)(a1:Int)(a2:Int)(a3:Int):Option (LI×Int×Unit):=
 (qws F a0 a1 a2 a3).bind fun r175=>
 cond (r175.1 !=0)
  (some ([],r175.1,()))
  ((q5i F a0).bind fun r177=>
  (q8d F F a1 a3 r177.1 a2 0).bind fun r216=>
  some (r216.1,0,()))
def qrr(rec:LI→Int→Int→LI→Int→Int→Option (LI×Unit))(x0:LI)(x1:Int)(x2:Int)(x3:LI)(x4:Int)(x5:Int):Option (LI×Unit):=
 cond (decide (x5<x4))
  (let v248:Int:=(y0 .i64 (x5*x2))
  let v249:Int:=(y0 .i64 (x1+v248))
  (z01 F x0 v249 x2).bind fun r250=>
  let v251:Int:=(y0 .i64 r250.1)
  cond ((decide (((ya x3)+1)≤1099511627776))&&(if(false=true)then(decide (0<1))else true))
   (rec x0 x1 x2 (x3++[v251]) x4 (y0 .i64 (x5+1)))
    none)
  (some (x3,()))
def qco(F:Nat):Nat→LI→Int→Int→LI→Int→Int→Option (LI×Unit)
 |0,_,_,_,_,_,_=>none
 |k+1,x0,x1,x2,x3,x4,x5=>qrr F (qco F k) x0 x1 x2 x3 x4 x5
def qkq(a0:LI)(a1:Int)(a2:Int)(a3:Int):Option (LI×Int×Unit):=
 cond (decide (a1<0))
  (some ([],1,()))
  (cond (decide (a2<0))
   (some ([],1,()))
   (cond (decide (16<a2))
    (some ([],1,()))
    (cond (decide (a3<0))
     (some ([],1,()))
     (cond (decide (64<a3))
      (some ([],1,()))
      ((qp9 F a0 a1 (y0 .i64 (a2*a3))).bind fun r225=>
      cond (!r225.1)
       (some ([],2,()))
       ((qco F F a0 a1 a2 [] a3 0).bind fun r256=>
       some (r256.1,0,())))))))
def z02(F:Nat)(a0:LI)(a1:Int)(a2:Int):Option (Bool×Unit):=
 let v296:Int:=(y0 .i64 (8*(((ya a0):Nat):Int)))
 cond (decide (a1≤v296))
  (let v298:Int:=(y0 .i64 (v296-a1))
  some ((decide (a2≤v298)),()))
  (some (false,()))
def qrs(F:Nat)(rec:Int→Int→Int→Option (Int×Unit))(x0:Int)(x1:Int)(x2:Int):Option (Int×Unit):=
 cond (decide (x2<x0))
  (rec x0 (y0 .i64 (yv x1 2)) (y0 .i64 (x2+1)))
  (some (x1,()))
def q9f(F:Nat):Nat→Int→Int→Int→Option (Int×Unit)
 |0,_,_,_=>none
 |k+1,x0,x1,x2=>qrs F (q9f F k) x0 x1 x2
def qdg(a0:LI)(a1:Int)(a2:Bool):Option (Int×Unit):=
 let v301:Int:=(yu a1 8)
 cond a2
  (let v303:Int:=(y0 .i64 (yv a1 8))
  cond ((decide (0≤v303))&&(decide (v303<(((ya a0):Nat):Int))))
   ((q9f F F (y0 .i64 (7-v301)) (y7 a0 (y6 v303) 0) 0).bind fun r315=>
   some ((yu r315.1 2),()))
    none)
  (let v317:Int:=(y0 .i64 (yv a1 8))
  cond ((decide (0≤v317))&&(decide (v317<(((ya a0):Nat):Int))))
   ((q9f F F v301 (y7 a0 (y6 v317) 0) 0).bind fun r324=>
   some ((yu r324.1 2),()))
    none)
def qrt(rec:LI→Int→Int→Bool→Int→Int→Option (Int×Unit))(x0:LI)(x1:Int)(x2:Int)(x3:Bool)(x4:Int)(x5:Int):Option (Int×Unit):=
 cond (decide (x5<x2))
  (cond x3
   ((qdg F x0 (y0 .i64 (x1+x5)) x3).bind fun r367=>
   rec x0 x1 x2 x3 (y0 .u64 ((y0 .u64 (2*x4))+(y0 .u64 r367.1))) (y0 .i64 (x5+1)))
   ((qdg F x0 (y0 .i64 ((y0 .i64 ((y0 .i64 (x1+x2))-1))-x5)) x3).bind fun r372=>
   rec x0 x1 x2 x3 (y0 .u64 ((y0 .u64 (2*x4))+(y0 .u64 r372.1))) (y0 .i64 (x5+1))))
  (some (x4,()))
def q9g(F:Nat):Nat→LI→Int→Int→Bool→Int→Int→Option (Int×Unit)
 |0,_,_,_,_,_,_=>none
 |k+1,x0,x1,x2,x3,x4,x5=>qrt F (q9g F k) x0 x1 x2 x3 x4 x5
def qpa(a0:LI)(a1:Int)(a2:Int)(a3:Bool):Option (Int×Int×Unit):=
 cond (decide (a1<0))
  (some (0,1,()))
  (cond (decide (a2<0))
   (some (0,1,()))
   (cond (decide (64<a2))
    (some (0,1,()))
    ((z02 F a0 a1 a2).bind fun r330=>
    cond (!r330.1)
     (some (0,2,()))
     ((q9g F F a0 a1 a2 a3 0 0).bind fun r376=>
     some (r376.1,0,())))))
def qkr(F:Nat)(rec:Int→Int→Int→Option (Int×Unit))(x0:Int)(x1:Int)(x2:Int):Option (Int×Unit):=
 cond (decide (x2<x0))
  (rec x0 (y0 .u64 (2*x1)) (y0 .i64 (x2+1)))
  (some (x1,()))
def q8e(F:Nat):Nat→Int→Int→Int→Option (Int×Unit)
 |0,_,_,_=>none
 |k+1,x0,x1,x2=>qkr F (q8e F k) x0 x1 x2
def q9h(a0:Int):Option (Int×Unit):=
 (q8e F F a0 1 0).bind fun r384=>
 some (r384.1,())
def qru(rec:Int→Int→Bool→Int→LI→Int→Option (LI×Unit))(x0:Int)(x1:Int)(x2:Bool)(x3:Int)(x4:LI)(x5:Int):Option (LI×Unit):=
 cond (decide (x5<x1))
  (let v540:Int:=(y0 .i64 (x0+x5))
  cond x2
   (let v543:Int:=(y0 .i64 ((y0 .i64 ((y0 .i64 (x0+x1))-1))-x5))
   let v544:Int:=(yu v543 8)
   cond x2
    ((qdg F x4 v543 x2).bind fun r549=>
    let v550:Int:=(y0 .i64 (yv v543 8))
    let b551:Bool:=((decide (0≤v550))&&(decide (v550<(((ya x4):Nat):Int))))
    cond b551
     ((q9h F (y0 .i64 (7-v544))).bind fun r555=>
     cond b551
      (rec x0 x1 x2 (y0 .u64 (yv x3 2)) (yw x4 (y6 v550) (y0 .u8 (y0 .i64 ((y7 x4 (y6 v550) 0)+(y0 .i64 ((y0 .i64 ((y0 .i64 (yu x3 2))-r549.1))*(y0 .i64 r555.1))))))) (y0 .i64 (x5+1)))
       none)
      none)
    ((qdg F x4 v543 x2).bind fun r565=>
    let v566:Int:=(y0 .i64 (yv v543 8))
    let b567:Bool:=((decide (0≤v566))&&(decide (v566<(((ya x4):Nat):Int))))
    cond b567
     ((q9h F v544).bind fun r571=>
     cond b567
      (rec x0 x1 x2 (y0 .u64 (yv x3 2)) (yw x4 (y6 v566) (y0 .u8 (y0 .i64 ((y7 x4 (y6 v566) 0)+(y0 .i64 ((y0 .i64 ((y0 .i64 (yu x3 2))-r565.1))*(y0 .i64 r571.1))))))) (y0 .i64 (x5+1)))
       none)
      none))
   (let v578:Int:=(yu v540 8)
   cond x2
    ((qdg F x4 v540 x2).bind fun r583=>
    let v584:Int:=(y0 .i64 (yv v540 8))
    let b585:Bool:=((decide (0≤v584))&&(decide (v584<(((ya x4):Nat):Int))))
    cond b585
     ((q9h F (y0 .i64 (7-v578))).bind fun r589=>
     cond b585
      (rec x0 x1 x2 (y0 .u64 (yv x3 2)) (yw x4 (y6 v584) (y0 .u8 (y0 .i64 ((y7 x4 (y6 v584) 0)+(y0 .i64 ((y0 .i64 ((y0 .i64 (yu x3 2))-r583.1))*(y0 .i64 r589.1))))))) (y0 .i64 (x5+1)))
       none)
      none)
    ((qdg F x4 v540 x2).bind fun r599=>
    let v600:Int:=(y0 .i64 (yv v540 8))
    let b601:Bool:=((decide (0≤v600))&&(decide (v600<(((ya x4):Nat):Int))))
    cond b601
     ((q9h F v578).bind fun r605=>
     cond b601
      (rec x0 x1 x2 (y0 .u64 (yv x3 2)) (yw x4 (y6 v600) (y0 .u8 (y0 .i64 ((y7 x4 (y6 v600) 0)+(y0 .i64 ((y0 .i64 ((y0 .i64 (yu x3 2))-r599.1))*(y0 .i64 r605.1))))))) (y0 .i64 (x5+1)))
       none)
      none)))
  (some (x4,()))
def q9i(F:Nat):Nat→Int→Int→Bool→Int→LI→Int→Option (LI×Unit)
 |0,_,_,_,_,_,_=>none
 |k+1,x0,x1,x2,x3,x4,x5=>qru F (q9i F k) x0 x1 x2 x3 x4 x5
def q34(a0:LI)(a1:Int)(a2:Int)(a3:Bool)(a4:Int):Option (LI×Int×Unit):=
 (qpa F a0 a1 a2 a3).bind fun r386=>
 cond (r386.2.1 !=0)
  (some ([],r386.2.1,()))
  (let b388:Bool:=(decide (a2<64))
  cond b388
   ((q9h F a2).bind fun r389=>
   let b390:Bool:=(decide (r389.1≤a4))
   cond b390
    (some ([],10,()))
    (cond ((decide ((0+(ya a0))≤1099511627776))&&(if(false=true)then(decide (0<(ya a0)))else true))
     ((q9i F F a1 a2 a3 a4 ([]++a0) 0).bind fun r612=>
     some (r612.1,0,()))
      none))
   (cond ((decide ((0+(ya a0))≤1099511627776))&&(if(false=true)then(decide (0<(ya a0)))else true))
    ((q9i F F a1 a2 a3 a4 ([]++a0) 0).bind fun r691=>
    some (r691.1,0,()))
     none))
def qo6(F:Nat)(rec:LI→LI→Int→Option (Unit⊕Unit))(x0:LI)(x1:LI)(x2:Int):Option (Unit⊕Unit):=
 let v720:Int:=(((ya x0):Nat):Int)
 cond (decide (x2<v720))
  (cond ((decide (0≤x2))&&(decide (x2<(((ya x0):Nat):Int))))
   (cond ((decide (0≤x2))&&(decide (x2<(((ya x1):Nat):Int))))
    (cond ((y7 x0 (y6 x2) 0) !=(y7 x1 (y6 x2) 0))
     (some (.inl ()))
     (rec x0 x1 (y0 .i64 (x2+1))))
     none)
    none)
  (some (.inr ()))
def qa8(F:Nat):Nat→LI→LI→Int→Option (Unit⊕Unit)
 |0,_,_,_=>none
 |k+1,x0,x1,x2=>qo6 F (qa8 F k) x0 x1 x2
def z03(a0:LI)(a1:LI):Option (Bool×Unit):=
 cond ((((ya a0):Nat):Int) !=(((ya a1):Nat):Int))
  (some (false,()))
  ((qa8 F F a0 a1 0).bind fun r729=>match r729 with
   | .inl r729=>(some (false,()))
   | .inr r729=>(some (true,())))
def q0k:LI:=[0,0,0,0,0,0,0,0]
def q4v(F:Nat)(rec:Int→Int→Int→LI→Int→Option (Unit⊕(Int×Unit)))(x0:Int)(x1:Int)(x2:Int)(x3:LI)(x4:Int):Option (Unit⊕(Int×Unit)):=
 cond (decide (x4<16))
  (cond ((decide (0≤x4))&&(decide (x4<16)))
   (let v198:Int:=(y7 x3 (y6 x4) 0)
   cond (decide (v198<0))
    (some (.inl ()))
    (cond (decide (0≤x2))
     (let v201:Int:=(ishl .i64 1 x2)
     cond (decide (v201≤v198))
      (some (.inl ()))
      (let v205:Int:=(y0 .i64 (x1+(y0 .i64 (x2*x4))))
      cond (decide (0≤v205))
       (rec (ior .u64 x0 (ishl .u64 (y0 .u64 v198) v205)) x1 x2 x3 (y0 .i64 (x4+1)))
        none))
      none))
    none)
  (some (.inr (x0,())))
def q1u(F:Nat):Nat→Int→Int→Int→LI→Int→Option (Unit⊕(Int×Unit))
 |0,_,_,_,_,_=>none
 |k+1,x0,x1,x2,x3,x4=>q4v F (q1u F k) x0 x1 x2 x3 x4
def q4f(a0:Int)(a1:Int)(a2:Int)(a3:LI):Option (LI×Int×Unit):=
 (q1u F F a0 a1 a2 (if((0=0)∧(16=16))then a3 else(y8 16 (y9 0 a3))) 0).bind fun r210=>match r210 with
  | .inl r210=>(some ([],1,()))
  | .inr r210=>((q7j F q0k 0 64 r210.1).bind fun r211=>
   some (r211.1,r211.2.1,()))
def q26(a0:Int)(a1:Int)(a2:LI):Option (LI×Int×Unit):=
 cond (decide (a0<0))
  (some ([],1,()))
  (cond (decide (255<a0))
   (some ([],1,()))
   (cond (decide (a1<0))
    (some ([],1,()))
    (cond (decide (255<a1))
     (some ([],1,()))
     ((q4f F (ior .u64 (y0 .u64 a0) (ishl .u64 (y0 .u64 a1) 8)) 16 3 (if((0=0)∧(16=16))then a2 else(y8 16 (y9 0 a2)))).bind fun r224=>
     some (r224.1,r224.2.1,())))))
def q03:LI:=[0,0,0,0,0,0,0,0,0,0,0,0,0,0,0,0]
def qmj(a0:LI):Option (Int×Int×LI×Int×Unit):=
 cond ((((ya a0):Nat):Int) !=8)
  (some (0,0,q03,1,()))
  ((qkq F a0 16 3 16).bind fun r373=>
  let n374:Nat:=(ya r373.1)
  let l376:LI:=(((y8 0 q03)++(y8 (min n374 16) r373.1))++(y9 (0+(min n374 16)) q03))
  cond (decide (0<(((ya a0):Nat):Int)))
   (cond (decide (1<(((ya a0):Nat):Int)))
    (let l381:LI:=(if((0=0)∧(16=16))then l376 else(y8 16 (y9 0 l376)))
    let l382:LI:=(if((0=0)∧(16=16))then l381 else(((y8 0 q03)++l381)++(y9 16 q03)))
    some ((y7 a0 0 0),(y7 a0 1 0),(if((0=0)∧(16=16))then l382 else(y8 16 (y9 0 l382))),0,()))
     none)
    none)
def qpb(F:Nat)(a0:Int)(a1:Int)(a2:Int)(a3:Int)(a4:Int):Option (Int×Unit):=
 cond (decide (a3<1))
  (some (0,()))
  (let v396:Int:=(y0 .i64 ((y0 .i64 ((y0 .i64 (a0*(y0 .i64 (a3-a2))))+(y0 .i64 (a1*a2))))+a4))
  let b397:Bool:=(!(a3==0))
  cond b397
   (let v398:Int:=(y0 .i64 (yv v396 a3))
   cond b397
    (cond (decide ((yu v396 a3)<0))
     (some ((y0 .i64 (v398-1)),()))
     (some (v398,())))
     none)
    none)
def qks(rec:Int→Int→LI→LI→Int→Int→Int→Option (LI×LI×Unit))(x0:Int)(x1:Int)(x2:LI)(x3:LI)(x4:Int)(x5:Int)(x6:Int):Option (LI×LI×Unit):=
 cond (decide (x6<x5))
  (let v442:Int:=(y0 .i64 (x6+2))
  let v443:Int:=(y0 .i64 (x6+1))
  (qpb F x0 x1 v443 x4 0).bind fun r444=>
  cond ((decide (0≤v442))&&(decide (v442<8)))
   (rec x0 x1 x2 (yw x3 (y6 v442) r444.1) x4 x5 v443)
    none)
  (some (x2,x3,()))
def q6h(F:Nat):Nat→Int→Int→LI→LI→Int→Int→Int→Option (LI×LI×Unit)
 |0,_,_,_,_,_,_,_=>none
 |k+1,x0,x1,x2,x3,x4,x5,x6=>qks F (q6h F k) x0 x1 x2 x3 x4 x5 x6
def qfe(a0:Int)(a1:Int):Option (LI×Unit):=
 cond (decide (a0≤a1))
  ((q6h F F a0 a1 q0k [a0,a1,0,0,0,0,0,255] 5 4 0).bind fun r448=>
  let l449:LI:=(if((0=0)∧(8=8))then r448.2.1 else(y8 8 (y9 0 r448.2.1)))
  let l450:LI:=(if((0=0)∧(8=8))then l449 else(((y8 0 r448.1)++l449)++(y9 8 r448.1)))
  some ((if((0=0)∧(8=8))then l450 else(y8 8 (y9 0 l450))),()))
  ((q6h F F a0 a1 q0k [a0,a1,0,0,0,0,0,0] 7 6 0).bind fun r459=>
  let l460:LI:=(if((0=0)∧(8=8))then r459.2.1 else(y8 8 (y9 0 r459.2.1)))
  let l461:LI:=(if((0=0)∧(8=8))then l460 else(((y8 0 r459.1)++l460)++(y9 8 r459.1)))
  some ((if((0=0)∧(8=8))then l461 else(y8 8 (y9 0 l461))),()))
def q4w(F:Nat)(rec:LI→LI→LI→LI→Int→Option (LI×LI×Unit))(x0:LI)(x1:LI)(x2:LI)(x3:LI)(x4:Int):Option (LI×LI×Unit):=
 cond (decide (x4<16))
  (let b481:Bool:=((decide (0≤x4))&&(decide (x4<16)))
  cond b481
   (let v482:Int:=(y7 x3 (y6 x4) 0)
   cond ((decide (0≤v482))&&(decide (v482<8)))
    (cond b481
     (rec x0 (yw x1 (y6 x4) (y7 x2 (y6 v482) 0)) x2 x3 (y0 .i64 (x4+1)))
      none)
     none)
    none)
  (some (x0,x1,()))
def q2u(F:Nat):Nat→LI→LI→LI→LI→Int→Option (LI×LI×Unit)
 |0,_,_,_,_,_=>none
 |k+1,x0,x1,x2,x3,x4=>q4w F (q2u F k) x0 x1 x2 x3 x4
def qj5(a0:LI):Option (LI×Int×Unit):=
 (qmj F a0).bind fun r384=>
 let l385:LI:=(if((0=0)∧(16=16))then r384.2.2.1 else(((y8 0 q03)++r384.2.2.1)++(y9 16 q03)))
 cond (r384.2.2.2.1 !=0)
  (let l387:LI:=(if((0=0)∧(16=16))then l385 else(y8 16 (y9 0 l385)))
  let l388:LI:=(if((0=0)∧(16=16))then l387 else(((y8 0 q03)++l387)++(y9 16 q03)))
  some ((if((0=0)∧(16=16))then l388 else(y8 16 (y9 0 l388))),r384.2.2.2.1,()))
  ((qfe F r384.1 r384.2.1).bind fun r463=>
  (q2u F F q03 l385 (if((0=0)∧(8=8))then r463.1 else(((y8 0 q0k)++r463.1)++(y9 8 q0k))) (if((0=0)∧(16=16))then l385 else(y8 16 (y9 0 l385))) 0).bind fun r489=>
  let l490:LI:=(if((0=0)∧(16=16))then r489.2.1 else(y8 16 (y9 0 r489.2.1)))
  let l491:LI:=(if((0=0)∧(16=16))then l490 else(((y8 0 r489.1)++l490)++(y9 16 r489.1)))
  some ((if((0=0)∧(16=16))then l491 else(y8 16 (y9 0 l491))),0,()))
def q1v(a0:LI):Option (LI×Int×Unit):=
 (q4f F 0 0 4 (if((0=0)∧(16=16))then a0 else(y8 16 (y9 0 a0)))).bind fun r500=>
 some (r500.1,r500.2.1,())
def qwt(F:Nat)(a0:Int):Option (Bool×Unit):=
 cond (decide (a0<1))
  (some (true,()))
  (some ((decide (8<a0)),()))
def z1h(F:Nat)(rec:Int→Int→Int→Int→Option (Int×Int×Unit))(x0:Int)(x1:Int)(x2:Int)(x3:Int):Option (Int×Int×Unit):=
 cond (decide (x3<8))
  (cond (decide (0≤x1))
   (rec x0 x1 (ior .i64 (ishl .i64 x2 x1) x0) (y0 .i64 (x3+x1)))
    none)
  (some (x2,x3,()))
def qj6(F:Nat):Nat→Int→Int→Int→Int→Option (Int×Int×Unit)
 |0,_,_,_,_=>none
 |k+1,x0,x1,x2,x3=>z1h F (qj6 F k) x0 x1 x2 x3
def q0m(a0:Int)(a1:Int):Option (Int×Unit):=
 (qwt F a1).bind fun r514=>
 cond r514.1
  (some (0,()))
  (cond (decide (0≤a1))
   ((qj6 F F (iand .i64 a0 (y0 .i64 ((ishl .i64 1 a1)-1))) a1 0 0).bind fun r533=>
   let v534:Int:=(y0 .i64 (r533.2.1-8))
   cond (decide (0≤v534))
    (some ((ishr .i64 r533.1 v534),()))
     none)
    none)
def q5v(rec:LI→LI→LI→Int→Option (LI×LI×Unit))(x0:LI)(x1:LI)(x2:LI)(x3:Int):Option (LI×LI×Unit):=
 cond (decide (x3<16))
  (cond ((decide (0≤x3))&&(decide (x3<(((ya x2):Nat):Int))))
   ((q0m F (y7 x2 (y6 x3) 0) 4).bind fun r553=>
   cond ((decide (0≤x3))&&(decide (x3<16)))
    (rec x0 (yw x1 (y6 x3) r553.1) x2 (y0 .i64 (x3+1)))
     none)
    none)
  (some (x0,x1,()))
def q3l(F:Nat):Nat→LI→LI→LI→Int→Option (LI×LI×Unit)
 |0,_,_,_,_=>none
 |k+1,x0,x1,x2,x3=>q5v F (q3l F k) x0 x1 x2 x3
def qmk(a0:LI):Option (LI×Int×Unit):=
 cond ((((ya a0):Nat):Int) !=8)
  (some (q03,1,()))
  ((qkq F a0 0 4 16).bind fun r507=>
  (q3l F F q03 q03 r507.1 0).bind fun r557=>
  let l558:LI:=(if((0=0)∧(16=16))then r557.2.1 else(y8 16 (y9 0 r557.2.1)))
  let l559:LI:=(if((0=0)∧(16=16))then l558 else(((y8 0 r557.1)++l558)++(y9 16 r557.1)))
  some ((if((0=0)∧(16=16))then l559 else(y8 16 (y9 0 l559))),0,()))
def q2m(a0:LI)(a1:Int)(a2:Int):Option (Int×Unit):=
 (qpa F a0 a1 a2 false).bind fun r687=>
 some ((y0 .i64 r687.1),())
def q6w(rec:LI→LI→LI→Int→Option (LI×LI×LI×Unit))(x0:LI)(x1:LI)(x2:LI)(x3:Int):Option (LI×LI×LI×Unit):=
 cond (decide (x3<16))
  ((q2m F x0 (y0 .i64 (16+(y0 .i64 (3*x3)))) 3).bind fun r704=>
  cond ((decide (0≤x3))&&(decide (x3<16)))
   (rec x0 x1 (yw x2 (y6 x3) r704.1) (y0 .i64 (x3+1)))
    none)
  (some (x0,x1,x2,()))
def q4k(F:Nat):Nat→LI→LI→LI→Int→Option (LI×LI×LI×Unit)
 |0,_,_,_,_=>none
 |k+1,x0,x1,x2,x3=>q6w F (q4k F k) x0 x1 x2 x3
def qrv(a0:LI):Option (Int×Int×LI×Int×Unit):=
 cond ((((ya a0):Nat):Int) !=8)
  (some (0,0,q03,1,()))
  ((q4k F F a0 q03 q03 0).bind fun r709=>
  let n710:Nat:=(ya r709.1)
  cond (decide (0<((n710:Nat):Int)))
   (cond (decide (1<((n710:Nat):Int)))
    (let l715:LI:=(if((0=0)∧(16=16))then r709.2.2.1 else(y8 16 (y9 0 r709.2.2.1)))
    let l716:LI:=(if((0=0)∧(16=16))then l715 else(((y8 0 r709.2.1)++l715)++(y9 16 r709.2.1)))
    some ((y7 r709.1 0 0),(y7 r709.1 1 0),(if((0=0)∧(16=16))then l716 else(y8 16 (y9 0 l716))),0,()))
     none)
    none)
def qkt(F:Nat)(a0:Int)(a1:Int):Option (Int×Unit):=
 cond (!(a1==0))
  (cond (decide ((yu a0 a1)<0))
   (some ((y0 .i64 ((yu a0 a1)+a1)),()))
   (some ((yu a0 a1),())))
   none
def qh7(a0:Int)(a1:Int)(a2:Int)(a3:Int)(a4:Int):Option (Int×Unit):=
 cond (decide (a3<1))
  (some (0,()))
  (let v735:Int:=(y0 .i64 ((y0 .i64 ((y0 .i64 (a0*(y0 .i64 (a3-a2))))+(y0 .i64 (a1*a2))))+a4))
  (qkt F v735 a3).bind fun r740=>
  cond (!(a3==0))
   (some ((y0 .i64 (yv (y0 .i64 (v735-r740.1)) a3)),()))
    none)
def qo7(rec:Int→Int→LI→LI→Int→Option (LI×LI×Unit))(x0:Int)(x1:Int)(x2:LI)(x3:LI)(x4:Int):Option (LI×LI×Unit):=
 cond (decide (x4≤6))
  (let v753:Int:=(y0 .i64 (x4+1))
  (qh7 F x0 x1 x4 7 0).bind fun r754=>
  cond ((decide (0≤v753))&&(decide (v753<8)))
   (rec x0 x1 x2 (yw x3 (y6 v753) r754.1) v753)
    none)
  (some (x2,x3,()))
def qa9(F:Nat):Nat→Int→Int→LI→LI→Int→Option (LI×LI×Unit)
 |0,_,_,_,_,_=>none
 |k+1,x0,x1,x2,x3,x4=>qo7 F (qa9 F k) x0 x1 x2 x3 x4
def qo8(rec:Int→Int→LI→LI→Int→Option (LI×LI×Unit))(x0:Int)(x1:Int)(x2:LI)(x3:LI)(x4:Int):Option (LI×LI×Unit):=
 cond (decide (x4≤4))
  (let v771:Int:=(y0 .i64 (x4+1))
  (qh7 F x0 x1 x4 5 0).bind fun r772=>
  cond ((decide (0≤v771))&&(decide (v771<8)))
   (rec x0 x1 x2 (yw x3 (y6 v771) r772.1) v771)
    none)
  (some (x2,x3,()))
def qaa(F:Nat):Nat→Int→Int→LI→LI→Int→Option (LI×LI×Unit)
 |0,_,_,_,_,_=>none
 |k+1,x0,x1,x2,x3,x4=>qo8 F (qaa F k) x0 x1 x2 x3 x4
def z04(a0:Int)(a1:Int):Option (LI×Unit):=
 cond (decide (a1<a0))
  ((qa9 F F a0 a1 q0k [a0,a1,0,0,0,0,0,0] 1).bind fun r758=>
  let l759:LI:=(if((0=0)∧(8=8))then r758.2.1 else(y8 8 (y9 0 r758.2.1)))
  let l760:LI:=(if((0=0)∧(8=8))then l759 else(((y8 0 r758.1)++l759)++(y9 8 r758.1)))
  some ((if((0=0)∧(8=8))then l760 else(y8 8 (y9 0 l760))),()))
  ((qaa F F a0 a1 q0k [a0,a1,0,0,0,0,0,0] 1).bind fun r776=>
  let l777:LI:=(yw r776.2.1 7 255)
  let l778:LI:=(if((0=0)∧(8=8))then l777 else(y8 8 (y9 0 l777)))
  let l779:LI:=(if((0=0)∧(8=8))then l778 else(((y8 0 r776.1)++l778)++(y9 8 r776.1)))
  some ((if((0=0)∧(8=8))then l779 else(y8 8 (y9 0 l779))),()))
def q5w(F:Nat)(rec:LI→LI→LI→Int→Option (LI×LI×Unit))(x0:LI)(x1:LI)(x2:LI)(x3:Int):Option (LI×LI×Unit):=
 cond (decide (x3<16))
  (let b798:Bool:=((decide (0≤x3))&&(decide (x3<16)))
  cond b798
   (let v800:Int:=(y7 x1 (y6 x3) 0)
   cond ((decide (0≤v800))&&(decide (v800<8)))
    (cond b798
     (rec x0 (yw x1 (y6 x3) (y7 x2 (y6 v800) 0)) x2 (y0 .i64 (x3+1)))
      none)
     none)
    none)
  (some (x0,x1,()))
def q3m(F:Nat):Nat→LI→LI→LI→Int→Option (LI×LI×Unit)
 |0,_,_,_,_=>none
 |k+1,x0,x1,x2,x3=>q5w F (q3m F k) x0 x1 x2 x3
def qh8(a0:LI):Option (LI×Int×Unit):=
 (qrv F a0).bind fun r723=>
 let l724:LI:=(if((0=0)∧(16=16))then r723.2.2.1 else(((y8 0 q03)++r723.2.2.1)++(y9 16 q03)))
 cond (r723.2.2.2.1 !=0)
  (let l726:LI:=(if((0=0)∧(16=16))then l724 else(y8 16 (y9 0 l724)))
  let l727:LI:=(if((0=0)∧(16=16))then l726 else(((y8 0 q03)++l726)++(y9 16 q03)))
  some ((if((0=0)∧(16=16))then l727 else(y8 16 (y9 0 l727))),r723.2.2.2.1,()))
  ((z04 F r723.1 r723.2.1).bind fun r781=>
  (q3m F F q03 l724 (if((0=0)∧(8=8))then r781.1 else(((y8 0 q0k)++r781.1)++(y9 8 q0k))) 0).bind fun r806=>
  let l807:LI:=(if((0=0)∧(16=16))then r806.2.1 else(y8 16 (y9 0 r806.2.1)))
  let l808:LI:=(if((0=0)∧(16=16))then l807 else(((y8 0 r806.1)++l807)++(y9 16 r806.1)))
  some ((if((0=0)∧(16=16))then l808 else(y8 16 (y9 0 l808))),0,()))
def qwu(F:Nat)(rec:Int→Int→Int→Option (Int×Unit))(x0:Int)(x1:Int)(x2:Int):Option (Int×Unit):=
 cond (decide (x2<x0))
  (rec x0 (y0 .i64 (2*x1)) (y0 .i64 (x2+1)))
  (some (x1,()))
def qg4(F:Nat):Nat→Int→Int→Int→Option (Int×Unit)
 |0,_,_,_=>none
 |k+1,x0,x1,x2=>qwu F (qg4 F k) x0 x1 x2
def qcd(a0:Int):Option (Int×Unit):=
 (qg4 F F a0 1 0).bind fun r828=>
 some (r828.1,())
def z1i(rec:Int→Int→Int→Int→Option (Int×Unit))(x0:Int)(x1:Int)(x2:Int)(x3:Int):Option (Int×Unit):=
 cond (decide (x3<8))
  (cond (!(x1==0))
   ((qcd F (y0 .i64 ((y0 .i64 (x1-1))-(yu x3 x1)))).bind fun r858=>
   cond (!(r858.1==0))
    (rec x0 x1 (y0 .i64 ((y0 .i64 (2*x2))+(yu (y0 .i64 (yv x0 r858.1)) 2))) (y0 .i64 (x3+1)))
     none)
    none)
  (some (x2,()))
def qj7(F:Nat):Nat→Int→Int→Int→Int→Option (Int×Unit)
 |0,_,_,_,_=>none
 |k+1,x0,x1,x2,x3=>z1i F (qj7 F k) x0 x1 x2 x3
def q0c(a0:Int)(a1:Int):Option (Int×Unit):=
 cond (decide (a1<1))
  (some (0,()))
  (cond (decide (8<a1))
   (some (0,()))
   ((qcd F a1).bind fun r829=>
   (qkt F a0 r829.1).bind fun r830=>
   (qj7 F F r830.1 a1 0 0).bind fun r864=>
   some (r864.1,())))
def q6x(rec:LI→LI→LI→Int→Option (LI×LI×Unit))(x0:LI)(x1:LI)(x2:LI)(x3:Int):Option (LI×LI×Unit):=
 cond (decide (x3<16))
  ((q2m F x0 (y0 .i64 (4*x3)) 4).bind fun r879=>
  (q0c F r879.1 4).bind fun r880=>
  cond ((decide (0≤x3))&&(decide (x3<16)))
   (rec x0 x1 (yw x2 (y6 x3) r880.1) (y0 .i64 (x3+1)))
    none)
  (some (x1,x2,()))
def q4l(F:Nat):Nat→LI→LI→LI→Int→Option (LI×LI×Unit)
 |0,_,_,_,_=>none
 |k+1,x0,x1,x2,x3=>q6x F (q4l F k) x0 x1 x2 x3
def qku(a0:LI):Option (LI×Int×Unit):=
 cond ((((ya a0):Nat):Int) !=8)
  (some (q03,1,()))
  ((q4l F F a0 q03 q03 0).bind fun r885=>
  let l886:LI:=(if((0=0)∧(16=16))then r885.2.1 else(y8 16 (y9 0 r885.2.1)))
  let l887:LI:=(if((0=0)∧(16=16))then l886 else(((y8 0 r885.1)++l886)++(y9 16 r885.1)))
  some ((if((0=0)∧(16=16))then l887 else(y8 16 (y9 0 l887))),0,()))
def q8f(rec:LI→LI→Int→Option (Unit⊕(LI×Unit)))(x0:LI)(x1:LI)(x2:Int):Option (Unit⊕(LI×Unit)):=
 cond (decide (x2<16))
  (let b1624:Bool:=((decide (0≤x2))&&(decide (x2<16)))
  cond b1624
   (let v1626:Int:=(y7 x0 (y6 x2) 0)
   cond (decide (v1626<0))
    (some (.inl ()))
    (cond b1624
     (cond (decide (7<v1626))
      (some (.inl ()))
      (cond b1624
       ((q34 F x1 (y0 .i64 (16+(y0 .i64 (3*x2)))) 3 false (y0 .u64 v1626)).bind fun r1632=>
       rec x0 r1632.1 (y0 .i64 (x2+1)))
        none))
      none))
    none)
  (some (.inr (x1,())))
def q3e(F:Nat):Nat→LI→LI→Int→Option (Unit⊕(LI×Unit))
 |0,_,_,_=>none
 |k+1,x0,x1,x2=>q8f F (q3e F k) x0 x1 x2
def q8g(a0:Int)(a1:Int)(a2:LI):Option (LI×Int×Unit):=
 cond (decide (a0<0))
  (some ([],1,()))
  (cond (decide (a1<0))
   (some ([],1,()))
   (cond (decide (255<a0))
    (some ([],1,()))
    (cond (decide (255<a1))
     (some ([],1,()))
     ((q3e F F a2 [(y0 .u8 a0),(y0 .u8 a1),0,0,0,0,0,0] 0).bind fun r1635=>match r1635 with
      | .inl r1635=>(some ([],1,()))
      | .inr r1635=>(some (r1635.1,0,()))))))
def q39(rec:LI→LI→Int→Option (Unit⊕(LI×Unit)))(x0:LI)(x1:LI)(x2:Int):Option (Unit⊕(LI×Unit)):=
 cond (decide (x2<16))
  (let b1695:Bool:=((decide (0≤x2))&&(decide (x2<16)))
  cond b1695
   (let v1697:Int:=(y7 x0 (y6 x2) 0)
   cond (decide (v1697<0))
    (some (.inl ()))
    (cond b1695
     (cond (decide (15<v1697))
      (some (.inl ()))
      (cond b1695
       ((q34 F x1 (y0 .i64 (4*x2)) 4 false (y0 .u64 v1697)).bind fun r1702=>
       rec x0 r1702.1 (y0 .i64 (x2+1)))
        none))
      none))
    none)
  (some (.inr (x1,())))
def q18(F:Nat):Nat→LI→LI→Int→Option (Unit⊕(LI×Unit))
 |0,_,_,_=>none
 |k+1,x0,x1,x2=>q39 F (q18 F k) x0 x1 x2
def q6y(a0:LI):Option (LI×Int×Unit):=
 (q18 F F a0 q0k 0).bind fun r1705=>match r1705 with
  | .inl r1705=>(some ([],1,()))
  | .inr r1705=>(some (r1705.1,0,()))
def q4m(F:Nat)(a0:Int):Option (Int×Unit):=
 some ((y0 .i64 (a0*a0)),())
def qab(a0:Int)(a1:Int)(a2:Int):Option (Int×Unit):=
 (q0m F a0 a1).bind fun r2075=>
 (q4m F (y0 .i64 (r2075.1-a2))).bind fun r2077=>
 some (r2077.1,())
def q2n(rec:Int→Int→Int→Int→Int→Int→Option (Int×Unit))(x0:Int)(x1:Int)(x2:Int)(x3:Int)(x4:Int)(x5:Int):Option (Int×Unit):=
 cond (decide (x5<x4))
  ((qab F x5 x0 x1).bind fun r2118=>
  cond (x5==0)
   (rec x0 x1 x5 r2118.1 x4 (y0 .i64 (x5+1)))
   (cond (decide (r2118.1<x3))
    (rec x0 x1 x5 r2118.1 x4 (y0 .i64 (x5+1)))
    (rec x0 x1 x2 x3 x4 (y0 .i64 (x5+1)))))
  (some (x2,()))
def q0w(F:Nat):Nat→Int→Int→Int→Int→Int→Int→Option (Int×Unit)
 |0,_,_,_,_,_,_=>none
 |k+1,x0,x1,x2,x3,x4,x5=>q2n F (q0w F k) x0 x1 x2 x3 x4 x5
def qce(a0:Int)(a1:Int)(a2:Int):Option (Int×Unit):=
 (q0w F F a1 a2 0 0 a0 0).bind fun r2124=>
 some (r2124.1,())
def q8h(a0:Int)(a1:Int):Option (Int×Unit):=
 (qwt F a1).bind fun r2067=>
 cond r2067.1
  (some (0,()))
  (cond (decide (0≤a1))
   ((qce F (ishl .i64 1 a1) a1 a0).bind fun r2125=>
   some (r2125.1,()))
    none)
def q27(F:Nat)(a0:Int)(a1:Int):Option (Int×Unit):=
 some ((max 0 (min a0 a1)),())
def z05(F:Nat)(a0:Int)(a1:Int):Option (Bool×Unit):=
 cond (decide (0≤a0))
  (some ((decide (a0<a1)),()))
  (some (false,()))
def qwv:LI:=[2858963024,1784303680,1515864576,1414570152,2779054080,2694860880,1431675040,1515868240,2857697280,2857719040,2863289600,2425393296,2492765332,2762253476,2846200912,705315408,2777960512,172118100,2779096320,1436590240,2829603924,1785348160,2762231808,437912832,5285028,2862977168,342452500,1768494080,2693105056,2860651540,1352967248,1784283648,2846195712,1351655592,2829094992,606348324,11162880,613566756,608801316,1352993360,1342874960,2863285316,1717960704,2778768800,1352683680,1764256040,1152035396,1717986816,2856600644,1420317864,2508232064,2526451200,2824098984,2157286784,2853442580,2526412800,2863272980,2689618080,2695210400,2516582400,1082146944,2846402984,2863311428,709513812]
def z57(F:Nat):Option (LI×Unit):=
 some (qwv,())
def z58:LI:=[52428,34952,61166,60616,51328,65260,65224,60544,51200,65516,65152,59392,65512,65280,65520,61440,63248,142,28928,2254,140,29456,12544,36046,2188,12560,26214,13932,6120,4080,29070,14748,43690,61680,23130,13260,15420,21930,38550,42330,29646,5064,12876,15324,27030,49980,39270,1632,626,1252,20032,10016,51510,37740,14790,25500,37686,40134,33150,59160,52464,4044,30532,60962]
def zid(F:Nat):Option (LI×Unit):=
 some (z58,())
def qml(a0:Int)(a1:Int)(a2:Int):Option (Int×Unit):=
 (z05 F a1 64).bind fun r2=>
 cond (!r2.1)
  (some (0,()))
  ((z05 F a2 16).bind fun r4=>
  cond (!r4.1)
   (some (0,()))
   (cond (a0==3)
    ((z57 F).bind fun r7=>
    cond ((decide (0≤a1))&&(decide (a1<64)))
     (let v10:Int:=(y0 .i64 (2*a2))
     cond (decide (0≤v10))
      (some ((iand .u32 (ishr .u32 (y7 r7.1 (y6 a1) 0) v10) 3),()))
       none)
      none)
    (cond (a0==2)
     ((zid F).bind fun r15=>
     cond ((decide (0≤a1))&&(decide (a1<64)))
      (cond (decide (0≤a2))
       (some ((iand .u16 (ishr .u16 (y7 r15.1 (y6 a1) 0) a2) 1),()))
        none)
       none)
     (some (0,())))))
def zie(F:Nat):Option (LI×Unit):=
 some (z58,())
def z3q(F:Nat):Option (LI×Unit):=
 some (qwv,())
def z1j(F:Nat)(rec:Int→Int→Int→Int→Option (Int×Int×Unit))(x0:Int)(x1:Int)(x2:Int)(x3:Int):Option (Int×Int×Unit):=
 cond (decide (x3<x0))
  (cond (!(x2==0))
   (rec x0 (y0 .i64 (yv x1 x2)) x2 (y0 .i64 (x3+1)))
    none)
  (some (x1,x2,()))
def q7k(F:Nat):Nat→Int→Int→Int→Int→Option (Int×Int×Unit)
 |0,_,_,_,_=>none
 |k+1,x0,x1,x2,x3=>z1j F (q7k F k) x0 x1 x2 x3
def qpc(a0:Int)(a1:Int)(a2:Int):Option (Int×Unit):=
 cond (decide (a1<0))
  (some (0,()))
  (cond (decide (63<a1))
   (some (0,()))
   (cond (decide (a2<0))
    (some (0,()))
    (cond (decide (15<a2))
     (some (0,()))
     (cond (a0 !=2)
      (cond (a0 !=3)
       (some (0,()))
       ((zie F).bind fun r27=>
       let n28:Nat:=(ya r27.1)
       cond ((decide (0≤a1))&&(decide (a1<((n28:Nat):Int))))
        (cond (a0==3)
         ((z3q F).bind fun r33=>
         let n34:Nat:=(ya r33.1)
         cond ((decide (0≤a1))&&(decide (a1<((n34:Nat):Int))))
          ((q7k F F a2 (y7 r33.1 (y6 a1) 0) 4 0).bind fun r45=>
          cond (!(r45.2.1==0))
           (some ((yu r45.1 r45.2.1),()))
            none)
           none)
         ((q7k F F a2 (y7 r27.1 (y6 a1) 0) 2 0).bind fun r52=>
         cond (!(r52.2.1==0))
          (some ((yu r52.1 r52.2.1),()))
           none))
         none))
      ((zie F).bind fun r55=>
      let n56:Nat:=(ya r55.1)
      cond ((decide (0≤a1))&&(decide (a1<((n56:Nat):Int))))
       (cond (a0==3)
        ((z3q F).bind fun r61=>
        let n62:Nat:=(ya r61.1)
        cond ((decide (0≤a1))&&(decide (a1<((n62:Nat):Int))))
         ((q7k F F a2 (y7 r61.1 (y6 a1) 0) 4 0).bind fun r69=>
         cond (!(r69.2.1==0))
          (some ((yu r69.1 r69.2.1),()))
           none)
          none)
        ((q7k F F a2 (y7 r55.1 (y6 a1) 0) 2 0).bind fun r76=>
        cond (!(r76.2.1==0))
         (some ((yu r76.1 r76.2.1),()))
          none))
        none)))))
def qpd:LI:=[15,15,15,15,15,15,15,15,15,15,15,15,15,15,15,15,15,2,8,2,2,8,8,15,2,8,2,2,8,8,2,2,15,15,6,8,2,8,15,15,2,8,2,2,2,15,15,6,6,2,6,8,15,15,2,2,15,15,15,15,15,2,2,15]
def qpe:LI:=[3,3,15,15,8,3,15,15,8,8,6,6,6,5,3,3,3,3,8,15,3,3,6,10,5,8,8,6,8,5,15,15,8,15,3,5,6,10,8,15,15,3,15,5,15,15,15,15,3,15,5,5,5,8,5,10,5,10,8,13,15,12,3,3]
def qpf:LI:=[15,8,8,3,15,15,3,8,15,15,15,15,15,15,15,8,15,8,15,3,15,8,15,8,3,15,6,10,15,15,10,8,15,3,15,10,10,8,9,10,6,15,8,15,3,6,6,8,15,3,15,15,15,15,15,15,15,15,15,15,3,15,15,8]
def qww(F:Nat)(a0:(Int×Int×Unit)):Option (LI×Unit):=
 cond ((a0.1==2)&&(a0.2.1==1))
  (some (qpd,()))
  (cond ((a0.1==3)&&(a0.2.1==1))
   (some (qpe,()))
   (cond ((a0.1==3)&&(a0.2.1==2))
    (some (qpf,()))
    (some ([],()))))
def qg5(a0:Int)(a1:Int)(a2:Int):Option (Int×Unit):=
 (qww F (a0,a2,())).bind fun r82=>
 let n83:Nat:=(ya r82.1)
 (z05 F a1 ((n83:Nat):Int)).bind fun r85=>
 cond (!r85.1)
  (some (0,()))
  (cond ((decide (0≤a1))&&(decide (a1<((n83:Nat):Int))))
   (some ((y7 r82.1 (y6 a1) 0),()))
    none)
def qac(F:Nat)(a0:Int):Option (LI×Unit):=
 cond (a0==0)
  (some (qpd,()))
  (cond (a0==1)
   (some (qpe,()))
   (some (qpf,())))
def qh9(a0:Int)(a1:Int)(a2:Int):Option (Int×Unit):=
 cond (decide (a1<0))
  (some (0,()))
  (cond (decide (63<a1))
   (some (0,()))
   (cond (a0==2)
    (let b95:Bool:=(a2==1)
    cond b95
     ((qac F 0).bind fun r96=>
     let n97:Nat:=(ya r96.1)
     cond ((decide (0≤a1))&&(decide (a1<((n97:Nat):Int))))
      (some ((y7 r96.1 (y6 a1) 0),()))
       none)
     (cond (a0==3)
      (cond b95
       ((qac F a2).bind fun r102=>
       let n103:Nat:=(ya r102.1)
       cond ((decide (0≤a1))&&(decide (a1<((n103:Nat):Int))))
        (some ((y7 r102.1 (y6 a1) 0),()))
         none)
       (cond (a2==2)
        ((qac F a2).bind fun r108=>
        let n109:Nat:=(ya r108.1)
        cond ((decide (0≤a1))&&(decide (a1<((n109:Nat):Int))))
         (some ((y7 r108.1 (y6 a1) 0),()))
          none)
        (some (0,()))))
      (some (0,()))))
    (cond (a0==3)
     (cond (a2==1)
      ((qac F a2).bind fun r115=>
      let n116:Nat:=(ya r115.1)
      cond ((decide (0≤a1))&&(decide (a1<((n116:Nat):Int))))
       (some ((y7 r115.1 (y6 a1) 0),()))
        none)
      (cond (a2==2)
       ((qac F a2).bind fun r121=>
       let n122:Nat:=(ya r121.1)
       cond ((decide (0≤a1))&&(decide (a1<((n122:Nat):Int))))
        (some ((y7 r121.1 (y6 a1) 0),()))
         none)
       (some (0,()))))
     (some (0,())))))
def qff:LI:=[0,9,18,27,37,46,55,64]
def qfg:LI:=[0,4,9,13,17,21,26,30,34,38,43,47,51,55,60,64]
def qdh(F:Nat)(a0:Int):Option (LI×Unit):=
 cond (a0==2)
  (some ([0,21,43,64],()))
  (cond (a0==3)
   (some (qff,()))
   (cond (a0==4)
    (some (qfg,()))
    (some ([],()))))
def qj8(F:Nat)(a0:Int):Option (LI×Unit):=
 cond (a0==2)
  (some ([0,21,43,64],()))
  (cond (a0==3)
   (some (qff,()))
   (cond (a0==4)
    (some (qfg,()))
    (some ([],()))))
def qj9:LI:=[0,0,0,0,0,0,0,0]
def q8i(F:Nat)(rec:Int→LI→Int→Option (Unit⊕(Int×Unit)))(x0:Int)(x1:LI)(x2:Int):Option (Unit⊕(Int×Unit)):=
 cond (decide (x2<16))
  (cond ((decide (0≤x2))&&(decide (x2<16)))
   (let v187:Int:=(y7 x1 (y6 x2) 0)
   cond (decide (v187<0))
    (some (.inl ()))
    (cond (decide (3<v187))
     (some (.inl ()))
     (let v192:Int:=(y0 .i64 (32+(y0 .i64 (2*x2))))
     cond (decide (0≤v192))
      (rec (ior .u64 x0 (ishl .u64 (y0 .u64 v187) v192)) x1 (y0 .i64 (x2+1)))
       none)))
    none)
  (some (.inr (x0,())))
def q2f(F:Nat):Nat→Int→LI→Int→Option (Unit⊕(Int×Unit))
 |0,_,_,_=>none
 |k+1,x0,x1,x2=>q8i F (q2f F k) x0 x1 x2
def q44(a0:Int)(a1:Int)(a2:LI):Option (LI×Int×Unit):=
 cond (decide (a0<0))
  (some ([],1,()))
  (cond (decide (65535<a0))
   (some ([],1,()))
   (cond (decide (a1<0))
    (some ([],1,()))
    (cond (decide (65535<a1))
     (some ([],1,()))
     ((q2f F F (ior .u64 (y0 .u64 a0) (ishl .u64 (y0 .u64 a1) 16)) (if((0=0)∧(16=16))then a2 else(y8 16 (y9 0 a2))) 0).bind fun r197=>match r197 with
      | .inl r197=>(some ([],1,()))
      | .inr r197=>((q7j F qj9 0 64 r197.1).bind fun r198=>
       some (r198.1,r198.2.1,()))))))
def q2v:LI:=[0,0,0,0,0,0,0,0,0,0,0,0,0,0,0,0,0,0,0,0,0,0,0,0,0,0,0,0,0,0,0,0,0,0,0,0,0,0,0,0,0,0,0,0,0,0,0,0,0,0,0,0,0,0,0,0,0,0,0,0,0,0,0,0]
def q04:LI:=[0,0,0,0,0,0,0,0,0,0,0,0,0,0,0,0]
def qrw(a0:LI):Option (Int×Int×LI×Int×Unit):=
 cond ((((ya a0):Nat):Int) !=8)
  (some (0,0,q04,1,()))
  ((qkq F a0 0 16 2).bind fun r348=>
  let n349:Nat:=(ya r348.1)
  (qkq F a0 32 2 16).bind fun r350=>
  let n351:Nat:=(ya r350.1)
  let l353:LI:=(((y8 0 q04)++(y8 (min n351 16) r350.1))++(y9 (0+(min n351 16)) q04))
  cond (decide (0<((n349:Nat):Int)))
   (cond (decide (1<((n349:Nat):Int)))
    (let l358:LI:=(if((0=0)∧(16=16))then l353 else(y8 16 (y9 0 l353)))
    let l359:LI:=(if((0=0)∧(16=16))then l358 else(((y8 0 q04)++l358)++(y9 16 q04)))
    some ((y7 r348.1 0 0),(y7 r348.1 1 0),(if((0=0)∧(16=16))then l359 else(y8 16 (y9 0 l359))),0,()))
     none)
    none)
def qha(a0:Int):Option (LI×Unit):=
 (q0m F (ishr .i64 a0 11) 5).bind fun r390=>
 (q0m F (ishr .i64 a0 5) 6).bind fun r392=>
 (q0m F a0 5).bind fun r393=>
 some ([r390.1,r392.1,r393.1,255],())
def qad(rec:Int→Int→LI→LI→LI→LI→Int→Option (LI×LI×Unit))(x0:Int)(x1:Int)(x2:LI)(x3:LI)(x4:LI)(x5:LI)(x6:Int):Option (LI×LI×Unit):=
 cond (decide (x6<3))
  (let b424:Bool:=((decide (0≤x6))&&(decide (x6<4)))
  cond b424
   (cond b424
    ((qpb F (y7 x2 (y6 x6) 0) (y7 x3 (y6 x6) 0) x0 x1 0).bind fun r428=>
    cond b424
     (rec x0 x1 x2 x3 x4 (yw x5 (y6 x6) r428.1) (y0 .i64 (x6+1)))
      none)
     none)
    none)
  (some (x4,x5,()))
def q2w(F:Nat):Nat→Int→Int→LI→LI→LI→LI→Int→Option (LI×LI×Unit)
 |0,_,_,_,_,_,_,_=>none
 |k+1,x0,x1,x2,x3,x4,x5,x6=>qad F (q2w F k) x0 x1 x2 x3 x4 x5 x6
def q61(a0:LI)(a1:LI)(a2:Int)(a3:Int):Option (LI×Unit):=
 (q2w F F a2 a3 a0 a1 [0,0,0,0] [0,0,0,255] 0).bind fun r431=>
 let l432:LI:=(if((0=0)∧(4=4))then r431.2.1 else(y8 4 (y9 0 r431.2.1)))
 let l433:LI:=(if((0=0)∧(4=4))then l432 else(((y8 0 r431.1)++l432)++(y9 4 r431.1)))
 some ((if((0=0)∧(4=4))then l433 else(y8 4 (y9 0 l433))),())
def qae(a0:Int)(a1:Int)(a2:Bool):Option (LI×Unit):=
 (qha F a0).bind fun r394=>
 (qha F a1).bind fun r395=>
 let l396:LI:=(if((0=0)∧(4=4))then r394.1 else(((y8 0 [0,0,0,0])++r394.1)++(y9 4 [0,0,0,0])))
 let l397:LI:=(if((0=0)∧(4=4))then r395.1 else(((y8 0 [0,0,0,0])++r395.1)++(y9 4 [0,0,0,0])))
 cond a2
  (let l398:LI:=(if((0=0)∧(4=4))then l396 else(y8 4 (y9 0 l396)))
  let l399:LI:=(if((0=0)∧(4=4))then l397 else(y8 4 (y9 0 l397)))
  (q61 F l398 l399 1 3).bind fun r435=>
  (q61 F l398 l399 2 3).bind fun r436=>
  let l437:LI:=(l398++(l399++(r435.1++r436.1)))
  let l438:LI:=(if((0=0)∧(16=16))then l437 else(((y8 0 q04)++l437)++(y9 16 q04)))
  some ((if((0=0)∧(16=16))then l438 else(y8 16 (y9 0 l438))),()))
  (cond (decide (a1<a0))
   (let l441:LI:=(if((0=0)∧(4=4))then l396 else(y8 4 (y9 0 l396)))
   let l442:LI:=(if((0=0)∧(4=4))then l397 else(y8 4 (y9 0 l397)))
   (q61 F l441 l442 1 3).bind fun r443=>
   (q61 F l441 l442 2 3).bind fun r444=>
   let l445:LI:=(l441++(l442++(r443.1++r444.1)))
   let l446:LI:=(if((0=0)∧(16=16))then l445 else(((y8 0 q04)++l445)++(y9 16 q04)))
   some ((if((0=0)∧(16=16))then l446 else(y8 16 (y9 0 l446))),()))
   (let l448:LI:=(if((0=0)∧(4=4))then l396 else(y8 4 (y9 0 l396)))
   let l449:LI:=(if((0=0)∧(4=4))then l397 else(y8 4 (y9 0 l397)))
   (q61 F l448 l449 1 2).bind fun r450=>
   let l451:LI:=(l448++(l449++(r450.1++[0,0,0,0])))
   let l452:LI:=(if((0=0)∧(16=16))then l451 else(((y8 0 q04)++l451)++(y9 16 q04)))
   some ((if((0=0)∧(16=16))then l452 else(y8 16 (y9 0 l452))),())))
def q5x(F:Nat)(rec:LI→LI→LI→LI→Int→Option (LI×LI×Unit))(x0:LI)(x1:LI)(x2:LI)(x3:LI)(x4:Int):Option (LI×LI×Unit):=
 cond (decide (x4<16))
  (let b472:Bool:=((decide (0≤x4))&&(decide (x4<16)))
  cond b472
   (let v473:Int:=(y7 x3 (y6 x4) 0)
   cond ((decide (0≤v473))&&(decide (v473<4)))
    (cond b472
     (let n477:Nat:=((y6 x4)*4)
     rec x0 (((y8 n477 x1)++(y8 4 (y9 ((y6 v473)*4) x2)))++(y9 (n477+4) x1)) x2 x3 (y0 .i64 (x4+1)))
      none)
     none)
    none)
  (some (x0,x1,()))
def q3n(F:Nat):Nat→LI→LI→LI→LI→Int→Option (LI×LI×Unit)
 |0,_,_,_,_,_=>none
 |k+1,x0,x1,x2,x3,x4=>q5x F (q3n F k) x0 x1 x2 x3 x4
def q78(a0:LI)(a1:Bool):Option (LI×Int×Unit):=
 (qrw F a0).bind fun r361=>
 let l362:LI:=(if((0=0)∧(16=16))then r361.2.2.1 else(((y8 0 q04)++r361.2.2.1)++(y9 16 q04)))
 cond (r361.2.2.2.1 !=0)
  (some (q2v,r361.2.2.2.1,()))
  ((qae F r361.1 r361.2.1 a1).bind fun r454=>
  (q3n F F q2v q2v (if((0=0)∧(16=16))then r454.1 else(((y8 0 q04)++r454.1)++(y9 16 q04))) (if((0=0)∧(16=16))then l362 else(y8 16 (y9 0 l362))) 0).bind fun r480=>
  let l481:LI:=(if((0=0)∧(64=64))then r480.2.1 else(y8 64 (y9 0 r480.2.1)))
  let l482:LI:=(if((0=0)∧(64=64))then l481 else(((y8 0 r480.1)++l481)++(y9 64 r480.1)))
  some ((if((0=0)∧(64=64))then l482 else(y8 64 (y9 0 l482))),0,()))
def qkd(a0:LI):Option (Int×Unit):=
 (q8h F (y7 a0 0 0) 5).bind fun r564=>
 (q8h F (y7 a0 1 0) 6).bind fun r567=>
 (q8h F (y7 a0 2 0) 5).bind fun r571=>
 some ((ior .i64 (ior .i64 (ishl .i64 r564.1 11) (ishl .i64 r567.1 5)) r571.1),())
def qhb(a0:Int):Option (LI×Unit):=
 let v598:Int:=(yu a0 65536)
 cond (decide (v598<0))
  (let v600:Int:=(y0 .i64 (v598+65536))
  (q0c F (y0 .i64 (yv v600 2048)) 5).bind fun r652=>
  (q0c F (y0 .i64 (yv v600 32)) 6).bind fun r654=>
  (q0c F v600 5).bind fun r655=>
  some ([r652.1,r654.1,r655.1,255],()))
  ((q0c F (y0 .i64 (yv v598 2048)) 5).bind fun r657=>
  (q0c F (y0 .i64 (yv v598 32)) 6).bind fun r659=>
  (q0c F v598 5).bind fun r660=>
  some ([r657.1,r659.1,r660.1,255],()))
def qbc(F:Nat)(a0:Int):Option (Int×Unit):=
 some ((y0 .i64 (a0*a0)),())
def z1k(rec:Int→Int→Int→Int→Option (Int×Unit))(x0:Int)(x1:Int)(x2:Int)(x3:Int):Option (Int×Unit):=
 (qcd F x1).bind fun r689=>
 cond (decide (x3<r689.1))
  ((q0c F x3 x1).bind fun r691=>
  (qbc F (y0 .i64 (r691.1-x0))).bind fun r693=>
  (q0c F x2 x1).bind fun r694=>
  (qbc F (y0 .i64 (r694.1-x0))).bind fun r696=>
  cond (decide (r693.1<r696.1))
   (rec x0 x1 x3 (y0 .i64 (x3+1)))
   (rec x0 x1 x2 (y0 .i64 (x3+1))))
  (some (x2,()))
def qja(F:Nat):Nat→Int→Int→Int→Int→Option (Int×Unit)
 |0,_,_,_,_=>none
 |k+1,x0,x1,x2,x3=>z1k F (qja F k) x0 x1 x2 x3
def qpg(a0:Int)(a1:Int):Option (Int×Unit):=
 cond (decide (a1<1))
  (some (0,()))
  (cond (decide (8<a1))
   (some (0,()))
   ((qja F F a0 a1 0 1).bind fun r700=>
   some (r700.1,())))
def zt8(a0:LI):Option (Int×Unit):=
 (qpg F (y7 a0 0 0) 5).bind fun r701=>
 (qpg F (y7 a0 1 0) 6).bind fun r704=>
 (qpg F (y7 a0 2 0) 5).bind fun r708=>
 some ((y0 .i64 ((y0 .i64 ((y0 .i64 (2048*r701.1))+(y0 .i64 (32*r704.1))))+r708.1)),())
def qjb(rec:Int→Int→LI→LI→LI→LI→Int→Option (LI×LI×Unit))(x0:Int)(x1:Int)(x2:LI)(x3:LI)(x4:LI)(x5:LI)(x6:Int):Option (LI×LI×Unit):=
 cond (decide (x6<3))
  (let b747:Bool:=((decide (0≤x6))&&(decide (x6<4)))
  cond b747
   (cond b747
    ((qh7 F (y7 x2 (y6 x6) 0) (y7 x3 (y6 x6) 0) x0 x1 0).bind fun r751=>
    cond b747
     (rec x0 x1 x2 x3 x4 (yw x5 (y6 x6) r751.1) (y0 .i64 (x6+1)))
      none)
     none)
    none)
  (some (x4,x5,()))
def q79(F:Nat):Nat→Int→Int→LI→LI→LI→LI→Int→Option (LI×LI×Unit)
 |0,_,_,_,_,_,_,_=>none
 |k+1,x0,x1,x2,x3,x4,x5,x6=>qjb F (q79 F k) x0 x1 x2 x3 x4 x5 x6
def qhc(a0:LI)(a1:LI)(a2:Int)(a3:Int):Option (LI×Unit):=
 (q79 F F a2 a3 a0 a1 [0,0,0,0] [0,0,0,255] 0).bind fun r754=>
 let l755:LI:=(if((0=0)∧(4=4))then r754.2.1 else(y8 4 (y9 0 r754.2.1)))
 let l756:LI:=(if((0=0)∧(4=4))then l755 else(((y8 0 r754.1)++l755)++(y9 4 r754.1)))
 some ((if((0=0)∧(4=4))then l756 else(y8 4 (y9 0 l756))),())
def qjc(a0:Int)(a1:Int)(a2:Bool):Option (LI×Unit):=
 (qhb F a0).bind fun r718=>
 let l719:LI:=(if((0=0)∧(4=4))then r718.1 else(((y8 0 [0,0,0,0])++r718.1)++(y9 4 [0,0,0,0])))
 (qhb F a1).bind fun r720=>
 let l721:LI:=(if((0=0)∧(4=4))then r720.1 else(((y8 0 [0,0,0,0])++r720.1)++(y9 4 [0,0,0,0])))
 cond a2
  (let l722:LI:=(if((0=0)∧(4=4))then l719 else(y8 4 (y9 0 l719)))
  let l723:LI:=(if((0=0)∧(4=4))then l721 else(y8 4 (y9 0 l721)))
  (qhc F l722 l723 1 3).bind fun r758=>
  (qhc F l722 l723 2 3).bind fun r759=>
  let l760:LI:=(l722++(l723++(r758.1++r759.1)))
  let l761:LI:=(if((0=0)∧(16=16))then l760 else(((y8 0 q04)++l760)++(y9 16 q04)))
  some ((if((0=0)∧(16=16))then l761 else(y8 16 (y9 0 l761))),()))
  (cond (decide (a1<a0))
   (let l764:LI:=(if((0=0)∧(4=4))then l719 else(y8 4 (y9 0 l719)))
   let l765:LI:=(if((0=0)∧(4=4))then l721 else(y8 4 (y9 0 l721)))
   (qhc F l764 l765 1 3).bind fun r766=>
   (qhc F l764 l765 2 3).bind fun r767=>
   let l768:LI:=(l764++(l765++(r766.1++r767.1)))
   let l769:LI:=(if((0=0)∧(16=16))then l768 else(((y8 0 q04)++l768)++(y9 16 q04)))
   some ((if((0=0)∧(16=16))then l769 else(y8 16 (y9 0 l769))),()))
   (let l771:LI:=(if((0=0)∧(4=4))then l719 else(y8 4 (y9 0 l719)))
   let l772:LI:=(if((0=0)∧(4=4))then l721 else(y8 4 (y9 0 l721)))
   (qhc F l771 l772 1 2).bind fun r773=>
   let l774:LI:=(l771++(l772++(r773.1++[0,0,0,0])))
   let l775:LI:=(if((0=0)∧(16=16))then l774 else(((y8 0 q04)++l774)++(y9 16 q04)))
   some ((if((0=0)∧(16=16))then l775 else(y8 16 (y9 0 l775))),())))
def q6z(rec:LI→LI→LI→Int→Option (LI×LI×LI×Unit))(x0:LI)(x1:LI)(x2:LI)(x3:Int):Option (LI×LI×LI×Unit):=
 cond (decide (x3<16))
  ((q2m F x0 (y0 .i64 (32+(y0 .i64 (2*x3)))) 2).bind fun r891=>
  cond ((decide (0≤x3))&&(decide (x3<16)))
   (rec x0 x1 (yw x2 (y6 x3) r891.1) (y0 .i64 (x3+1)))
    none)
  (some (x0,x1,x2,()))
def q4n(F:Nat):Nat→LI→LI→LI→Int→Option (LI×LI×LI×Unit)
 |0,_,_,_,_=>none
 |k+1,x0,x1,x2,x3=>q6z F (q4n F k) x0 x1 x2 x3
def qrx(a0:LI):Option (Int×Int×LI×Int×Unit):=
 cond ((((ya a0):Nat):Int) !=8)
  (some (0,0,q04,1,()))
  ((q4n F F a0 q04 q04 0).bind fun r896=>
  (q2m F r896.1 0 16).bind fun r898=>
  (q2m F r896.1 16 16).bind fun r899=>
  let l900:LI:=(if((0=0)∧(16=16))then r896.2.2.1 else(y8 16 (y9 0 r896.2.2.1)))
  let l901:LI:=(if((0=0)∧(16=16))then l900 else(((y8 0 r896.2.1)++l900)++(y9 16 r896.2.1)))
  some (r898.1,r899.1,(if((0=0)∧(16=16))then l901 else(y8 16 (y9 0 l901))),0,()))
def q5y(F:Nat)(rec:LI→LI→LI→LI→Int→Option (LI×LI×Unit))(x0:LI)(x1:LI)(x2:LI)(x3:LI)(x4:Int):Option (LI×LI×Unit):=
 cond (decide (x4<16))
  (let b929:Bool:=((decide (0≤x4))&&(decide (x4<16)))
  cond b929
   (let v931:Int:=(y7 x2 (y6 x4) 0)
   cond ((decide (0≤v931))&&(decide (v931<4)))
    (cond b929
     (let n935:Nat:=((y6 x4)*4)
     rec x0 (((y8 n935 x1)++(y8 4 (y9 ((y6 v931)*4) x3)))++(y9 (n935+4) x1)) x2 x3 (y0 .i64 (x4+1)))
      none)
     none)
    none)
  (some (x0,x1,()))
def q3o(F:Nat):Nat→LI→LI→LI→LI→Int→Option (LI×LI×Unit)
 |0,_,_,_,_,_=>none
 |k+1,x0,x1,x2,x3,x4=>q5y F (q3o F k) x0 x1 x2 x3 x4
def q4o(a0:LI)(a1:Bool):Option (LI×Int×Unit):=
 (qrx F a0).bind fun r908=>
 cond (r908.2.2.2.1 !=0)
  (some (q2v,r908.2.2.2.1,()))
  ((qjc F r908.1 r908.2.1 a1).bind fun r911=>
  (q3o F F q2v q2v (if((0=0)∧(16=16))then r908.2.2.1 else(((y8 0 q04)++r908.2.2.1)++(y9 16 q04))) (if((0=0)∧(16=16))then r911.1 else(((y8 0 q04)++r911.1)++(y9 16 q04))) 0).bind fun r938=>
  let l939:LI:=(if((0=0)∧(64=64))then r938.2.1 else(y8 64 (y9 0 r938.2.1)))
  let l940:LI:=(if((0=0)∧(64=64))then l939 else(((y8 0 r938.1)++l939)++(y9 64 r938.1)))
  some ((if((0=0)∧(64=64))then l940 else(y8 64 (y9 0 l940))),0,()))
def q8j(rec:LI→LI→Int→Option (Unit⊕(LI×Unit)))(x0:LI)(x1:LI)(x2:Int):Option (Unit⊕(LI×Unit)):=
 cond (decide (x2<16))
  (let b1671:Bool:=((decide (0≤x2))&&(decide (x2<16)))
  cond b1671
   (let v1673:Int:=(y7 x0 (y6 x2) 0)
   cond (decide (v1673<0))
    (some (.inl ()))
    (cond b1671
     (cond (decide (3<v1673))
      (some (.inl ()))
      (cond b1671
       ((q34 F x1 (y0 .i64 (32+(y0 .i64 (2*x2)))) 2 false (y0 .u64 v1673)).bind fun r1679=>
       rec x0 r1679.1 (y0 .i64 (x2+1)))
        none))
      none))
    none)
  (some (.inr (x1,())))
def q3f(F:Nat):Nat→LI→LI→Int→Option (Unit⊕(LI×Unit))
 |0,_,_,_=>none
 |k+1,x0,x1,x2=>q8j F (q3f F k) x0 x1 x2
def q8k(a0:Int)(a1:Int)(a2:LI):Option (LI×Int×Unit):=
 cond (decide (a0<0))
  (some ([],1,()))
  (cond (decide (a1<0))
   (some ([],1,()))
   (cond (decide (65535<a0))
    (some ([],1,()))
    (cond (decide (65535<a1))
     (some ([],1,()))
     ((q34 F qj9 0 16 false (y0 .u64 a0)).bind fun r1644=>
     (q34 F r1644.1 16 16 false (y0 .u64 a1)).bind fun r1647=>
     (q3f F F a2 r1647.1 0).bind fun r1682=>match r1682 with
      | .inl r1682=>(some ([],1,()))
      | .inr r1682=>(some (r1682.1,0,()))))))
def q62:LI:=[0,0,0,0,0,0,0,0,0,0,0,0,0,0,0,0]
def qjd:LI:=[0,0,0,0,0,0,0,0]
def q0z(a0:Int)(a1:Int)(a2:Int)(a3:LI)(a4:Bool):Option (LI×Bool×Unit):=
 (q9e F a3 a0 a1 (y0 .u64 a2)).bind fun r157=>
 cond a4
  (let b159:Bool:=(r157.2.1==0)
  cond b159
   (some (r157.1,b159,()))
   (some (a3,b159,())))
  (some (a3,false,()))
def qhd(F:Nat)(a0:Bool):Option (Int×Unit):=
 cond a0
  (some (1,()))
  (some (0,()))
def q4g(F:Nat)(a0:Int):Option (Int×Unit):=
 some ((y0 .i64 ((y0 .i64 (4*(yu a0 4)))+(y0 .i64 (yv a0 4)))),())
def qwx(rec:Bool→Bool→LI→LI→LI→LI→LI→Bool→Int→Option (Bool×Bool×LI×LI×LI×LI×LI×Bool×Unit))(x0:Bool)(x1:Bool)(x2:LI)(x3:LI)(x4:LI)(x5:LI)(x6:LI)(x7:Bool)(x8:Int):Option (Bool×Bool×LI×LI×LI×LI×LI×Bool×Unit):=
 cond (decide (x8<3))
  (let v470:Int:=(y0 .i64 (8*x8))
  cond (!x0)
   (let b472:Bool:=((decide (0≤x8))&&(decide (x8<3)))
   cond b472
    ((q0z F v470 4 (y7 x2 (y6 x8) 0) x6 x7).bind fun r475=>
    cond b472
     ((q0z F (y0 .i64 (v470+4)) 4 (y7 x3 (y6 x8) 0) r475.1 r475.2.1).bind fun r479=>
     rec x0 x1 x2 x3 x4 x5 r479.1 r479.2.1 (y0 .i64 (x8+1)))
      none)
     none)
   (let b482:Bool:=((decide (0≤x8))&&(decide (x8<3)))
   cond b482
    ((q0z F v470 5 (y7 x2 (y6 x8) 0) x6 x7).bind fun r485=>
    let v487:Int:=(y0 .i64 (v470+5))
    cond b482
     (cond b482
      (let v488:Int:=(y7 x3 (y6 x8) 0)
      cond (decide (v488<0))
       (cond b482
        ((qhd F (decide ((-4)≤v488))).bind fun r491=>
        (q0z F v487 3 (y0 .i64 (v488-(y0 .i64 ((-8)*r491.1)))) r485.1 r485.2.1).bind fun r494=>
        cond r494.2.1
         (cond b482
          (rec x0 x1 x2 x3 x4 x5 r494.1 (decide (v488<4)) (y0 .i64 (x8+1)))
           none)
         (rec x0 x1 x2 x3 x4 x5 r494.1 false (y0 .i64 (x8+1))))
         none)
       ((qhd F false).bind fun r499=>
       (q0z F v487 3 (y0 .i64 (v488-(y0 .i64 ((-8)*r499.1)))) r485.1 r485.2.1).bind fun r502=>
       cond r502.2.1
        (cond b482
         (rec x0 x1 x2 x3 x4 x5 r502.1 (decide (v488<4)) (y0 .i64 (x8+1)))
          none)
        (rec x0 x1 x2 x3 x4 x5 r502.1 false (y0 .i64 (x8+1)))))
       none)
      none)
     none))
  (some (x0,x1,x2,x3,x4,x5,x6,x7,()))
def qg6(F:Nat):Nat→Bool→Bool→LI→LI→LI→LI→LI→Bool→Int→Option (Bool×Bool×LI×LI×LI×LI×LI×Bool×Unit)
 |0,_,_,_,_,_,_,_,_,_=>none
 |k+1,x0,x1,x2,x3,x4,x5,x6,x7,x8=>qwx F (qg6 F k) x0 x1 x2 x3 x4 x5 x6 x7 x8
def qwy(rec:LI→Bool→LI→Int→Option (LI×Bool×Unit))(x0:LI)(x1:Bool)(x2:LI)(x3:Int):Option (LI×Bool×Unit):=
 cond (decide (x3<16))
  (cond ((decide (0≤x3))&&(decide (x3<16)))
   (let v603:Int:=(y7 x2 (y6 x3) 0)
   cond x1
    (cond (decide (0≤v603))
     ((q4g F x3).bind fun r606=>
     (q0z F (y0 .i64 (47-r606.1)) 1 (iand .i64 (ishr .i64 v603 1) 1) x0 (decide (v603<4))).bind fun r610=>
     (q4g F x3).bind fun r612=>
     (q0z F (y0 .i64 (63-r612.1)) 1 (iand .i64 v603 1) r610.1 r610.2.1).bind fun r615=>
     rec r615.1 r615.2.1 x2 (y0 .i64 (x3+1)))
     ((q4g F x3).bind fun r618=>
     (q0z F (y0 .i64 (47-r618.1)) 1 (iand .i64 (ishr .i64 v603 1) 1) x0 false).bind fun r622=>
     (q4g F x3).bind fun r624=>
     (q0z F (y0 .i64 (63-r624.1)) 1 (iand .i64 v603 1) r622.1 r622.2.1).bind fun r627=>
     rec r627.1 r627.2.1 x2 (y0 .i64 (x3+1))))
    ((q4g F x3).bind fun r630=>
    (q0z F (y0 .i64 (47-r630.1)) 1 (iand .i64 (ishr .i64 v603 1) 1) x0 false).bind fun r634=>
    (q4g F x3).bind fun r636=>
    (q0z F (y0 .i64 (63-r636.1)) 1 (iand .i64 v603 1) r634.1 r634.2.1).bind fun r639=>
    rec r639.1 r639.2.1 x2 (y0 .i64 (x3+1))))
    none)
  (some (x0,x1,()))
def qg7(F:Nat):Nat→LI→Bool→LI→Int→Option (LI×Bool×Unit)
 |0,_,_,_,_=>none
 |k+1,x0,x1,x2,x3=>qwy F (qg7 F k) x0 x1 x2 x3
def zif(a0:(Bool×Bool×LI×LI×LI×LI×Unit)):Option (LI×Int×Unit):=
 (qg6 F F a0.1 a0.2.1 a0.2.2.1 a0.2.2.2.1 a0.2.2.2.2.1 a0.2.2.2.2.2.1 qjd true 0).bind fun r507=>
 (q0z F 24 3 (y7 r507.2.2.2.2.1 0 0) r507.2.2.2.2.2.2.1 r507.2.2.2.2.2.2.2.1).bind fun r510=>
 (q0z F 27 3 (y7 r507.2.2.2.2.1 1 0) r510.1 r510.2.1).bind fun r513=>
 (qhd F r507.1).bind fun r515=>
 (q0z F 30 1 r515.1 r513.1 r513.2.1).bind fun r516=>
 (qhd F r507.2.1).bind fun r518=>
 (q0z F 31 1 r518.1 r516.1 r516.2.1).bind fun r519=>
 (qg7 F F r519.1 r519.2.1 r507.2.2.2.2.2.1 0).bind fun r642=>
 cond (!r642.2.1)
  (some ([],1,()))
  (some (r642.1,0,()))
def q4x:LI:=[0,0,0,0,0,0,0,0,0,0,0,0,0,0,0,0,0,0,0,0,0,0,0,0,0,0,0,0,0,0,0,0,0,0,0,0,0,0,0,0,0,0,0,0,0,0,0,0,0,0,0,0,0,0,0,0,0,0,0,0,0,0,0,0]
def q1o(a0:Int)(a1:Int)(a2:LI):Option (Int×Unit):=
 (qwr F a2 a0 a1).bind fun r711=>
 some ((y0 .i64 r711.1),())
def qtl(rec:LI→LI→LI→LI→Bool→Bool→LI→LI→LI→LI→LI→Int→Option (LI×LI×LI×LI×Bool×Bool×LI×LI×LI×LI×LI×Unit))(x0:LI)(x1:LI)(x2:LI)(x3:LI)(x4:Bool)(x5:Bool)(x6:LI)(x7:LI)(x8:LI)(x9:LI)(x10:LI)(x11:Int):Option (LI×LI×LI×LI×Bool×Bool×LI×LI×LI×LI×LI×Unit):=
 cond (decide (x11<3))
  (let v758:Int:=(y0 .i64 (8*x11))
  cond (!x4)
   ((q1o F v758 4 x10).bind fun r761=>
   let b762:Bool:=((decide (0≤x11))&&(decide (x11<3)))
   cond b762
    ((q1o F (y0 .i64 (v758+4)) 4 x10).bind fun r764=>
    cond b762
     (rec x0 x1 x2 x3 x4 x5 (yw x6 (y6 x11) r761.1) (yw x7 (y6 x11) r764.1) x8 x9 x10 (y0 .i64 (x11+1)))
      none)
     none)
   ((q1o F v758 5 x10).bind fun r769=>
   let b770:Bool:=((decide (0≤x11))&&(decide (x11<3)))
   cond b770
    ((q1o F (y0 .i64 (v758+5)) 3 x10).bind fun r772=>
    let l773:LI:=(yw x6 (y6 x11) r769.1)
    cond b770
     (let l774:LI:=(yw x7 (y6 x11) r772.1)
     cond b770
      (let v775:Int:=(y7 l774 (y6 x11) 0)
      cond (decide (4≤v775))
       (cond b770
        (cond b770
         (rec x0 x1 x2 x3 x4 x5 l773 (yw l774 (y6 x11) (y0 .i64 (v775+(-8)))) x8 x9 x10 (y0 .i64 (x11+1)))
          none)
         none)
       (rec x0 x1 x2 x3 x4 x5 l773 l774 x8 x9 x10 (y0 .i64 (x11+1))))
       none)
      none)
     none))
  (some (x0,x1,x2,x3,x4,x5,x6,x7,x8,x9,x10,()))
def qdi(F:Nat):Nat→LI→LI→LI→LI→Bool→Bool→LI→LI→LI→LI→LI→Int→Option (LI×LI×LI×LI×Bool×Bool×LI×LI×LI×LI×LI×Unit)
 |0,_,_,_,_,_,_,_,_,_,_,_,_=>none
 |k+1,x0,x1,x2,x3,x4,x5,x6,x7,x8,x9,x10,x11=>qtl F (qdi F k) x0 x1 x2 x3 x4 x5 x6 x7 x8 x9 x10 x11
def qtm(rec:LI→LI→LI→LI→Bool→Bool→LI→LI→LI→LI→LI→Int→Option (LI×LI×LI×LI×Bool×Bool×LI×LI×LI×LI×Unit))(x0:LI)(x1:LI)(x2:LI)(x3:LI)(x4:Bool)(x5:Bool)(x6:LI)(x7:LI)(x8:LI)(x9:LI)(x10:LI)(x11:Int):Option (LI×LI×LI×LI×Bool×Bool×LI×LI×LI×LI×Unit):=
 cond (decide (x11<16))
  ((q4g F x11).bind fun r811=>
  (q1o F (y0 .i64 (47-r811.1)) 1 x10).bind fun r813=>
  (q4g F x11).bind fun r815=>
  (q1o F (y0 .i64 (63-r815.1)) 1 x10).bind fun r817=>
  cond ((decide (0≤x11))&&(decide (x11<16)))
   (rec x0 x1 x2 x3 x4 x5 x6 x7 x8 (yw x9 (y6 x11) (y0 .i64 ((y0 .i64 (2*r813.1))+r817.1))) x10 (y0 .i64 (x11+1)))
    none)
  (some (x0,x1,x2,x3,x4,x5,x6,x7,x8,x9,()))
def qdj(F:Nat):Nat→LI→LI→LI→LI→Bool→Bool→LI→LI→LI→LI→LI→Int→Option (LI×LI×LI×LI×Bool×Bool×LI×LI×LI×LI×Unit)
 |0,_,_,_,_,_,_,_,_,_,_,_,_=>none
 |k+1,x0,x1,x2,x3,x4,x5,x6,x7,x8,x9,x10,x11=>qtm F (qdj F k) x0 x1 x2 x3 x4 x5 x6 x7 x8 x9 x10 x11
def q9j(a0:LI):Option ((Bool×Bool×LI×LI×LI×LI×Unit)×Int×Unit):=
 cond ((((ya a0):Nat):Int) !=8)
  (some ((false,false,[0,0,0],[0,0,0],[0,0],q62,()),1,()))
  ((q1o F 30 1 a0).bind fun r713=>
  (q1o F 31 1 a0).bind fun r715=>
  (qdi F F [0,0,0] [0,0,0] [0,0] q62 (r713.1==1) (r715.1==1) [0,0,0] [0,0,0] [0,0] q62 a0 0).bind fun r781=>
  (q1o F 24 3 r781.2.2.2.2.2.2.2.2.2.2.1).bind fun r783=>
  (q1o F 27 3 r781.2.2.2.2.2.2.2.2.2.2.1).bind fun r784=>
  (qdj F F r781.1 r781.2.1 r781.2.2.1 r781.2.2.2.1 r781.2.2.2.2.1 r781.2.2.2.2.2.1 r781.2.2.2.2.2.2.1 r781.2.2.2.2.2.2.2.1 [r783.1,r784.1] r781.2.2.2.2.2.2.2.2.2.1 r781.2.2.2.2.2.2.2.2.2.2.1 0).bind fun r823=>
  some ((r823.2.2.2.2.1,r823.2.2.2.2.2.1,r823.2.2.2.2.2.2.1,r823.2.2.2.2.2.2.2.1,r823.2.2.2.2.2.2.2.2.1,r823.2.2.2.2.2.2.2.2.2.1,()),0,()))
def qtn:LI:=[0,0,0,255,0,0,0,255]
def qto(rec:Bool→Bool→LI→LI→LI→LI→LI→LI→Int→Int→Option (LI×LI×Int×Unit))(x0:Bool)(x1:Bool)(x2:LI)(x3:LI)(x4:LI)(x5:LI)(x6:LI)(x7:LI)(x8:Int)(x9:Int):Option (LI×LI×Int×Unit):=
 cond (decide (x9<3))
  (let b918:Bool:=((decide (0≤x9))&&(decide (x9<3)))
  cond b918
   (let v920:Int:=(y7 x3 (y6 x9) 0)
   cond x0
    (cond b918
     (let v921:Int:=(y7 x2 (y6 x9) 0)
     cond b918
      (let v922:Int:=(y0 .i64 (v921+v920))
      cond (x8==3)
       (cond (decide (v922<0))
        (cond b918
         ((q0m F v921 5).bind fun r925=>
         let b926:Bool:=((decide (0≤x9))&&(decide (x9<4)))
         cond b926
          ((q0m F v922 5).bind fun r927=>
          cond b926
           (rec x0 x1 x2 x3 x4 x5 x6 (yw (yw x7 (y6 x9) r925.1) (4+(y6 x9)) r927.1) x9 (y0 .i64 (x9+1)))
            none)
           none)
          none)
        (cond ((ishr .i64 v922 5) !=0)
         (cond b918
          ((q0m F v921 5).bind fun r933=>
          let b934:Bool:=((decide (0≤x9))&&(decide (x9<4)))
          cond b934
           ((q0m F v922 5).bind fun r935=>
           cond b934
            (rec x0 x1 x2 x3 x4 x5 x6 (yw (yw x7 (y6 x9) r933.1) (4+(y6 x9)) r935.1) x9 (y0 .i64 (x9+1)))
             none)
            none)
           none)
         (cond b918
          ((q0m F v921 5).bind fun r939=>
          let b940:Bool:=((decide (0≤x9))&&(decide (x9<4)))
          cond b940
           ((q0m F v922 5).bind fun r941=>
           cond b940
            (rec x0 x1 x2 x3 x4 x5 x6 (yw (yw x7 (y6 x9) r939.1) (4+(y6 x9)) r941.1) x8 (y0 .i64 (x9+1)))
             none)
            none)
           none)))
       (cond b918
        ((q0m F v921 5).bind fun r945=>
        let b946:Bool:=((decide (0≤x9))&&(decide (x9<4)))
        cond b946
         ((q0m F v922 5).bind fun r947=>
         cond b946
          (rec x0 x1 x2 x3 x4 x5 x6 (yw (yw x7 (y6 x9) r945.1) (4+(y6 x9)) r947.1) x8 (y0 .i64 (x9+1)))
           none)
          none)
         none))
       none)
      none)
    (cond b918
     ((q0m F (y7 x2 (y6 x9) 0) 4).bind fun r952=>
     let b953:Bool:=((decide (0≤x9))&&(decide (x9<4)))
     cond b953
      ((q0m F v920 4).bind fun r954=>
      cond b953
       (rec x0 x1 x2 x3 x4 x5 x6 (yw (yw x7 (y6 x9) r952.1) (4+(y6 x9)) r954.1) x8 (y0 .i64 (x9+1)))
        none)
       none)
      none))
    none)
  (some (x6,x7,x8,()))
def qdk(F:Nat):Nat→Bool→Bool→LI→LI→LI→LI→LI→LI→Int→Int→Option (LI×LI×Int×Unit)
 |0,_,_,_,_,_,_,_,_,_,_=>none
 |k+1,x0,x1,x2,x3,x4,x5,x6,x7,x8,x9=>qto F (qdk F k) x0 x1 x2 x3 x4 x5 x6 x7 x8 x9
def qmm(a0:(Bool×Bool×LI×LI×LI×LI×Unit)):Option (LI×Int×Unit):=
 (qdk F F a0.1 a0.2.1 a0.2.2.1 a0.2.2.2.1 a0.2.2.2.2.1 a0.2.2.2.2.2.1 qjd qtn 3 0).bind fun r958=>
 some (r958.2.1,r958.2.2.1,())
def z3r(F:Nat)(a0:Bool)(a1:Int):Option (Int×Unit):=
 let v961:Int:=(iand .i64 a1 15)
 cond a0
  (some ((y0 .i64 (yv v961 8)),()))
  (some ((y0 .i64 (yv (yu v961 4) 2)),()))
def zcl:LI:=[2,8,5,17,9,29,13,42,18,60,24,80,33,106,47,183]
def zbr(F:Nat)(a0:Int):Option (LI×Unit):=
 let v975:Int:=(iand .i64 a0 7)
 cond ((decide (0≤v975))&&(decide (v975<8)))
  (let l978:LI:=(y8 2 (y9 ((y6 v975)*2) zcl))
  let v979:Int:=(y7 l978 0 0)
  let v980:Int:=(y7 l978 1 0)
  some ([v979,v980,(y0 .i64 (0-v979)),(y0 .i64 (0-v980))],()))
   none
def qtp(rec:Bool→Bool→LI→LI→LI→LI→LI→LI→LI→Int→Int→Int→LI→Int→Int→Option (Bool×Bool×LI×LI×LI×LI×LI×LI×LI×LI×Int×Unit))(x0:Bool)(x1:Bool)(x2:LI)(x3:LI)(x4:LI)(x5:LI)(x6:LI)(x7:LI)(x8:LI)(x9:Int)(x10:Int)(x11:Int)(x12:LI)(x13:Int)(x14:Int):Option (Bool×Bool×LI×LI×LI×LI×LI×LI×LI×LI×Int×Unit):=
 cond (decide (x14<3))
  (let b1095:Bool:=((decide (0≤x9))&&(decide (x9<16)))
  cond b1095
   (let b1097:Bool:=((decide (0≤x14))&&(decide (x14<4)))
   cond b1097
    (let n1098:Nat:=(((y6 x9)*4)+(y6 x14))
    cond ((decide (0≤x11))&&(decide (x11<2)))
     ((zbr F (y7 x4 (y6 x11) 0)).bind fun r1103=>
     let v1104:Int:=(iand .i64 x10 3)
     cond ((decide (0≤v1104))&&(decide (v1104<4)))
      ((q27 F (y0 .i64 ((y7 x8 n1098 0)+(y7 r1103.1 (y6 v1104) 0))) 255).bind fun r1108=>
      cond b1095
       (cond b1097
        (rec x0 x1 x2 x3 x4 x5 x6 x7 (yw x8 n1098 r1108.1) x9 x10 x11 x12 x13 (y0 .i64 (x14+1)))
         none)
        none)
       none)
      none)
     none)
    none)
  (some (x0,x1,x2,x3,x4,x5,x6,x7,x8,x12,x13,()))
def qdl(F:Nat):Nat→Bool→Bool→LI→LI→LI→LI→LI→LI→LI→Int→Int→Int→LI→Int→Int→Option (Bool×Bool×LI×LI×LI×LI×LI×LI×LI×LI×Int×Unit)
 |0,_,_,_,_,_,_,_,_,_,_,_,_,_,_,_=>none
 |k+1,x0,x1,x2,x3,x4,x5,x6,x7,x8,x9,x10,x11,x12,x13,x14=>qtp F (qdl F k) x0 x1 x2 x3 x4 x5 x6 x7 x8 x9 x10 x11 x12 x13 x14
def qtq(rec:Bool→Bool→LI→LI→LI→LI→LI→LI→LI→LI→Int→Option (LI×LI×Unit))(x0:Bool)(x1:Bool)(x2:LI)(x3:LI)(x4:LI)(x5:LI)(x6:LI)(x7:LI)(x8:LI)(x9:LI)(x10:Int):Option (LI×LI×Unit):=
 cond (decide (x10<16))
  (let b1069:Bool:=((decide (0≤x10))&&(decide (x10<16)))
  cond b1069
   ((z3r F x1 x10).bind fun r1071=>
   cond ((decide (0≤r1071.1))&&(decide (r1071.1<2)))
    (cond b1069
     (let n1075:Nat:=((y6 x10)*4)
     (qdl F F x0 x1 x2 x3 x4 x5 x6 x7 (((y8 n1075 x8)++(y8 4 (y9 ((y6 r1071.1)*4) x7)))++(y9 (n1075+4) x8)) x10 (y7 x9 (y6 x10) 0) r1071.1 x9 x10 0).bind fun r1111=>
     rec r1111.1 r1111.2.1 r1111.2.2.1 r1111.2.2.2.1 r1111.2.2.2.2.1 r1111.2.2.2.2.2.1 r1111.2.2.2.2.2.2.1 r1111.2.2.2.2.2.2.2.1 r1111.2.2.2.2.2.2.2.2.1 r1111.2.2.2.2.2.2.2.2.2.1 (y0 .i64 (r1111.2.2.2.2.2.2.2.2.2.2.1+1)))
      none)
     none)
    none)
  (some (x6,x8,()))
def qdm(F:Nat):Nat→Bool→Bool→LI→LI→LI→LI→LI→LI→LI→LI→Int→Option (LI×LI×Unit)
 |0,_,_,_,_,_,_,_,_,_,_,_=>none
 |k+1,x0,x1,x2,x3,x4,x5,x6,x7,x8,x9,x10=>qtq F (qdm F k) x0 x1 x2 x3 x4 x5 x6 x7 x8 x9 x10
def qwz(a0:(Bool×Bool×LI×LI×LI×LI×Unit)):Option (LI×Unit):=
 (qmm F (a0.1,a0.2.1,a0.2.2.1,a0.2.2.2.1,a0.2.2.2.2.1,a0.2.2.2.2.2.1,())).bind fun r959=>
 (qdm F F a0.1 a0.2.1 a0.2.2.1 a0.2.2.2.1 a0.2.2.2.2.1 a0.2.2.2.2.2.1 q4x r959.1 q4x a0.2.2.2.2.2.1 0).bind fun r1113=>
 some (r1113.2.1,())
def z59(a0:LI):Option (LI×Int×Unit):=
 (q9j F a0).bind fun r824=>
 cond (r824.2.1 !=0)
  (some (q4x,r824.2.1,()))
  ((qwz F (r824.1.1,r824.1.2.1,r824.1.2.2.1,r824.1.2.2.2.1,r824.1.2.2.2.2.1,r824.1.2.2.2.2.2.1,())).bind fun r1114=>
  some (r1114.1,0,()))
def q35(a0:LI)(a1:Int)(a2:Int):Option (Int×Unit):=
 (qpa F a0 a1 a2 true).bind fun r1225=>
 some ((y0 .i64 r1225.1),())
def qx0(rec:LI→LI→LI→Int→Option (LI×LI×Unit))(x0:LI)(x1:LI)(x2:LI)(x3:Int):Option (LI×LI×Unit):=
 cond (decide (x3<16))
  (let v1326:Int:=(y0 .i64 ((y0 .i64 (4*(yu x3 4)))+(y0 .i64 (yv x3 4))))
  (q35 F x0 (y0 .i64 (47-v1326)) 1).bind fun r1328=>
  (q35 F x0 (y0 .i64 (63-v1326)) 1).bind fun r1331=>
  cond ((decide (0≤x3))&&(decide (x3<16)))
   (rec x0 x1 (yw x2 (y6 x3) (y0 .i64 ((y0 .i64 (2*r1328.1))+r1331.1))) (y0 .i64 (x3+1)))
    none)
  (some (x1,x2,()))
def qg8(F:Nat):Nat→LI→LI→LI→Int→Option (LI×LI×Unit)
 |0,_,_,_,_=>none
 |k+1,x0,x1,x2,x3=>qx0 F (qg8 F k) x0 x1 x2 x3
def zig(a0:LI):Option (LI×Unit):=
 (qg8 F F a0 q62 q62 0).bind fun r1337=>
 some (r1337.2.1,())
def qx1(rec:LI→LI→LI→LI→LI→Bool→Bool→LI→LI→LI→LI→Int→Option (LI×LI×LI×LI×LI×Bool×Bool×LI×LI×LI×LI×Unit))(x0:LI)(x1:LI)(x2:LI)(x3:LI)(x4:LI)(x5:Bool)(x6:Bool)(x7:LI)(x8:LI)(x9:LI)(x10:LI)(x11:Int):Option (LI×LI×LI×LI×LI×Bool×Bool×LI×LI×LI×LI×Unit):=
 cond (decide (x11<3))
  (cond x5
   (let v1271:Int:=(y0 .i64 (8*x11))
   (q35 F x0 v1271 5).bind fun r1272=>
   let b1273:Bool:=((decide (0≤x11))&&(decide (x11<3)))
   cond b1273
    (let l1275:LI:=(yw x7 (y6 x11) r1272.1)
    (q35 F x0 (y0 .i64 (v1271+5)) 3).bind fun r1277=>
    cond b1273
     (let l1278:LI:=(yw x8 (y6 x11) r1277.1)
     cond b1273
      (let v1279:Int:=(y7 l1278 (y6 x11) 0)
      cond (decide (3<v1279))
       (cond b1273
        (cond b1273
         (rec x0 x1 x2 x3 x4 x5 x6 l1275 (yw l1278 (y6 x11) (y0 .i64 (v1279-8))) x9 x10 (y0 .i64 (x11+1)))
          none)
         none)
       (rec x0 x1 x2 x3 x4 x5 x6 l1275 l1278 x9 x10 (y0 .i64 (x11+1))))
       none)
      none)
     none)
   (let v1285:Int:=(y0 .i64 (8*x11))
   (q35 F x0 v1285 4).bind fun r1286=>
   let b1287:Bool:=((decide (0≤x11))&&(decide (x11<3)))
   cond b1287
    ((q35 F x0 (y0 .i64 (v1285+4)) 4).bind fun r1291=>
    cond b1287
     (rec x0 x1 x2 x3 x4 x5 x6 (yw x7 (y6 x11) r1286.1) (yw x8 (y6 x11) r1291.1) x9 x10 (y0 .i64 (x11+1)))
      none)
     none))
  (some (x0,x1,x2,x3,x4,x5,x6,x7,x8,x9,x10,()))
def qg9(F:Nat):Nat→LI→LI→LI→LI→LI→Bool→Bool→LI→LI→LI→LI→Int→Option (LI×LI×LI×LI×LI×Bool×Bool×LI×LI×LI×LI×Unit)
 |0,_,_,_,_,_,_,_,_,_,_,_,_=>none
 |k+1,x0,x1,x2,x3,x4,x5,x6,x7,x8,x9,x10,x11=>qx1 F (qg9 F k) x0 x1 x2 x3 x4 x5 x6 x7 x8 x9 x10 x11
def qkv(a0:LI):Option ((Bool×Bool×LI×LI×LI×LI×Unit)×Int×Unit):=
 cond ((((ya a0):Nat):Int) !=8)
  (some ((false,false,[0,0,0],[0,0,0],[0,0],q62,()),1,()))
  ((q35 F a0 30 1).bind fun r1227=>
  (q35 F a0 31 1).bind fun r1229=>
  (qg9 F F a0 [0,0,0] [0,0,0] [0,0] q62 (r1227.1==1) (r1229.1==1) [0,0,0] [0,0,0] [0,0] q62 0).bind fun r1294=>
  (q35 F r1294.1 24 3).bind fun r1296=>
  (q35 F r1294.1 27 3).bind fun r1297=>
  (zig F r1294.1).bind fun r1338=>
  some ((r1294.2.2.2.2.2.1,r1294.2.2.2.2.2.2.1,r1294.2.2.2.2.2.2.2.1,r1294.2.2.2.2.2.2.2.2.1,[r1296.1,r1297.1],r1338.1,()),0,()))
def q98(F:Nat)(a0:Int)(a1:Int)(a2:Int):Option (Bool×Unit):=
 cond (decide (a1≤a0))
  (some ((decide (a0≤a2)),()))
  (some (false,()))
def qph(F:Nat)(a0:Int)(a1:Int):Option (Int×Unit):=
 cond (!(a1==0))
  (cond (decide ((yu a0 a1)<0))
   (some ((y0 .i64 ((yu a0 a1)+a1)),()))
   (some ((yu a0 a1),())))
   none
def qx2(rec:Bool→Bool→LI→LI→LI→LI→LI→LI→Int→Int→Option (LI×LI×Int×Unit))(x0:Bool)(x1:Bool)(x2:LI)(x3:LI)(x4:LI)(x5:LI)(x6:LI)(x7:LI)(x8:Int)(x9:Int):Option (LI×LI×Int×Unit):=
 cond (decide (0≤x9))
  (cond x0
   (let b1454:Bool:=((decide (0≤x9))&&(decide (x9<3)))
   cond b1454
    (let v1456:Int:=(y7 x2 (y6 x9) 0)
    cond b1454
     (let v1458:Int:=(y0 .i64 (v1456+(y7 x3 (y6 x9) 0)))
     (q98 F v1458 0 31).bind fun r1459=>
     cond (!r1459.1)
      (cond b1454
       ((q0c F v1456 5).bind fun r1461=>
       let b1462:Bool:=((decide (0≤x9))&&(decide (x9<4)))
       cond b1462
        ((qph F v1458 32).bind fun r1464=>
        (q0c F r1464.1 5).bind fun r1465=>
        cond b1462
         (rec x0 x1 x2 x3 x4 x5 x6 (yw (yw x7 (y6 x9) r1461.1) (4+(y6 x9)) r1465.1) x9 (y0 .i64 (x9-1)))
          none)
         none)
        none)
      (cond b1454
       ((q0c F v1456 5).bind fun r1468=>
       let b1469:Bool:=((decide (0≤x9))&&(decide (x9<4)))
       cond b1469
        ((qph F v1458 32).bind fun r1471=>
        (q0c F r1471.1 5).bind fun r1472=>
        cond b1469
         (rec x0 x1 x2 x3 x4 x5 x6 (yw (yw x7 (y6 x9) r1468.1) (4+(y6 x9)) r1472.1) x8 (y0 .i64 (x9-1)))
          none)
         none)
        none))
      none)
     none)
   (let b1475:Bool:=((decide (0≤x9))&&(decide (x9<3)))
   cond b1475
    ((q0c F (y7 x2 (y6 x9) 0) 4).bind fun r1478=>
    let b1479:Bool:=((decide (0≤x9))&&(decide (x9<4)))
    cond b1479
     (cond b1475
      ((q0c F (y7 x3 (y6 x9) 0) 4).bind fun r1482=>
      cond b1479
       (rec x0 x1 x2 x3 x4 x5 x6 (yw (yw x7 (y6 x9) r1478.1) (4+(y6 x9)) r1482.1) x8 (y0 .i64 (x9-1)))
        none)
       none)
      none)
     none))
  (some (x6,x7,x8,()))
def qga(F:Nat):Nat→Bool→Bool→LI→LI→LI→LI→LI→LI→Int→Int→Option (LI×LI×Int×Unit)
 |0,_,_,_,_,_,_,_,_,_,_=>none
 |k+1,x0,x1,x2,x3,x4,x5,x6,x7,x8,x9=>qx2 F (qga F k) x0 x1 x2 x3 x4 x5 x6 x7 x8 x9
def qkw(a0:(Bool×Bool×LI×LI×LI×LI×Unit)):Option (LI×Int×Unit):=
 (qga F F a0.1 a0.2.1 a0.2.2.1 a0.2.2.2.1 a0.2.2.2.2.1 a0.2.2.2.2.2.1 qjd qtn 3 2).bind fun r1485=>
 some (r1485.2.1,r1485.2.2.1,())
def z8g(a0:Bool)(a1:Int):Option (Int×Unit):=
 (qph F a1 16).bind fun r1487=>
 cond a0
  (some ((y0 .i64 (yv r1487.1 8)),()))
  (some ((y0 .i64 (yv (yu r1487.1 4) 2)),()))
def zih(a0:Int):Option (LI×Unit):=
 (qph F a0 8).bind fun r1497=>
 cond (r1497.1==0)
  (some ([2,8,(-2),(-8)],()))
  (cond (r1497.1==1)
   (some ([5,17,(-5),(-17)],()))
   (cond (r1497.1==2)
    (some ([9,29,(-9),(-29)],()))
    (cond (r1497.1==3)
     (some ([13,42,(-13),(-42)],()))
     (cond (r1497.1==4)
      (some ([18,60,(-18),(-60)],()))
      (cond (r1497.1==5)
       (some ([24,80,(-24),(-80)],()))
       (cond (r1497.1==6)
        (some ([33,106,(-33),(-106)],()))
        (cond (r1497.1==7)
         (some ([47,183,(-47),(-183)],()))
          none)))))))
def qcf(F:Nat)(a0:Int)(a1:Int):Option (Int×Unit):=
 cond (decide (a1<a0))
  (cond (decide (a1<0))
   (some (0,()))
   (some (a1,())))
  (cond (decide (a0<0))
   (some (0,()))
   (some (a0,())))
def z5a(rec:Int→LI→LI→Int→Option (LI×LI×Unit))(x0:Int)(x1:LI)(x2:LI)(x3:Int):Option (LI×LI×Unit):=
 cond (decide (x3<3))
  (let b1526:Bool:=((decide (0≤x3))&&(decide (x3<4)))
  cond b1526
   ((qcf F (y0 .i64 ((y7 x1 (y6 x3) 0)+x0)) 255).bind fun r1530=>
   cond b1526
    (rec x0 (yw x1 (y6 x3) r1530.1) x2 (y0 .i64 (x3+1)))
     none)
    none)
  (some (x1,x2,()))
def qmn(F:Nat):Nat→Int→LI→LI→Int→Option (LI×LI×Unit)
 |0,_,_,_,_=>none
 |k+1,x0,x1,x2,x3=>z5a F (qmn F k) x0 x1 x2 x3
def q86(a0:LI)(a1:Int):Option (LI×Unit):=
 (qmn F F a1 a0 [0,0,0,0] 0).bind fun r1533=>
 some (r1533.1,())
def qx3(rec:Bool→Bool→LI→LI→LI→LI→LI→LI→LI→Int→Option (LI×LI×Unit))(x0:Bool)(x1:Bool)(x2:LI)(x3:LI)(x4:LI)(x5:LI)(x6:LI)(x7:LI)(x8:LI)(x9:Int):Option (LI×LI×Unit):=
 cond (decide (x9<16))
  ((z8g F x1 x9).bind fun r1554=>
  let b1555:Bool:=((decide (0≤r1554.1))&&(decide (r1554.1<2)))
  cond b1555
   (cond b1555
    ((zih F (y7 x4 (y6 r1554.1) 0)).bind fun r1560=>
    let b1561:Bool:=((decide (0≤x9))&&(decide (x9<16)))
    cond b1561
     (let v1563:Int:=(y7 x5 (y6 x9) 0)
     cond ((decide (0≤v1563))&&(decide (v1563<4)))
      ((q86 F (y8 4 (y9 ((y6 r1554.1)*4) x7)) (y7 r1560.1 (y6 v1563) 0)).bind fun r1566=>
      cond b1561
       (let n1567:Nat:=((y6 x9)*4)
       rec x0 x1 x2 x3 x4 x5 x6 x7 (((y8 n1567 x8)++r1566.1)++(y9 (n1567+4) x8)) (y0 .i64 (x9+1)))
        none)
       none)
      none)
     none)
    none)
  (some (x6,x8,()))
def qgb(F:Nat):Nat→Bool→Bool→LI→LI→LI→LI→LI→LI→LI→Int→Option (LI×LI×Unit)
 |0,_,_,_,_,_,_,_,_,_,_=>none
 |k+1,x0,x1,x2,x3,x4,x5,x6,x7,x8,x9=>qx3 F (qgb F k) x0 x1 x2 x3 x4 x5 x6 x7 x8 x9
def qry(a0:(Bool×Bool×LI×LI×LI×LI×Unit)):Option (LI×Unit):=
 (qkw F (a0.1,a0.2.1,a0.2.2.1,a0.2.2.2.1,a0.2.2.2.2.1,a0.2.2.2.2.2.1,())).bind fun r1486=>
 (qgb F F a0.1 a0.2.1 a0.2.2.1 a0.2.2.2.1 a0.2.2.2.2.1 a0.2.2.2.2.2.1 q4x r1486.1 q4x 0).bind fun r1570=>
 some (r1570.2.1,())
def qx4(a0:LI):Option (LI×Int×Unit):=
 (qkv F a0).bind fun r1342=>
 cond (r1342.2.1 !=0)
  (some (q4x,r1342.2.1,()))
  ((qry F (r1342.1.1,r1342.1.2.1,r1342.1.2.2.1,r1342.1.2.2.2.1,r1342.1.2.2.2.2.1,r1342.1.2.2.2.2.2.1,())).bind fun r1571=>
  some (r1571.1,0,()))
def z5b(rec:Bool→Bool→LI→LI→LI→LI→Int→Option (Unit⊕(Bool×Bool×LI×LI×LI×LI×Unit)))(x0:Bool)(x1:Bool)(x2:LI)(x3:LI)(x4:LI)(x5:LI)(x6:Int):Option (Unit⊕(Bool×Bool×LI×LI×LI×LI×Unit)):=
 cond (decide (x6<3))
  (cond x0
   (let b1634:Bool:=((decide (0≤x6))&&(decide (x6<3)))
   cond b1634
    (let v1636:Int:=(y7 x2 (y6 x6) 0)
    (q98 F v1636 0 31).bind fun r1637=>
    cond (!r1637.1)
     (some (.inl ()))
     (cond b1634
      (let v1639:Int:=(y7 x3 (y6 x6) 0)
      (q98 F v1639 (-4) 3).bind fun r1640=>
      cond (!r1640.1)
       (some (.inl ()))
       (cond (!x0)
        (cond b1634
         ((q98 F v1636 0 15).bind fun r1643=>
         cond (!r1643.1)
          (some (.inl ()))
          (cond b1634
           ((q98 F v1639 0 15).bind fun r1645=>
           cond (!r1645.1)
            (some (.inl ()))
            (rec x0 x1 x2 x3 x4 x5 (y0 .i64 (x6+1))))
            none))
          none)
        (rec x0 x1 x2 x3 x4 x5 (y0 .i64 (x6+1)))))
       none))
     none)
   (cond (!x0)
    (let b1650:Bool:=((decide (0≤x6))&&(decide (x6<3)))
    cond b1650
     ((q98 F (y7 x2 (y6 x6) 0) 0 15).bind fun r1653=>
     cond (!r1653.1)
      (some (.inl ()))
      (cond b1650
       ((q98 F (y7 x3 (y6 x6) 0) 0 15).bind fun r1656=>
       cond (!r1656.1)
        (some (.inl ()))
        (rec x0 x1 x2 x3 x4 x5 (y0 .i64 (x6+1))))
        none))
      none)
    (rec x0 x1 x2 x3 x4 x5 (y0 .i64 (x6+1)))))
  (some (.inr (x0,x1,x2,x3,x4,x5,())))
def qmo(F:Nat):Nat→Bool→Bool→LI→LI→LI→LI→Int→Option (Unit⊕(Bool×Bool×LI×LI×LI×LI×Unit))
 |0,_,_,_,_,_,_,_=>none
 |k+1,x0,x1,x2,x3,x4,x5,x6=>z5b F (qmo F k) x0 x1 x2 x3 x4 x5 x6
def z5c(rec:Bool→Bool→LI→LI→LI→LI→Int→Option (Unit⊕(Bool×Bool×LI×LI×LI×LI×Unit)))(x0:Bool)(x1:Bool)(x2:LI)(x3:LI)(x4:LI)(x5:LI)(x6:Int):Option (Unit⊕(Bool×Bool×LI×LI×LI×LI×Unit)):=
 cond (decide (x6<16))
  (cond ((decide (0≤x6))&&(decide (x6<16)))
   ((q98 F (y7 x5 (y6 x6) 0) 0 3).bind fun r1675=>
   cond (!r1675.1)
    (some (.inl ()))
    (rec x0 x1 x2 x3 x4 x5 (y0 .i64 (x6+1))))
    none)
  (some (.inr (x0,x1,x2,x3,x4,x5,())))
def qmp(F:Nat):Nat→Bool→Bool→LI→LI→LI→LI→Int→Option (Unit⊕(Bool×Bool×LI×LI×LI×LI×Unit))
 |0,_,_,_,_,_,_,_=>none
 |k+1,x0,x1,x2,x3,x4,x5,x6=>z5c F (qmp F k) x0 x1 x2 x3 x4 x5 x6
def j11(a0:(Bool×Bool×LI×LI×LI×LI×Unit)):Option (Bool×Unit):=
 (qmo F F a0.1 a0.2.1 a0.2.2.1 a0.2.2.2.1 a0.2.2.2.2.1 a0.2.2.2.2.2.1 0).bind fun r1660=>match r1660 with
  | .inl r1660=>(some (false,()))
  | .inr r1660=>((qmp F F r1660.1 r1660.2.1 r1660.2.2.1 r1660.2.2.2.1 r1660.2.2.2.2.1 r1660.2.2.2.2.2.1 0).bind fun r1678=>match r1678 with
    | .inl r1678=>(some (false,()))
    | .inr r1678=>((q98 F (y7 r1678.2.2.2.2.1 0 0) 0 7).bind fun r1680=>
     cond r1680.1
      ((q98 F (y7 r1678.2.2.2.2.1 1 0) 0 7).bind fun r1682=>
      some (r1682.1,()))
      (some (false,()))))
def q9k(a0:LI)(a1:Int)(a2:Int)(a3:Int):Option (LI×Unit):=
 (q34 F a0 a1 a2 true (y0 .u64 a3)).bind fun r2317=>
 some (r2317.1,())
def zii(F:Nat)(a0:Bool):Option (Int×Unit):=
 cond a0
  (some (1,()))
  (some (0,()))
def z5d(rec:LI→LI→Int→Option (LI×Unit))(x0:LI)(x1:LI)(x2:Int):Option (LI×Unit):=
 cond (decide (x2<16))
  (let v2474:Int:=(y0 .i64 ((y0 .i64 (4*(yu x2 4)))+(y0 .i64 (yv x2 4))))
  let b2476:Bool:=((decide (0≤x2))&&(decide (x2<16)))
  cond b2476
   (let v2478:Int:=(y7 x1 (y6 x2) 0)
   (q9k F x0 (y0 .i64 (47-v2474)) 1 (y0 .i64 (yv v2478 2))).bind fun r2480=>
   cond b2476
    ((q9k F r2480.1 (y0 .i64 (63-v2474)) 1 (yu v2478 2)).bind fun r2484=>
    rec r2484.1 x1 (y0 .i64 (x2+1)))
     none)
    none)
  (some (x0,()))
def qmq(F:Nat):Nat→LI→LI→Int→Option (LI×Unit)
 |0,_,_,_=>none
 |k+1,x0,x1,x2=>z5d F (qmq F k) x0 x1 x2
def j12(a0:LI)(a1:LI):Option (LI×Unit):=
 (qmq F F a0 a1 0).bind fun r2487=>
 some (r2487.1,())
def z1l(rec:Bool→Bool→LI→LI→LI→LI→LI→Int→Option (Bool×Bool×LI×LI×LI×LI×LI×Unit))(x0:Bool)(x1:Bool)(x2:LI)(x3:LI)(x4:LI)(x5:LI)(x6:LI)(x7:Int):Option (Bool×Bool×LI×LI×LI×LI×LI×Unit):=
 cond (decide (x7<3))
  (cond x0
   (let v2534:Int:=(y0 .i64 (8*x7))
   let b2535:Bool:=((decide (0≤x7))&&(decide (x7<3)))
   cond b2535
    ((q9k F x6 v2534 5 (y7 x2 (y6 x7) 0)).bind fun r2538=>
    cond b2535
     ((qph F (y7 x3 (y6 x7) 0) 8).bind fun r2542=>
     (q9k F r2538.1 (y0 .i64 (v2534+5)) 3 r2542.1).bind fun r2543=>
     rec x0 x1 x2 x3 x4 x5 r2543.1 (y0 .i64 (x7+1)))
      none)
     none)
   (let v2546:Int:=(y0 .i64 (8*x7))
   let b2547:Bool:=((decide (0≤x7))&&(decide (x7<3)))
   cond b2547
    ((q9k F x6 v2546 4 (y7 x2 (y6 x7) 0)).bind fun r2550=>
    cond b2547
     ((q9k F r2550.1 (y0 .i64 (v2546+4)) 4 (y7 x3 (y6 x7) 0)).bind fun r2554=>
     rec x0 x1 x2 x3 x4 x5 r2554.1 (y0 .i64 (x7+1)))
      none)
     none))
  (some (x0,x1,x2,x3,x4,x5,x6,()))
def qje(F:Nat):Nat→Bool→Bool→LI→LI→LI→LI→LI→Int→Option (Bool×Bool×LI×LI×LI×LI×LI×Unit)
 |0,_,_,_,_,_,_,_,_=>none
 |k+1,x0,x1,x2,x3,x4,x5,x6,x7=>z1l F (qje F k) x0 x1 x2 x3 x4 x5 x6 x7
def zt9(a0:(Bool×Bool×LI×LI×LI×LI×Unit)):Option (LI×Int×Unit):=
 (j11 F (a0.1,a0.2.1,a0.2.2.1,a0.2.2.2.1,a0.2.2.2.2.1,a0.2.2.2.2.2.1,())).bind fun r2491=>
 cond (!r2491.1)
  (some ([],1,()))
  ((qje F F a0.1 a0.2.1 a0.2.2.1 a0.2.2.2.1 a0.2.2.2.2.1 a0.2.2.2.2.2.1 qjd 0).bind fun r2557=>
  (q9k F r2557.2.2.2.2.2.2.1 24 3 (y7 r2557.2.2.2.2.1 0 0)).bind fun r2560=>
  (q9k F r2560.1 27 3 (y7 r2557.2.2.2.2.1 1 0)).bind fun r2563=>
  (zii F r2557.1).bind fun r2565=>
  (q9k F r2563.1 30 1 r2565.1).bind fun r2566=>
  (zii F r2557.2.1).bind fun r2568=>
  (q9k F r2566.1 31 1 r2568.1).bind fun r2569=>
  (j12 F r2569.1 r2557.2.2.2.2.2.1).bind fun r2571=>
  some (r2571.1,0,()))
def q06:LI:=[0,0,0,0,0,0,0,0,0,0,0,0,0,0,0,0]
def q3g(a0:Int)(a1:Int)(a2:LI)(a3:Int)(a4:Bool):Option (LI×Int×Bool×Unit):=
 (q7j F a2 a3 a1 (y0 .u64 a0)).bind fun r148=>
 cond a4
  (let b150:Bool:=(r148.2.1==0)
  cond b150
   (some (r148.1,(y0 .i64 (a3+a1)),b150,()))
   (some (a2,a3,b150,())))
  (some (a2,a3,false,()))
def qdn(rec:LI→LI→LI→LI→Bool→Int→Int→Option (LI×LI×LI×Bool×Int×Unit))(x0:LI)(x1:LI)(x2:LI)(x3:LI)(x4:Bool)(x5:Int)(x6:Int):Option (LI×LI×LI×Bool×Int×Unit):=
 cond (decide (x6<4))
  (let b236:Bool:=((decide (0≤x6))&&(decide (x6<4)))
  cond b236
   ((q3g F (y7 x0 (y6 x6) 0) 7 x3 x5 x4).bind fun r239=>
   cond b236
    ((q3g F (y7 x0 (4+(y6 x6)) 0) 7 r239.1 r239.2.1 r239.2.2.1).bind fun r242=>
    rec x0 x1 x2 r242.1 r242.2.2.1 r242.2.1 (y0 .i64 (x6+1)))
     none)
    none)
  (some (x1,x2,x3,x4,x5,()))
def q4p(F:Nat):Nat→LI→LI→LI→LI→Bool→Int→Int→Option (LI×LI×LI×Bool×Int×Unit)
 |0,_,_,_,_,_,_,_=>none
 |k+1,x0,x1,x2,x3,x4,x5,x6=>qdn F (q4p F k) x0 x1 x2 x3 x4 x5 x6
def qdo(rec:LI→Bool→Int→LI→Int→Option (LI×Bool×Unit))(x0:LI)(x1:Bool)(x2:Int)(x3:LI)(x4:Int):Option (LI×Bool×Unit):=
 cond (decide (x4<16))
  (cond ((decide (0≤x4))&&(decide (x4<16)))
   (let v271:Int:=(y0 .i64 (x4+1))
   cond (!(v271==0))
    ((q3g F (y7 x3 (y6 x4) 0) (y0 .i64 (4-(y0 .i64 (yv 1 v271)))) x0 x2 x1).bind fun r275=>
    rec r275.1 r275.2.2.1 r275.2.1 x3 v271)
     none)
    none)
  (some (x0,x1,()))
def q4q(F:Nat):Nat→LI→Bool→Int→LI→Int→Option (LI×Bool×Unit)
 |0,_,_,_,_,_=>none
 |k+1,x0,x1,x2,x3,x4=>qdo F (q4q F k) x0 x1 x2 x3 x4
def q52(a0:LI)(a1:LI)(a2:LI):Option (LI×Int×Unit):=
 (q7j F q06 6 1 1).bind fun r214=>
 (q4p F F a0 a1 a2 r214.1 true 7 0).bind fun r245=>
 (q3g F (y7 r245.1 0 0) 1 r245.2.2.1 r245.2.2.2.2.1 r245.2.2.2.1).bind fun r248=>
 (q3g F (y7 r245.1 1 0) 1 r248.1 r248.2.1 r248.2.2.1).bind fun r251=>
 (q4q F F r251.1 r251.2.2.1 r251.2.1 r245.2.1 0).bind fun r277=>
 cond (!r277.2.1)
  (some ([],1,()))
  (some (r277.1,0,()))
def q00:LI:=[0,0,0,0,0,0,0,0,0,0,0,0,0,0,0,0,0,0,0,0,0,0,0,0,0,0,0,0,0,0,0,0,0,0,0,0,0,0,0,0,0,0,0,0,0,0,0,0,0,0,0,0,0,0,0,0,0,0,0,0,0,0,0,0]
def math_bits_TrailingZeros8T292:LI:=[8,0,1,0,2,0,1,0,3,0,1,0,2,0,1,0,4,0,1,0,2,0,1,0,3,0,1,0,2,0,1,0,5,0,1,0,2,0,1,0,3,0,1,0,2,0,1,0,4,0,1,0,2,0,1,0,3,0,1,0,2,0,1,0,6,0,1,0,2,0,1,0,3,0,1,0,2,0,1,0,4,0,1,0,2,0,1,0,3,0,1,0,2,0,1,0,5,0,1,0,2,0,1,0,3,0,1,0,2,0,1,0,4,0,1,0,2,0,1,0,3,0,1,0,2,0,1,0,7,0,1,0,2,0,1,0,3,0,1,0,2,0,1,0,4,0,1,0,2,0,1,0,3,0,1,0,2,0,1,0,5,0,1,0,2,0,1,0,3,0,1,0,2,0,1,0,4,0,1,0,2,0,1,0,3,0,1,0,2,0,1,0,6,0,1,0,2,0,1,0,3,0,1,0,2,0,1,0,4,0,1,0,2,0,1,0,3,0,1,0,2,0,1,0,5,0,1,0,2,0,1,0,3,0,1,0,2,0,1,0,4,0,1,0,2,0,1,0,3,0,1,0,2,0,1,0]
def q45(F:Nat)(a0:Int):Option (Int×Unit):=
 cond ((decide (0≤a0))&&(decide (a0<256)))
  (some ((y7 math_bits_TrailingZeros8T292 (y6 a0) 0),()))
   none
def qmr(a0:LI):Option (Int×Unit):=
 cond ((((ya a0):Nat):Int) !=16)
  (some (8,()))
  (cond (decide (0<(((ya a0):Nat):Int)))
   ((q45 F (y7 a0 0 0)).bind fun r294=>
   some (r294.1,()))
    none)
def bctable_ModesT298:LI:=[3,4,0,0,4,0,1,0,3,0,2,6,0,0,6,0,0,1,3,0,3,6,0,0,5,0,0,0,2,0,2,6,0,0,7,0,1,0,2,0,1,0,2,1,5,6,0,0,2,3,1,0,2,0,7,8,0,0,2,2,1,0,0,0,7,7,1,0,4,0,2,6,0,0,5,5,1,0,2,0]
def qrz(F:Nat):Option (LI×Unit):=
 some (bctable_ModesT298,())
def q17(a0:Int)(a1:LI)(a2:Int):Option (Int×Int×Unit):=
 (z01 F a1 a2 a0).bind fun r381=>
 some ((y0 .i64 r381.1),(y0 .i64 (a2+a0)),())
def q7l(F:Nat)(a0:(Int×Int×Int×Int×Int×Int×Int×Int×Int×Int×Unit))(a1:Int):Option (Int×Unit):=
 cond (a1==3)
  (some (a0.2.2.2.2.2.1,()))
  (some (a0.2.2.2.2.1,()))
def q1l(rec:LI→Int→Int→Int→Int→Int→Int→Int→Int→Int→Int→Int→Int→Int→LI→LI→LI→Int→Int→Int→Int→Int→Int→LI→Int→Option (LI×Int×Int×Int×Int×Int×Int×Int×Int×Int×Int×Int×Int×Int×LI×LI×LI×Int×Int×Int×Int×Int×Int×Unit))(x0:LI)(x1:Int)(x2:Int)(x3:Int)(x4:Int)(x5:Int)(x6:Int)(x7:Int)(x8:Int)(x9:Int)(x10:Int)(x11:Int)(x12:Int)(x13:Int)(x14:LI)(x15:LI)(x16:LI)(x17:Int)(x18:Int)(x19:Int)(x20:Int)(x21:Int)(x22:Int)(x23:LI)(x24:Int):Option (LI×Int×Int×Int×Int×Int×Int×Int×Int×Int×Int×Int×Int×Int×LI×LI×LI×Int×Int×Int×Int×Int×Int×Unit):=
 let n1205:Nat:=((ya x0)/4)
 cond (decide (x24<4))
  (let b1208:Bool:=((decide (0≤x24))&&(decide (x24<4)))
  cond b1208
   (cond (decide (0≤x18))
    ((q7l F (x1,x2,x3,x4,x5,x6,x7,x8,x9,x10,()) x24).bind fun r1213=>
    (q0m F (ior .i64 (ishl .i64 (y7 x23 (y6 x24) 0) x18) x19) (y0 .i64 (r1213.1+x18))).bind fun r1215=>
    cond ((decide (0≤x20))&&(decide (x20<((n1205:Nat):Int))))
     (cond b1208
      (rec (yw x0 (((y6 x20)*4)+(y6 x24)) r1215.1) x1 x2 x3 x4 x5 x6 x7 x8 x9 x10 x11 x12 x13 x14 x15 x16 x17 x18 x19 x20 x21 x22 x23 (y0 .i64 (x24+1)))
       none)
      none)
     none)
    none)
  (some (x0,x1,x2,x3,x4,x5,x6,x7,x8,x9,x10,x11,x12,x13,x14,x15,x16,x17,x18,x19,x20,x21,x22,()))
def q05(F:Nat):Nat→LI→Int→Int→Int→Int→Int→Int→Int→Int→Int→Int→Int→Int→Int→LI→LI→LI→Int→Int→Int→Int→Int→Int→LI→Int→Option (LI×Int×Int×Int×Int×Int×Int×Int×Int×Int×Int×Int×Int×Int×LI×LI×LI×Int×Int×Int×Int×Int×Int×Unit)
 |0,_,_,_,_,_,_,_,_,_,_,_,_,_,_,_,_,_,_,_,_,_,_,_,_,_=>none
 |k+1,x0,x1,x2,x3,x4,x5,x6,x7,x8,x9,x10,x11,x12,x13,x14,x15,x16,x17,x18,x19,x20,x21,x22,x23,x24=>q1l F (q05 F k) x0 x1 x2 x3 x4 x5 x6 x7 x8 x9 x10 x11 x12 x13 x14 x15 x16 x17 x18 x19 x20 x21 x22 x23 x24
def q1m(rec:LI→Int→Int→Int→Int→Int→Int→Int→Int→Int→Int→Int→Int→Int→LI→LI→LI→Int→Int→Int→Int→Int→Option (LI×Int×Int×Int×Int×Int×Int×Int×Int×Int×Int×Int×Int×Int×LI×LI×LI×Int×Unit))(x0:LI)(x1:Int)(x2:Int)(x3:Int)(x4:Int)(x5:Int)(x6:Int)(x7:Int)(x8:Int)(x9:Int)(x10:Int)(x11:Int)(x12:Int)(x13:Int)(x14:LI)(x15:LI)(x16:LI)(x17:Int)(x18:Int)(x19:Int)(x20:Int)(x21:Int):Option (LI×Int×Int×Int×Int×Int×Int×Int×Int×Int×Int×Int×Int×Int×LI×LI×LI×Int×Unit):=
 let n1181:Nat:=((ya x0)/4)
 cond (decide (x21<x20))
  (cond (x7==1)
   ((q17 F 1 x16 x17).bind fun r1185=>
   cond ((decide (0≤x21))&&(decide (x21<((n1181:Nat):Int))))
    ((q05 F F x0 x1 x2 x3 x4 x5 x6 x7 x8 x9 x10 x11 x12 x13 x14 x15 x16 r1185.2.1 x18 r1185.1 x21 x20 x21 (y8 4 (y9 ((y6 x21)*4) x0)) 0).bind fun r1221=>
    let n1222:Nat:=((ya r1221.1)/4)
    cond (r1221.2.2.2.2.2.2.1==0)
     (cond ((decide (0≤r1221.2.2.2.2.2.2.2.2.2.2.2.2.2.2.2.2.2.2.2.2.1))&&(decide (r1221.2.2.2.2.2.2.2.2.2.2.2.2.2.2.2.2.2.2.2.2.1<((n1222:Nat):Int))))
      (rec (yw r1221.1 (3+((y6 r1221.2.2.2.2.2.2.2.2.2.2.2.2.2.2.2.2.2.2.2.2.1)*4)) 255) r1221.2.1 r1221.2.2.1 r1221.2.2.2.1 r1221.2.2.2.2.1 r1221.2.2.2.2.2.1 r1221.2.2.2.2.2.2.1 r1221.2.2.2.2.2.2.2.1 r1221.2.2.2.2.2.2.2.2.1 r1221.2.2.2.2.2.2.2.2.2.1 r1221.2.2.2.2.2.2.2.2.2.2.1 r1221.2.2.2.2.2.2.2.2.2.2.2.1 r1221.2.2.2.2.2.2.2.2.2.2.2.2.1 r1221.2.2.2.2.2.2.2.2.2.2.2.2.2.1 r1221.2.2.2.2.2.2.2.2.2.2.2.2.2.2.1 r1221.2.2.2.2.2.2.2.2.2.2.2.2.2.2.2.1 r1221.2.2.2.2.2.2.2.2.2.2.2.2.2.2.2.2.1 r1221.2.2.2.2.2.2.2.2.2.2.2.2.2.2.2.2.2.1 r1221.2.2.2.2.2.2.2.2.2.2.2.2.2.2.2.2.2.2.1 r1221.2.2.2.2.2.2.2.2.2.2.2.2.2.2.2.2.2.2.2.1 r1221.2.2.2.2.2.2.2.2.2.2.2.2.2.2.2.2.2.2.2.2.2.1 (y0 .i64 (r1221.2.2.2.2.2.2.2.2.2.2.2.2.2.2.2.2.2.2.2.2.2.2.1+1)))
       none)
     (rec r1221.1 r1221.2.1 r1221.2.2.1 r1221.2.2.2.1 r1221.2.2.2.2.1 r1221.2.2.2.2.2.1 r1221.2.2.2.2.2.2.1 r1221.2.2.2.2.2.2.2.1 r1221.2.2.2.2.2.2.2.2.1 r1221.2.2.2.2.2.2.2.2.2.1 r1221.2.2.2.2.2.2.2.2.2.2.1 r1221.2.2.2.2.2.2.2.2.2.2.2.1 r1221.2.2.2.2.2.2.2.2.2.2.2.2.1 r1221.2.2.2.2.2.2.2.2.2.2.2.2.2.1 r1221.2.2.2.2.2.2.2.2.2.2.2.2.2.2.1 r1221.2.2.2.2.2.2.2.2.2.2.2.2.2.2.2.1 r1221.2.2.2.2.2.2.2.2.2.2.2.2.2.2.2.2.1 r1221.2.2.2.2.2.2.2.2.2.2.2.2.2.2.2.2.2.1 r1221.2.2.2.2.2.2.2.2.2.2.2.2.2.2.2.2.2.2.1 r1221.2.2.2.2.2.2.2.2.2.2.2.2.2.2.2.2.2.2.2.1 r1221.2.2.2.2.2.2.2.2.2.2.2.2.2.2.2.2.2.2.2.2.2.1 (y0 .i64 (r1221.2.2.2.2.2.2.2.2.2.2.2.2.2.2.2.2.2.2.2.2.2.2.1+1))))
     none)
   (cond (x8==1)
    (cond ((yu x21 2)==0)
     ((q17 F 1 x16 x17).bind fun r1234=>
     cond ((decide (0≤x21))&&(decide (x21<((n1181:Nat):Int))))
      ((q05 F F x0 x1 x2 x3 x4 x5 x6 x7 x8 x9 x10 x11 x12 x13 x14 x15 x16 r1234.2.1 x18 r1234.1 x21 x20 x21 (y8 4 (y9 ((y6 x21)*4) x0)) 0).bind fun r1254=>
      let n1255:Nat:=((ya r1254.1)/4)
      cond (r1254.2.2.2.2.2.2.1==0)
       (cond ((decide (0≤r1254.2.2.2.2.2.2.2.2.2.2.2.2.2.2.2.2.2.2.2.2.1))&&(decide (r1254.2.2.2.2.2.2.2.2.2.2.2.2.2.2.2.2.2.2.2.2.1<((n1255:Nat):Int))))
        (rec (yw r1254.1 (3+((y6 r1254.2.2.2.2.2.2.2.2.2.2.2.2.2.2.2.2.2.2.2.2.1)*4)) 255) r1254.2.1 r1254.2.2.1 r1254.2.2.2.1 r1254.2.2.2.2.1 r1254.2.2.2.2.2.1 r1254.2.2.2.2.2.2.1 r1254.2.2.2.2.2.2.2.1 r1254.2.2.2.2.2.2.2.2.1 r1254.2.2.2.2.2.2.2.2.2.1 r1254.2.2.2.2.2.2.2.2.2.2.1 r1254.2.2.2.2.2.2.2.2.2.2.2.1 r1254.2.2.2.2.2.2.2.2.2.2.2.2.1 r1254.2.2.2.2.2.2.2.2.2.2.2.2.2.1 r1254.2.2.2.2.2.2.2.2.2.2.2.2.2.2.1 r1254.2.2.2.2.2.2.2.2.2.2.2.2.2.2.2.1 r1254.2.2.2.2.2.2.2.2.2.2.2.2.2.2.2.2.1 r1254.2.2.2.2.2.2.2.2.2.2.2.2.2.2.2.2.2.1 r1254.2.2.2.2.2.2.2.2.2.2.2.2.2.2.2.2.2.2.1 r1254.2.2.2.2.2.2.2.2.2.2.2.2.2.2.2.2.2.2.2.1 r1254.2.2.2.2.2.2.2.2.2.2.2.2.2.2.2.2.2.2.2.2.2.1 (y0 .i64 (r1254.2.2.2.2.2.2.2.2.2.2.2.2.2.2.2.2.2.2.2.2.2.2.1+1)))
         none)
       (rec r1254.1 r1254.2.1 r1254.2.2.1 r1254.2.2.2.1 r1254.2.2.2.2.1 r1254.2.2.2.2.2.1 r1254.2.2.2.2.2.2.1 r1254.2.2.2.2.2.2.2.1 r1254.2.2.2.2.2.2.2.2.1 r1254.2.2.2.2.2.2.2.2.2.1 r1254.2.2.2.2.2.2.2.2.2.2.1 r1254.2.2.2.2.2.2.2.2.2.2.2.1 r1254.2.2.2.2.2.2.2.2.2.2.2.2.1 r1254.2.2.2.2.2.2.2.2.2.2.2.2.2.1 r1254.2.2.2.2.2.2.2.2.2.2.2.2.2.2.1 r1254.2.2.2.2.2.2.2.2.2.2.2.2.2.2.2.1 r1254.2.2.2.2.2.2.2.2.2.2.2.2.2.2.2.2.1 r1254.2.2.2.2.2.2.2.2.2.2.2.2.2.2.2.2.2.1 r1254.2.2.2.2.2.2.2.2.2.2.2.2.2.2.2.2.2.2.1 r1254.2.2.2.2.2.2.2.2.2.2.2.2.2.2.2.2.2.2.2.1 r1254.2.2.2.2.2.2.2.2.2.2.2.2.2.2.2.2.2.2.2.2.2.1 (y0 .i64 (r1254.2.2.2.2.2.2.2.2.2.2.2.2.2.2.2.2.2.2.2.2.2.2.1+1))))
       none)
     (cond ((decide (0≤x21))&&(decide (x21<((n1181:Nat):Int))))
      ((q05 F F x0 x1 x2 x3 x4 x5 x6 x7 x8 x9 x10 x11 x12 x13 x14 x15 x16 x17 x18 x19 x21 x20 x21 (y8 4 (y9 ((y6 x21)*4) x0)) 0).bind fun r1283=>
      let n1284:Nat:=((ya r1283.1)/4)
      cond (r1283.2.2.2.2.2.2.1==0)
       (cond ((decide (0≤r1283.2.2.2.2.2.2.2.2.2.2.2.2.2.2.2.2.2.2.2.2.1))&&(decide (r1283.2.2.2.2.2.2.2.2.2.2.2.2.2.2.2.2.2.2.2.2.1<((n1284:Nat):Int))))
        (rec (yw r1283.1 (3+((y6 r1283.2.2.2.2.2.2.2.2.2.2.2.2.2.2.2.2.2.2.2.2.1)*4)) 255) r1283.2.1 r1283.2.2.1 r1283.2.2.2.1 r1283.2.2.2.2.1 r1283.2.2.2.2.2.1 r1283.2.2.2.2.2.2.1 r1283.2.2.2.2.2.2.2.1 r1283.2.2.2.2.2.2.2.2.1 r1283.2.2.2.2.2.2.2.2.2.1 r1283.2.2.2.2.2.2.2.2.2.2.1 r1283.2.2.2.2.2.2.2.2.2.2.2.1 r1283.2.2.2.2.2.2.2.2.2.2.2.2.1 r1283.2.2.2.2.2.2.2.2.2.2.2.2.2.1 r1283.2.2.2.2.2.2.2.2.2.2.2.2.2.2.1 r1283.2.2.2.2.2.2.2.2.2.2.2.2.2.2.2.1 r1283.2.2.2.2.2.2.2.2.2.2.2.2.2.2.2.2.1 r1283.2.2.2.2.2.2.2.2.2.2.2.2.2.2.2.2.2.1 r1283.2.2.2.2.2.2.2.2.2.2.2.2.2.2.2.2.2.2.1 r1283.2.2.2.2.2.2.2.2.2.2.2.2.2.2.2.2.2.2.2.1 r1283.2.2.2.2.2.2.2.2.2.2.2.2.2.2.2.2.2.2.2.2.2.1 (y0 .i64 (r1283.2.2.2.2.2.2.2.2.2.2.2.2.2.2.2.2.2.2.2.2.2.2.1+1)))
         none)
       (rec r1283.1 r1283.2.1 r1283.2.2.1 r1283.2.2.2.1 r1283.2.2.2.2.1 r1283.2.2.2.2.2.1 r1283.2.2.2.2.2.2.1 r1283.2.2.2.2.2.2.2.1 r1283.2.2.2.2.2.2.2.2.1 r1283.2.2.2.2.2.2.2.2.2.1 r1283.2.2.2.2.2.2.2.2.2.2.1 r1283.2.2.2.2.2.2.2.2.2.2.2.1 r1283.2.2.2.2.2.2.2.2.2.2.2.2.1 r1283.2.2.2.2.2.2.2.2.2.2.2.2.2.1 r1283.2.2.2.2.2.2.2.2.2.2.2.2.2.2.1 r1283.2.2.2.2.2.2.2.2.2.2.2.2.2.2.2.1 r1283.2.2.2.2.2.2.2.2.2.2.2.2.2.2.2.2.1 r1283.2.2.2.2.2.2.2.2.2.2.2.2.2.2.2.2.2.1 r1283.2.2.2.2.2.2.2.2.2.2.2.2.2.2.2.2.2.2.1 r1283.2.2.2.2.2.2.2.2.2.2.2.2.2.2.2.2.2.2.2.1 r1283.2.2.2.2.2.2.2.2.2.2.2.2.2.2.2.2.2.2.2.2.2.1 (y0 .i64 (r1283.2.2.2.2.2.2.2.2.2.2.2.2.2.2.2.2.2.2.2.2.2.2.1+1))))
       none))
    (cond ((decide (0≤x21))&&(decide (x21<((n1181:Nat):Int))))
     ((q05 F F x0 x1 x2 x3 x4 x5 x6 x7 x8 x9 x10 x11 x12 x13 x14 x15 x16 x17 x18 x19 x21 x20 x21 (y8 4 (y9 ((y6 x21)*4) x0)) 0).bind fun r1312=>
     let n1313:Nat:=((ya r1312.1)/4)
     cond (r1312.2.2.2.2.2.2.1==0)
      (cond ((decide (0≤r1312.2.2.2.2.2.2.2.2.2.2.2.2.2.2.2.2.2.2.2.2.1))&&(decide (r1312.2.2.2.2.2.2.2.2.2.2.2.2.2.2.2.2.2.2.2.2.1<((n1313:Nat):Int))))
       (rec (yw r1312.1 (3+((y6 r1312.2.2.2.2.2.2.2.2.2.2.2.2.2.2.2.2.2.2.2.2.1)*4)) 255) r1312.2.1 r1312.2.2.1 r1312.2.2.2.1 r1312.2.2.2.2.1 r1312.2.2.2.2.2.1 r1312.2.2.2.2.2.2.1 r1312.2.2.2.2.2.2.2.1 r1312.2.2.2.2.2.2.2.2.1 r1312.2.2.2.2.2.2.2.2.2.1 r1312.2.2.2.2.2.2.2.2.2.2.1 r1312.2.2.2.2.2.2.2.2.2.2.2.1 r1312.2.2.2.2.2.2.2.2.2.2.2.2.1 r1312.2.2.2.2.2.2.2.2.2.2.2.2.2.1 r1312.2.2.2.2.2.2.2.2.2.2.2.2.2.2.1 r1312.2.2.2.2.2.2.2.2.2.2.2.2.2.2.2.1 r1312.2.2.2.2.2.2.2.2.2.2.2.2.2.2.2.2.1 r1312.2.2.2.2.2.2.2.2.2.2.2.2.2.2.2.2.2.1 r1312.2.2.2.2.2.2.2.2.2.2.2.2.2.2.2.2.2.2.1 r1312.2.2.2.2.2.2.2.2.2.2.2.2.2.2.2.2.2.2.2.1 r1312.2.2.2.2.2.2.2.2.2.2.2.2.2.2.2.2.2.2.2.2.2.1 (y0 .i64 (r1312.2.2.2.2.2.2.2.2.2.2.2.2.2.2.2.2.2.2.2.2.2.2.1+1)))
        none)
      (rec r1312.1 r1312.2.1 r1312.2.2.1 r1312.2.2.2.1 r1312.2.2.2.2.1 r1312.2.2.2.2.2.1 r1312.2.2.2.2.2.2.1 r1312.2.2.2.2.2.2.2.1 r1312.2.2.2.2.2.2.2.2.1 r1312.2.2.2.2.2.2.2.2.2.1 r1312.2.2.2.2.2.2.2.2.2.2.1 r1312.2.2.2.2.2.2.2.2.2.2.2.1 r1312.2.2.2.2.2.2.2.2.2.2.2.2.1 r1312.2.2.2.2.2.2.2.2.2.2.2.2.2.1 r1312.2.2.2.2.2.2.2.2.2.2.2.2.2.2.1 r1312.2.2.2.2.2.2.2.2.2.2.2.2.2.2.2.1 r1312.2.2.2.2.2.2.2.2.2.2.2.2.2.2.2.2.1 r1312.2.2.2.2.2.2.2.2.2.2.2.2.2.2.2.2.2.1 r1312.2.2.2.2.2.2.2.2.2.2.2.2.2.2.2.2.2.2.1 r1312.2.2.2.2.2.2.2.2.2.2.2.2.2.2.2.2.2.2.2.1 r1312.2.2.2.2.2.2.2.2.2.2.2.2.2.2.2.2.2.2.2.2.2.1 (y0 .i64 (r1312.2.2.2.2.2.2.2.2.2.2.2.2.2.2.2.2.2.2.2.2.2.2.1+1))))
      none)))
  (some (x0,x1,x2,x3,x4,x5,x6,x7,x8,x9,x10,x11,x12,x13,x14,x15,x16,x17,()))
def q09(F:Nat):Nat→LI→Int→Int→Int→Int→Int→Int→Int→Int→Int→Int→Int→Int→Int→LI→LI→LI→Int→Int→Int→Int→Int→Option (LI×Int×Int×Int×Int×Int×Int×Int×Int×Int×Int×Int×Int×Int×LI×LI×LI×Int×Unit)
 |0,_,_,_,_,_,_,_,_,_,_,_,_,_,_,_,_,_,_,_,_,_,_=>none
 |k+1,x0,x1,x2,x3,x4,x5,x6,x7,x8,x9,x10,x11,x12,x13,x14,x15,x16,x17,x18,x19,x20,x21=>q1m F (q09 F k) x0 x1 x2 x3 x4 x5 x6 x7 x8 x9 x10 x11 x12 x13 x14 x15 x16 x17 x18 x19 x20 x21
def q2k(a0:LI)(a1:Int)(a2:Int)(a3:Int)(a4:Int)(a5:Int)(a6:Int)(a7:Int)(a8:Int)(a9:Int)(a10:Int)(a11:Int)(a12:Int)(a13:Int)(a14:LI)(a15:LI)(a16:LI)(a17:Int):Option (LI×Int×Unit):=
 (q09 F F a0 a1 a2 a3 a4 a5 a6 a7 a8 a9 a10 a11 a12 a13 a14 a15 a16 a17 (y0 .i64 (a7+a8)) 0 ((((ya a0)/4):Nat):Int) 0).bind fun r1322=>
 some (r1322.1,r1322.2.2.2.2.2.2.2.2.2.2.2.2.2.2.2.2.2.1,())
def q46(rec:LI→Int→Int→Int→Int→Int→Int→Int→Int→Int→Int→Int→Int→Int→LI→LI→Int→Bool→Int→Option (Bool×Unit))(x0:LI)(x1:Int)(x2:Int)(x3:Int)(x4:Int)(x5:Int)(x6:Int)(x7:Int)(x8:Int)(x9:Int)(x10:Int)(x11:Int)(x12:Int)(x13:Int)(x14:LI)(x15:LI)(x16:Int)(x17:Bool)(x18:Int):Option (Bool×Unit):=
 cond (decide (x18<x1))
  (cond x17
   (rec x0 x1 x2 x3 x4 x5 x6 x7 x8 x9 x10 x11 x12 x13 x14 x15 x16 true (y0 .i64 (x18+1)))
   ((qg5 F x1 x11 x18).bind fun r1381=>
   rec x0 x1 x2 x3 x4 x5 x6 x7 x8 x9 x10 x11 x12 x13 x14 x15 x16 (r1381.1==x16) (y0 .i64 (x18+1))))
  (some (x17,()))
def q1a(F:Nat):Nat→LI→Int→Int→Int→Int→Int→Int→Int→Int→Int→Int→Int→Int→Int→LI→LI→Int→Bool→Int→Option (Bool×Unit)
 |0,_,_,_,_,_,_,_,_,_,_,_,_,_,_,_,_,_,_,_=>none
 |k+1,x0,x1,x2,x3,x4,x5,x6,x7,x8,x9,x10,x11,x12,x13,x14,x15,x16,x17,x18=>q46 F (q1a F k) x0 x1 x2 x3 x4 x5 x6 x7 x8 x9 x10 x11 x12 x13 x14 x15 x16 x17 x18
def q6s(a0:LI)(a1:Int)(a2:Int)(a3:Int)(a4:Int)(a5:Int)(a6:Int)(a7:Int)(a8:Int)(a9:Int)(a10:Int)(a11:Int)(a12:Int)(a13:Int)(a14:LI)(a15:LI)(a16:Int):Option (Int×Unit):=
 (q1a F F a0 a1 a2 a3 a4 a5 a6 a7 a8 a9 a10 a11 a12 a13 a14 a15 a16 (a16==0) 1).bind fun r1384=>
 cond r1384.1
  (some (1,()))
  (some (0,()))
def qbr(rec:LI→LI→LI→Int→Int→Int→Int→Int→Int→Int→Int→Int→Int→Int→Int→Int→LI→LI→LI→Int→Int→Int→Int→Int→Option (LI×LI×LI×Int×Int×Int×Int×Int×Int×Int×Int×Int×Int×Int×Int×Int×LI×LI×LI×Int×Int×Unit))(x0:LI)(x1:LI)(x2:LI)(x3:Int)(x4:Int)(x5:Int)(x6:Int)(x7:Int)(x8:Int)(x9:Int)(x10:Int)(x11:Int)(x12:Int)(x13:Int)(x14:Int)(x15:Int)(x16:LI)(x17:LI)(x18:LI)(x19:Int)(x20:Int)(x21:Int)(x22:Int)(x23:Int):Option (LI×LI×LI×Int×Int×Int×Int×Int×Int×Int×Int×Int×Int×Int×Int×Int×LI×LI×LI×Int×Int×Unit):=
 let n1542:Nat:=((ya x2)/4)
 cond (decide (x23<x22))
  (cond ((decide (0≤x23))&&(decide (x23<((n1542:Nat):Int))))
   ((q7l F (x3,x4,x5,x6,x7,x8,x9,x10,x11,x12,()) x20).bind fun r1547=>
   (q17 F r1547.1 x18 x19).bind fun r1548=>
   cond ((decide (0≤x20))&&(decide (x20<4)))
    (rec x0 x1 (yw x2 (((y6 x23)*4)+(y6 x20)) r1548.1) x3 x4 x5 x6 x7 x8 x9 x10 x11 x12 x13 x14 x15 x16 x17 x18 r1548.2.1 x20 x21 x22 (y0 .i64 (x23+1)))
     none)
    none)
  (some (x0,x1,x2,x3,x4,x5,x6,x7,x8,x9,x10,x11,x12,x13,x14,x15,x16,x17,x18,x19,x21,()))
def q53(F:Nat):Nat→LI→LI→LI→Int→Int→Int→Int→Int→Int→Int→Int→Int→Int→Int→Int→Int→LI→LI→LI→Int→Int→Int→Int→Int→Option (LI×LI×LI×Int×Int×Int×Int×Int×Int×Int×Int×Int×Int×Int×Int×Int×LI×LI×LI×Int×Int×Unit)
 |0,_,_,_,_,_,_,_,_,_,_,_,_,_,_,_,_,_,_,_,_,_,_,_,_=>none
 |k+1,x0,x1,x2,x3,x4,x5,x6,x7,x8,x9,x10,x11,x12,x13,x14,x15,x16,x17,x18,x19,x20,x21,x22,x23=>qbr F (q53 F k) x0 x1 x2 x3 x4 x5 x6 x7 x8 x9 x10 x11 x12 x13 x14 x15 x16 x17 x18 x19 x20 x21 x22 x23
def qbs(rec:LI→LI→LI→Int→Int→Int→Int→Int→Int→Int→Int→Int→Int→Int→Int→Int→LI→LI→LI→Int→Int→Option (LI×LI×LI×Int×Int×Int×Int×Int×Int×Int×Int×Int×Int×Int×Int×Int×LI×LI×LI×Int×Unit))(x0:LI)(x1:LI)(x2:LI)(x3:Int)(x4:Int)(x5:Int)(x6:Int)(x7:Int)(x8:Int)(x9:Int)(x10:Int)(x11:Int)(x12:Int)(x13:Int)(x14:Int)(x15:Int)(x16:LI)(x17:LI)(x18:LI)(x19:Int)(x20:Int):Option (LI×LI×LI×Int×Int×Int×Int×Int×Int×Int×Int×Int×Int×Int×Int×Int×LI×LI×LI×Int×Unit):=
 cond (decide (x20<4))
  ((q53 F F x0 x1 x2 x3 x4 x5 x6 x7 x8 x9 x10 x11 x12 x13 x14 x15 x16 x17 x18 x19 x20 x20 ((((ya x2)/4):Nat):Int) 0).bind fun r1553=>
  rec r1553.1 r1553.2.1 r1553.2.2.1 r1553.2.2.2.1 r1553.2.2.2.2.1 r1553.2.2.2.2.2.1 r1553.2.2.2.2.2.2.1 r1553.2.2.2.2.2.2.2.1 r1553.2.2.2.2.2.2.2.2.1 r1553.2.2.2.2.2.2.2.2.2.1 r1553.2.2.2.2.2.2.2.2.2.2.1 r1553.2.2.2.2.2.2.2.2.2.2.2.1 r1553.2.2.2.2.2.2.2.2.2.2.2.2.1 r1553.2.2.2.2.2.2.2.2.2.2.2.2.2.1 r1553.2.2.2.2.2.2.2.2.2.2.2.2.2.2.1 r1553.2.2.2.2.2.2.2.2.2.2.2.2.2.2.2.1 r1553.2.2.2.2.2.2.2.2.2.2.2.2.2.2.2.2.1 r1553.2.2.2.2.2.2.2.2.2.2.2.2.2.2.2.2.2.1 r1553.2.2.2.2.2.2.2.2.2.2.2.2.2.2.2.2.2.2.1 r1553.2.2.2.2.2.2.2.2.2.2.2.2.2.2.2.2.2.2.2.1 (y0 .i64 (r1553.2.2.2.2.2.2.2.2.2.2.2.2.2.2.2.2.2.2.2.2.1+1)))
  (some (x0,x1,x2,x3,x4,x5,x6,x7,x8,x9,x10,x11,x12,x13,x14,x15,x16,x17,x18,x19,()))
def q2o(F:Nat):Nat→LI→LI→LI→Int→Int→Int→Int→Int→Int→Int→Int→Int→Int→Int→Int→Int→LI→LI→LI→Int→Int→Option (LI×LI×LI×Int×Int×Int×Int×Int×Int×Int×Int×Int×Int×Int×Int×Int×LI×LI×LI×Int×Unit)
 |0,_,_,_,_,_,_,_,_,_,_,_,_,_,_,_,_,_,_,_,_,_=>none
 |k+1,x0,x1,x2,x3,x4,x5,x6,x7,x8,x9,x10,x11,x12,x13,x14,x15,x16,x17,x18,x19,x20=>qbs F (q2o F k) x0 x1 x2 x3 x4 x5 x6 x7 x8 x9 x10 x11 x12 x13 x14 x15 x16 x17 x18 x19 x20
def qbt(rec:LI→LI→LI→Int→Int→Int→Int→Int→Int→Int→Int→Int→Int→Int→Int→Int→LI→LI→LI→Int→Int→Option (LI×LI×LI×Int×Int×Int×Int×Int×Int×Int×Int×Int×Int×Int×Int×Int×LI×LI×LI×Int×Unit))(x0:LI)(x1:LI)(x2:LI)(x3:Int)(x4:Int)(x5:Int)(x6:Int)(x7:Int)(x8:Int)(x9:Int)(x10:Int)(x11:Int)(x12:Int)(x13:Int)(x14:Int)(x15:Int)(x16:LI)(x17:LI)(x18:LI)(x19:Int)(x20:Int):Option (LI×LI×LI×Int×Int×Int×Int×Int×Int×Int×Int×Int×Int×Int×Int×Int×LI×LI×LI×Int×Unit):=
 cond (decide (x20<16))
  ((q6s F x2 x3 x4 x5 x6 x7 x8 x9 x10 x11 x12 x13 x14 x15 x16 x17 x20).bind fun r1580=>
  (q17 F (y0 .i64 (x11-r1580.1)) x18 x19).bind fun r1582=>
  cond ((decide (0≤x20))&&(decide (x20<16)))
   (rec x0 x1 x2 x3 x4 x5 x6 x7 x8 x9 x10 x11 x12 x13 x14 x15 (yw x16 (y6 x20) r1582.1) x17 x18 r1582.2.1 (y0 .i64 (x20+1)))
    none)
  (some (x0,x1,x2,x3,x4,x5,x6,x7,x8,x9,x10,x11,x12,x13,x14,x15,x16,x17,x18,x19,()))
def q54(F:Nat):Nat→LI→LI→LI→Int→Int→Int→Int→Int→Int→Int→Int→Int→Int→Int→Int→Int→LI→LI→LI→Int→Int→Option (LI×LI×LI×Int×Int×Int×Int×Int×Int×Int×Int×Int×Int×Int×Int×Int×LI×LI×LI×Int×Unit)
 |0,_,_,_,_,_,_,_,_,_,_,_,_,_,_,_,_,_,_,_,_,_=>none
 |k+1,x0,x1,x2,x3,x4,x5,x6,x7,x8,x9,x10,x11,x12,x13,x14,x15,x16,x17,x18,x19,x20=>qbt F (q54 F k) x0 x1 x2 x3 x4 x5 x6 x7 x8 x9 x10 x11 x12 x13 x14 x15 x16 x17 x18 x19 x20
def qbu(rec:LI→LI→LI→Int→Int→Int→Int→Int→Int→Int→Int→Int→Int→Int→Int→Int→LI→LI→LI→Int→Int→Option (LI×LI×LI×Int×Int×Int×Int×Int×Int×Int×Int×Int×Int×Int×Int×Int×LI×LI×Unit))(x0:LI)(x1:LI)(x2:LI)(x3:Int)(x4:Int)(x5:Int)(x6:Int)(x7:Int)(x8:Int)(x9:Int)(x10:Int)(x11:Int)(x12:Int)(x13:Int)(x14:Int)(x15:Int)(x16:LI)(x17:LI)(x18:LI)(x19:Int)(x20:Int):Option (LI×LI×LI×Int×Int×Int×Int×Int×Int×Int×Int×Int×Int×Int×Int×Int×LI×LI×Unit):=
 cond (decide (x20<16))
  (let v1610:Int:=(y0 .i64 (x20+1))
  cond (!(v1610==0))
   ((q17 F (y0 .i64 (x12-(y0 .i64 (yv 1 v1610)))) x18 x19).bind fun r1614=>
   cond ((decide (0≤x20))&&(decide (x20<16)))
    (rec x0 x1 x2 x3 x4 x5 x6 x7 x8 x9 x10 x11 x12 x13 x14 x15 x16 (yw x17 (y6 x20) r1614.1) x18 r1614.2.1 v1610)
     none)
    none)
  (some (x0,x1,x2,x3,x4,x5,x6,x7,x8,x9,x10,x11,x12,x13,x14,x15,x16,x17,()))
def q55(F:Nat):Nat→LI→LI→LI→Int→Int→Int→Int→Int→Int→Int→Int→Int→Int→Int→Int→Int→LI→LI→LI→Int→Int→Option (LI×LI×LI×Int×Int×Int×Int×Int×Int×Int×Int×Int×Int×Int×Int×Int×LI×LI×Unit)
 |0,_,_,_,_,_,_,_,_,_,_,_,_,_,_,_,_,_,_,_,_,_=>none
 |k+1,x0,x1,x2,x3,x4,x5,x6,x7,x8,x9,x10,x11,x12,x13,x14,x15,x16,x17,x18,x19,x20=>qbu F (q55 F k) x0 x1 x2 x3 x4 x5 x6 x7 x8 x9 x10 x11 x12 x13 x14 x15 x16 x17 x18 x19 x20
def qms(a0:LI)(a1:Int):Option (Int×Int×Int×Int×Int×Int×Int×Int×Int×Int×Int×Int×Int×LI×LI×LI×Unit):=
 (qrz F).bind fun r1443=>
 let n1444:Nat:=((ya r1443.1)/10)
 cond ((decide (0≤a1))&&(decide (a1<((n1444:Nat):Int))))
  (let l1447:LI:=(y8 10 (y9 ((y6 a1)*10) r1443.1))
  let v1448:Int:=(y7 l1447 0 0)
  let v1449:Int:=(y7 l1447 1 0)
  let v1450:Int:=(y7 l1447 2 0)
  let v1451:Int:=(y7 l1447 3 0)
  (q17 F v1449 a0 (y0 .i64 (a1+1))).bind fun r1459=>
  (q17 F v1450 a0 r1459.2.1).bind fun r1460=>
  (q17 F v1451 a0 r1460.2.1).bind fun r1461=>
  let v1462:Int:=(y0 .i64 (2*v1448))
  cond ((decide (0≤v1462))&&((decide (v1462≤1099511627776))&&(decide (v1462=v1462))))
   ((q2o F F q06 q06 (yx ((y6 v1462)*4) 0) v1448 v1449 v1450 v1451 (y7 l1447 4 0) (y7 l1447 5 0) (y7 l1447 6 0) (y7 l1447 7 0) (y7 l1447 8 0) (y7 l1447 9 0) r1459.1 r1460.1 r1461.1 q06 q06 a0 r1461.2.1 0).bind fun r1557=>
   (q2k F r1557.2.2.1 r1557.2.2.2.1 r1557.2.2.2.2.1 r1557.2.2.2.2.2.1 r1557.2.2.2.2.2.2.1 r1557.2.2.2.2.2.2.2.1 r1557.2.2.2.2.2.2.2.2.1 r1557.2.2.2.2.2.2.2.2.2.1 r1557.2.2.2.2.2.2.2.2.2.2.1 r1557.2.2.2.2.2.2.2.2.2.2.2.1 r1557.2.2.2.2.2.2.2.2.2.2.2.2.1 r1557.2.2.2.2.2.2.2.2.2.2.2.2.2.1 r1557.2.2.2.2.2.2.2.2.2.2.2.2.2.2.1 r1557.2.2.2.2.2.2.2.2.2.2.2.2.2.2.2.1 r1557.2.2.2.2.2.2.2.2.2.2.2.2.2.2.2.2.1 r1557.2.2.2.2.2.2.2.2.2.2.2.2.2.2.2.2.2.1 r1557.2.2.2.2.2.2.2.2.2.2.2.2.2.2.2.2.2.2.1 r1557.2.2.2.2.2.2.2.2.2.2.2.2.2.2.2.2.2.2.2.1).bind fun r1560=>
   (q54 F F r1557.1 r1557.2.1 r1560.1 r1557.2.2.2.1 r1557.2.2.2.2.1 r1557.2.2.2.2.2.1 r1557.2.2.2.2.2.2.1 r1557.2.2.2.2.2.2.2.1 r1557.2.2.2.2.2.2.2.2.1 r1557.2.2.2.2.2.2.2.2.2.1 r1557.2.2.2.2.2.2.2.2.2.2.1 r1557.2.2.2.2.2.2.2.2.2.2.2.1 r1557.2.2.2.2.2.2.2.2.2.2.2.2.1 r1557.2.2.2.2.2.2.2.2.2.2.2.2.2.1 r1557.2.2.2.2.2.2.2.2.2.2.2.2.2.2.1 r1557.2.2.2.2.2.2.2.2.2.2.2.2.2.2.2.1 r1557.2.2.2.2.2.2.2.2.2.2.2.2.2.2.2.2.1 r1557.2.2.2.2.2.2.2.2.2.2.2.2.2.2.2.2.2.1 r1557.2.2.2.2.2.2.2.2.2.2.2.2.2.2.2.2.2.2.1 r1560.2.1 0).bind fun r1587=>
   cond (decide (0<r1587.2.2.2.2.2.2.2.2.2.2.2.2.1))
    ((q55 F F r1587.1 r1587.2.1 r1587.2.2.1 r1587.2.2.2.1 r1587.2.2.2.2.1 r1587.2.2.2.2.2.1 r1587.2.2.2.2.2.2.1 r1587.2.2.2.2.2.2.2.1 r1587.2.2.2.2.2.2.2.2.1 r1587.2.2.2.2.2.2.2.2.2.1 r1587.2.2.2.2.2.2.2.2.2.2.1 r1587.2.2.2.2.2.2.2.2.2.2.2.1 r1587.2.2.2.2.2.2.2.2.2.2.2.2.1 r1587.2.2.2.2.2.2.2.2.2.2.2.2.2.1 r1587.2.2.2.2.2.2.2.2.2.2.2.2.2.2.1 r1587.2.2.2.2.2.2.2.2.2.2.2.2.2.2.2.1 r1587.2.2.2.2.2.2.2.2.2.2.2.2.2.2.2.2.1 r1587.2.2.2.2.2.2.2.2.2.2.2.2.2.2.2.2.2.1 r1587.2.2.2.2.2.2.2.2.2.2.2.2.2.2.2.2.2.2.1 r1587.2.2.2.2.2.2.2.2.2.2.2.2.2.2.2.2.2.2.2.1 0).bind fun r1618=>
    some (r1618.2.2.2.1,r1618.2.2.2.2.1,r1618.2.2.2.2.2.1,r1618.2.2.2.2.2.2.1,r1618.2.2.2.2.2.2.2.1,r1618.2.2.2.2.2.2.2.2.1,r1618.2.2.2.2.2.2.2.2.2.1,r1618.2.2.2.2.2.2.2.2.2.2.1,r1618.2.2.2.2.2.2.2.2.2.2.2.1,r1618.2.2.2.2.2.2.2.2.2.2.2.2.1,r1618.2.2.2.2.2.2.2.2.2.2.2.2.2.1,r1618.2.2.2.2.2.2.2.2.2.2.2.2.2.2.1,r1618.2.2.2.2.2.2.2.2.2.2.2.2.2.2.2.1,r1618.2.2.1,r1618.2.2.2.2.2.2.2.2.2.2.2.2.2.2.2.2.1,r1618.2.2.2.2.2.2.2.2.2.2.2.2.2.2.2.2.2.1,()))
    (some (r1587.2.2.2.1,r1587.2.2.2.2.1,r1587.2.2.2.2.2.1,r1587.2.2.2.2.2.2.1,r1587.2.2.2.2.2.2.2.1,r1587.2.2.2.2.2.2.2.2.1,r1587.2.2.2.2.2.2.2.2.2.1,r1587.2.2.2.2.2.2.2.2.2.2.1,r1587.2.2.2.2.2.2.2.2.2.2.2.1,r1587.2.2.2.2.2.2.2.2.2.2.2.2.1,r1587.2.2.2.2.2.2.2.2.2.2.2.2.2.1,r1587.2.2.2.2.2.2.2.2.2.2.2.2.2.2.1,r1587.2.2.2.2.2.2.2.2.2.2.2.2.2.2.2.1,r1587.2.2.1,r1587.2.2.2.2.2.2.2.2.2.2.2.2.2.2.2.2.1,r1587.2.2.2.2.2.2.2.2.2.2.2.2.2.2.2.2.2.1,())))
    none)
   none
def q3a(a0:Int)(a1:Int)(a2:Int)(a3:Int):Option (Int×Unit):=
 (qdh F a3).bind fun r1671=>
 let n1672:Nat:=(ya r1671.1)
 cond ((decide (0≤a2))&&(decide (a2<((n1672:Nat):Int))))
  ((qpb F a0 a1 (y7 r1671.1 (y6 a2) 0) 64 32).bind fun r1687=>
  some (r1687.1,()))
   none
def q47(rec:LI→Int→Int→Int→Int→Int→Int→Int→Int→Int→Int→Int→Int→Int→LI→LI→LI→LI→LI→Int→Int→Int→Int→LI→Int→Option (LI×Int×Int×Int×Int×Int×Int×Int×Int×Int×Int×Int×Int×Int×LI×LI×LI×LI×LI×Int×Int×LI×Unit))(x0:LI)(x1:Int)(x2:Int)(x3:Int)(x4:Int)(x5:Int)(x6:Int)(x7:Int)(x8:Int)(x9:Int)(x10:Int)(x11:Int)(x12:Int)(x13:Int)(x14:LI)(x15:LI)(x16:LI)(x17:LI)(x18:LI)(x19:Int)(x20:Int)(x21:Int)(x22:Int)(x23:LI)(x24:Int):Option (LI×Int×Int×Int×Int×Int×Int×Int×Int×Int×Int×Int×Int×Int×LI×LI×LI×LI×LI×Int×Int×LI×Unit):=
 cond (decide (x24<3))
  (let b1824:Bool:=((decide (0≤x24))&&(decide (x24<4)))
  cond b1824
   (cond b1824
    ((q3a F (y7 x17 (y6 x24) 0) (y7 x18 (y6 x24) 0) x19 x20).bind fun r1828=>
    cond b1824
     (rec x0 x1 x2 x3 x4 x5 x6 x7 x8 x9 x10 x11 x12 x13 x14 x15 x16 x17 x18 x19 x20 x21 x22 (yw x23 (y6 x24) r1828.1) (y0 .i64 (x24+1)))
      none)
     none)
    none)
  (some (x0,x1,x2,x3,x4,x5,x6,x7,x8,x9,x10,x11,x12,x13,x14,x15,x16,x17,x18,x21,x22,x23,()))
def q0l(F:Nat):Nat→LI→Int→Int→Int→Int→Int→Int→Int→Int→Int→Int→Int→Int→Int→LI→LI→LI→LI→LI→Int→Int→Int→Int→LI→Int→Option (LI×Int×Int×Int×Int×Int×Int×Int×Int×Int×Int×Int×Int×Int×LI×LI×LI×LI×LI×Int×Int×LI×Unit)
 |0,_,_,_,_,_,_,_,_,_,_,_,_,_,_,_,_,_,_,_,_,_,_,_,_,_=>none
 |k+1,x0,x1,x2,x3,x4,x5,x6,x7,x8,x9,x10,x11,x12,x13,x14,x15,x16,x17,x18,x19,x20,x21,x22,x23,x24=>q47 F (q0l F k) x0 x1 x2 x3 x4 x5 x6 x7 x8 x9 x10 x11 x12 x13 x14 x15 x16 x17 x18 x19 x20 x21 x22 x23 x24
def q6t(a0:LI)(a1:Int)(a2:Int)(a3:Int)(a4:Int)(a5:Int)(a6:Int)(a7:Int)(a8:Int)(a9:Int)(a10:Int)(a11:Int)(a12:Int)(a13:Int)(a14:LI)(a15:LI)(a16:Int):Option (LI×Unit):=
 let n1792:Nat:=((ya a0)/4)
 (qml F a1 a11 a16).bind fun r1793=>
 let v1794:Int:=(y0 .i64 (2*r1793.1))
 let v1795:Int:=(y0 .i64 (v1794+1))
 cond ((decide (0≤v1794))&&(decide (v1794<((n1792:Nat):Int))))
  (let l1798:LI:=(y8 4 (y9 ((y6 v1794)*4) a0))
  cond ((decide (0≤v1795))&&(decide (v1795<((n1792:Nat):Int))))
   (let l1801:LI:=(y8 4 (y9 ((y6 v1795)*4) a0))
   let b1802:Bool:=((decide (0≤a16))&&(decide (a16<16)))
   cond b1802
    (let v1804:Int:=(y7 a14 (y6 a16) 0)
    cond (decide (0<a10))
     (cond b1802
      (let v1806:Int:=(y7 a15 (y6 a16) 0)
      cond (a13==1)
       ((q0l F F a0 a1 a2 a3 a4 a5 a6 a7 a8 a9 a10 a11 a12 a13 a14 a15 [0,0,0,0] l1798 l1801 v1806 a10 v1804 a9 [0,0,0,0] 0).bind fun r1831=>
       (q3a F (y7 r1831.2.2.2.2.2.2.2.2.2.2.2.2.2.2.2.2.2.1 3 0) (y7 r1831.2.2.2.2.2.2.2.2.2.2.2.2.2.2.2.2.2.2.1 3 0) r1831.2.2.2.2.2.2.2.2.2.2.2.2.2.2.2.2.2.2.2.1 r1831.2.2.2.2.2.2.2.2.2.2.2.2.2.2.2.2.2.2.2.2.1).bind fun r1835=>
       let l1836:LI:=(yw r1831.2.2.2.2.2.2.2.2.2.2.2.2.2.2.2.2.2.2.2.2.2.1 3 r1835.1)
       cond (decide (0<r1831.2.2.2.2.2.2.2.2.2.2.2.2.1))
        (let v1838:Int:=(y0 .i64 (r1831.2.2.2.2.2.2.2.2.2.2.2.2.1-1))
        let b1839:Bool:=((decide (0≤v1838))&&(decide (v1838<4)))
        cond b1839
         (cond b1839
          (some ((yw (yw l1836 3 (y7 l1836 (y6 v1838) 0)) (y6 v1838) (y7 l1836 3 0)),()))
           none)
          none)
        (some (l1836,())))
       ((q0l F F a0 a1 a2 a3 a4 a5 a6 a7 a8 a9 a10 a11 a12 a13 a14 a15 [0,0,0,0] l1798 l1801 v1804 a9 v1806 a10 [0,0,0,0] 0).bind fun r1854=>
       (q3a F (y7 r1854.2.2.2.2.2.2.2.2.2.2.2.2.2.2.2.2.2.1 3 0) (y7 r1854.2.2.2.2.2.2.2.2.2.2.2.2.2.2.2.2.2.2.1 3 0) r1854.2.2.2.2.2.2.2.2.2.2.2.2.2.2.2.2.2.2.2.1 r1854.2.2.2.2.2.2.2.2.2.2.2.2.2.2.2.2.2.2.2.2.1).bind fun r1858=>
       let l1859:LI:=(yw r1854.2.2.2.2.2.2.2.2.2.2.2.2.2.2.2.2.2.2.2.2.2.1 3 r1858.1)
       cond (decide (0<r1854.2.2.2.2.2.2.2.2.2.2.2.2.1))
        (let v1861:Int:=(y0 .i64 (r1854.2.2.2.2.2.2.2.2.2.2.2.2.1-1))
        let b1862:Bool:=((decide (0≤v1861))&&(decide (v1861<4)))
        cond b1862
         (cond b1862
          (some ((yw (yw l1859 3 (y7 l1859 (y6 v1861) 0)) (y6 v1861) (y7 l1859 3 0)),()))
           none)
          none)
        (some (l1859,()))))
       none)
     (cond (a13==1)
      ((q0l F F a0 a1 a2 a3 a4 a5 a6 a7 a8 a9 a10 a11 a12 a13 a14 a15 [0,0,0,0] l1798 l1801 v1804 a9 v1804 a9 [0,0,0,0] 0).bind fun r1878=>
      (q3a F (y7 r1878.2.2.2.2.2.2.2.2.2.2.2.2.2.2.2.2.2.1 3 0) (y7 r1878.2.2.2.2.2.2.2.2.2.2.2.2.2.2.2.2.2.2.1 3 0) r1878.2.2.2.2.2.2.2.2.2.2.2.2.2.2.2.2.2.2.2.1 r1878.2.2.2.2.2.2.2.2.2.2.2.2.2.2.2.2.2.2.2.2.1).bind fun r1882=>
      let l1883:LI:=(yw r1878.2.2.2.2.2.2.2.2.2.2.2.2.2.2.2.2.2.2.2.2.2.1 3 r1882.1)
      cond (decide (0<r1878.2.2.2.2.2.2.2.2.2.2.2.2.1))
       (let v1885:Int:=(y0 .i64 (r1878.2.2.2.2.2.2.2.2.2.2.2.2.1-1))
       let b1886:Bool:=((decide (0≤v1885))&&(decide (v1885<4)))
       cond b1886
        (cond b1886
         (some ((yw (yw l1883 3 (y7 l1883 (y6 v1885) 0)) (y6 v1885) (y7 l1883 3 0)),()))
          none)
         none)
       (some (l1883,())))
      ((q0l F F a0 a1 a2 a3 a4 a5 a6 a7 a8 a9 a10 a11 a12 a13 a14 a15 [0,0,0,0] l1798 l1801 v1804 a9 v1804 a9 [0,0,0,0] 0).bind fun r1901=>
      (q3a F (y7 r1901.2.2.2.2.2.2.2.2.2.2.2.2.2.2.2.2.2.1 3 0) (y7 r1901.2.2.2.2.2.2.2.2.2.2.2.2.2.2.2.2.2.2.1 3 0) r1901.2.2.2.2.2.2.2.2.2.2.2.2.2.2.2.2.2.2.2.1 r1901.2.2.2.2.2.2.2.2.2.2.2.2.2.2.2.2.2.2.2.2.1).bind fun r1905=>
      let l1906:LI:=(yw r1901.2.2.2.2.2.2.2.2.2.2.2.2.2.2.2.2.2.2.2.2.2.1 3 r1905.1)
      cond (decide (0<r1901.2.2.2.2.2.2.2.2.2.2.2.2.1))
       (let v1908:Int:=(y0 .i64 (r1901.2.2.2.2.2.2.2.2.2.2.2.2.1-1))
       let b1909:Bool:=((decide (0≤v1908))&&(decide (v1908<4)))
       cond b1909
        (cond b1909
         (some ((yw (yw l1906 3 (y7 l1906 (y6 v1908) 0)) (y6 v1908) (y7 l1906 3 0)),()))
          none)
         none)
       (some (l1906,())))))
     none)
    none)
   none
def q99(rec:LI→LI→LI→Int→Int→Int→Int→Int→Int→Int→Int→Int→Int→Int→Int→Int→LI→LI→Int→Option (LI×LI×Unit))(x0:LI)(x1:LI)(x2:LI)(x3:Int)(x4:Int)(x5:Int)(x6:Int)(x7:Int)(x8:Int)(x9:Int)(x10:Int)(x11:Int)(x12:Int)(x13:Int)(x14:Int)(x15:Int)(x16:LI)(x17:LI)(x18:Int):Option (LI×LI×Unit):=
 cond (decide (x18<16))
  ((q6t F x2 x3 x4 x5 x6 x7 x8 x9 x10 x11 x12 x13 x14 x15 x16 x17 x18).bind fun r1926=>
  cond ((decide (0≤x18))&&(decide (x18<16)))
   (let n1928:Nat:=((y6 x18)*4)
   rec x0 (((y8 n1928 x1)++r1926.1)++(y9 (n1928+4) x1)) x2 x3 x4 x5 x6 x7 x8 x9 x10 x11 x12 x13 x14 x15 x16 x17 (y0 .i64 (x18+1)))
    none)
  (some (x0,x1,()))
def q3b(F:Nat):Nat→LI→LI→LI→Int→Int→Int→Int→Int→Int→Int→Int→Int→Int→Int→Int→Int→LI→LI→Int→Option (LI×LI×Unit)
 |0,_,_,_,_,_,_,_,_,_,_,_,_,_,_,_,_,_,_,_=>none
 |k+1,x0,x1,x2,x3,x4,x5,x6,x7,x8,x9,x10,x11,x12,x13,x14,x15,x16,x17,x18=>q99 F (q3b F k) x0 x1 x2 x3 x4 x5 x6 x7 x8 x9 x10 x11 x12 x13 x14 x15 x16 x17 x18
def qbd(a0:LI):Option (LI×Int×Unit):=
 cond ((((ya a0):Nat):Int) !=16)
  (some (q00,1,()))
  ((qmr F a0).bind fun r295=>
  cond (r295.1==8)
   (some (q00,0,()))
   ((qms F a0 r295.1).bind fun r1620=>
   (q3b F F q00 q00 r1620.2.2.2.2.2.2.2.2.2.2.2.2.2.1 r1620.1 r1620.2.1 r1620.2.2.1 r1620.2.2.2.1 r1620.2.2.2.2.1 r1620.2.2.2.2.2.1 r1620.2.2.2.2.2.2.1 r1620.2.2.2.2.2.2.2.1 r1620.2.2.2.2.2.2.2.2.1 r1620.2.2.2.2.2.2.2.2.2.1 r1620.2.2.2.2.2.2.2.2.2.2.1 r1620.2.2.2.2.2.2.2.2.2.2.2.1 r1620.2.2.2.2.2.2.2.2.2.2.2.2.1 r1620.2.2.2.2.2.2.2.2.2.2.2.2.2.2.1 r1620.2.2.2.2.2.2.2.2.2.2.2.2.2.2.2.1 0).bind fun r1931=>
   some (r1931.2.1,0,())))
def qgc(rec:LI→Int→Option ((Int×Unit)⊕Unit))(x0:LI)(x1:Int):Option ((Int×Unit)⊕Unit):=
 cond (decide (x1<8))
  ((q2m F x0 x1 1).bind fun r2052=>
  cond (r2052.1==1)
   (some (.inl (x1,())))
   (rec x0 (y0 .i64 (x1+1))))
  (some (.inr ()))
def q63(F:Nat):Nat→LI→Int→Option ((Int×Unit)⊕Unit)
 |0,_,_=>none
 |k+1,x0,x1=>qgc F (q63 F k) x0 x1
def z06(a0:LI):Option (Int×Unit):=
 cond ((((ya a0):Nat):Int) !=16)
  (some (8,()))
  ((q63 F F a0 0).bind fun r2055=>match r2055 with
   | .inl r2055=>(some (r2055.1,()))
   | .inr r2055=>(some (8,())))
def z3s(F:Nat):Option (LI×Unit):=
 some (bctable_ModesT298,())
def q0q(a0:LI)(a1:Int)(a2:Int):Option (Int×LI×Int×Unit):=
 (q2m F a0 a1 a2).bind fun r2081=>
 some (r2081.1,a0,(y0 .i64 (a1+a2)),())
def q70(a0:Int)(a1:Int)(a2:Int)(a3:Int):Option (Int×Unit):=
 (qj8 F a3).bind fun r3032=>
 let n3033:Nat:=(ya r3032.1)
 cond ((decide (0≤a2))&&(decide (a2<((n3033:Nat):Int))))
  ((qh7 F a0 a1 (y7 r3032.1 (y6 a2) 0) 64 32).bind fun r3047=>
  some (r3047.1,()))
   none
def qbv(rec:LI→LI→Int→Int→Int→Int→Int→Int→Int→Int→Int→Int→LI→Int→Int→Int→Int→LI→Int→Int→Int→Option (LI×LI×Int×Int×Int×Int×Int×Int×Int×Int×Int×Int×LI×Int×Int×Int×Int×LI×Int×Unit))(x0:LI)(x1:LI)(x2:Int)(x3:Int)(x4:Int)(x5:Int)(x6:Int)(x7:Int)(x8:Int)(x9:Int)(x10:Int)(x11:Int)(x12:LI)(x13:Int)(x14:Int)(x15:Int)(x16:Int)(x17:LI)(x18:Int)(x19:Int)(x20:Int):Option (LI×LI×Int×Int×Int×Int×Int×Int×Int×Int×Int×Int×LI×Int×Int×Int×Int×LI×Int×Unit):=
 let n4319:Nat:=((ya x17)/4)
 let v4321:Int:=((n4319:Nat):Int)
 cond (decide (x20<v4321))
  (cond ((decide (0≤x20))&&(decide (x20<((n4319:Nat):Int))))
   ((q0q F x12 x13 x19).bind fun r4325=>
   cond ((decide (0≤x18))&&(decide (x18<4)))
    (rec x0 x1 x2 x3 x4 x5 x6 x7 x8 x9 x10 x11 r4325.2.1 r4325.2.2.1 x14 x15 x16 (yw x17 (((y6 x20)*4)+(y6 x18)) r4325.1) x18 x19 (y0 .i64 (x20+1)))
     none)
    none)
  (some (x0,x1,x2,x3,x4,x5,x6,x7,x8,x9,x10,x11,x12,x13,x14,x15,x16,x17,x18,()))
def q3p(F:Nat):Nat→LI→LI→Int→Int→Int→Int→Int→Int→Int→Int→Int→Int→LI→Int→Int→Int→Int→LI→Int→Int→Int→Option (LI×LI×Int×Int×Int×Int×Int×Int×Int×Int×Int×Int×LI×Int×Int×Int×Int×LI×Int×Unit)
 |0,_,_,_,_,_,_,_,_,_,_,_,_,_,_,_,_,_,_,_,_,_=>none
 |k+1,x0,x1,x2,x3,x4,x5,x6,x7,x8,x9,x10,x11,x12,x13,x14,x15,x16,x17,x18,x19,x20=>qbv F (q3p F k) x0 x1 x2 x3 x4 x5 x6 x7 x8 x9 x10 x11 x12 x13 x14 x15 x16 x17 x18 x19 x20
def qbw(rec:LI→LI→Int→Int→Int→Int→Int→Int→Int→Int→Int→Int→LI→Int→Int→Int→Int→LI→Int→Option (LI×LI×Int×Int×Int×Int×Int×Int×Int×Int×Int×Int×LI×Int×Int×Int×Int×LI×Unit))(x0:LI)(x1:LI)(x2:Int)(x3:Int)(x4:Int)(x5:Int)(x6:Int)(x7:Int)(x8:Int)(x9:Int)(x10:Int)(x11:Int)(x12:LI)(x13:Int)(x14:Int)(x15:Int)(x16:Int)(x17:LI)(x18:Int):Option (LI×LI×Int×Int×Int×Int×Int×Int×Int×Int×Int×Int×LI×Int×Int×Int×Int×LI×Unit):=
 cond (decide (x18<4))
  (cond (x18==3)
   ((q3p F F x0 x1 x2 x3 x4 x5 x6 x7 x8 x9 x10 x11 x12 x13 x14 x15 x16 x17 x18 x7 0).bind fun r4331=>
   rec r4331.1 r4331.2.1 r4331.2.2.1 r4331.2.2.2.1 r4331.2.2.2.2.1 r4331.2.2.2.2.2.1 r4331.2.2.2.2.2.2.1 r4331.2.2.2.2.2.2.2.1 r4331.2.2.2.2.2.2.2.2.1 r4331.2.2.2.2.2.2.2.2.2.1 r4331.2.2.2.2.2.2.2.2.2.2.1 r4331.2.2.2.2.2.2.2.2.2.2.2.1 r4331.2.2.2.2.2.2.2.2.2.2.2.2.1 r4331.2.2.2.2.2.2.2.2.2.2.2.2.2.1 r4331.2.2.2.2.2.2.2.2.2.2.2.2.2.2.1 r4331.2.2.2.2.2.2.2.2.2.2.2.2.2.2.2.1 r4331.2.2.2.2.2.2.2.2.2.2.2.2.2.2.2.2.1 r4331.2.2.2.2.2.2.2.2.2.2.2.2.2.2.2.2.2.1 (y0 .i64 (r4331.2.2.2.2.2.2.2.2.2.2.2.2.2.2.2.2.2.2.1+1)))
   ((q3p F F x0 x1 x2 x3 x4 x5 x6 x7 x8 x9 x10 x11 x12 x13 x14 x15 x16 x17 x18 x6 0).bind fun r4347=>
   rec r4347.1 r4347.2.1 r4347.2.2.1 r4347.2.2.2.1 r4347.2.2.2.2.1 r4347.2.2.2.2.2.1 r4347.2.2.2.2.2.2.1 r4347.2.2.2.2.2.2.2.1 r4347.2.2.2.2.2.2.2.2.1 r4347.2.2.2.2.2.2.2.2.2.1 r4347.2.2.2.2.2.2.2.2.2.2.1 r4347.2.2.2.2.2.2.2.2.2.2.2.1 r4347.2.2.2.2.2.2.2.2.2.2.2.2.1 r4347.2.2.2.2.2.2.2.2.2.2.2.2.2.1 r4347.2.2.2.2.2.2.2.2.2.2.2.2.2.2.1 r4347.2.2.2.2.2.2.2.2.2.2.2.2.2.2.2.1 r4347.2.2.2.2.2.2.2.2.2.2.2.2.2.2.2.2.1 r4347.2.2.2.2.2.2.2.2.2.2.2.2.2.2.2.2.2.1 (y0 .i64 (r4347.2.2.2.2.2.2.2.2.2.2.2.2.2.2.2.2.2.2.1+1))))
  (some (x0,x1,x2,x3,x4,x5,x6,x7,x8,x9,x10,x11,x12,x13,x14,x15,x16,x17,()))
def q2p(F:Nat):Nat→LI→LI→Int→Int→Int→Int→Int→Int→Int→Int→Int→Int→LI→Int→Int→Int→Int→LI→Int→Option (LI×LI×Int×Int×Int×Int×Int×Int×Int×Int×Int×Int×LI×Int×Int×Int×Int×LI×Unit)
 |0,_,_,_,_,_,_,_,_,_,_,_,_,_,_,_,_,_,_,_=>none
 |k+1,x0,x1,x2,x3,x4,x5,x6,x7,x8,x9,x10,x11,x12,x13,x14,x15,x16,x17,x18=>qbw F (q2p F k) x0 x1 x2 x3 x4 x5 x6 x7 x8 x9 x10 x11 x12 x13 x14 x15 x16 x17 x18
def qbx(F:Nat)(rec:LI→LI→Int→Int→Int→Int→Int→Int→Int→Int→Int→Int→LI→Int→Int→Int→Int→LI→Int→Int→Int→Option (LI×LI×Int×Int×Int×Int×Int×Int×Int×Int×Int×Int×LI×Int×Int×Int×Int×LI×Int×Unit))(x0:LI)(x1:LI)(x2:Int)(x3:Int)(x4:Int)(x5:Int)(x6:Int)(x7:Int)(x8:Int)(x9:Int)(x10:Int)(x11:Int)(x12:LI)(x13:Int)(x14:Int)(x15:Int)(x16:Int)(x17:LI)(x18:Int)(x19:Int)(x20:Int):Option (LI×LI×Int×Int×Int×Int×Int×Int×Int×Int×Int×Int×LI×Int×Int×Int×Int×LI×Int×Unit):=
 let n4407:Nat:=((ya x17)/4)
 cond (decide (x20<4))
  (let b4410:Bool:=((decide (0≤x18))&&(decide (x18<((n4407:Nat):Int))))
  cond b4410
   (let b4412:Bool:=((decide (0≤x20))&&(decide (x20<4)))
   cond b4412
    (let n4413:Nat:=(((y6 x18)*4)+(y6 x20))
    cond b4410
     (cond b4412
      (rec x0 x1 x2 x3 x4 x5 x6 x7 x8 x9 x10 x11 x12 x13 x14 x15 x16 (yw x17 n4413 (y0 .i64 ((y0 .i64 (2*(y7 x17 n4413 0)))+x19))) x18 x19 (y0 .i64 (x20+1)))
       none)
      none)
     none)
    none)
  (some (x0,x1,x2,x3,x4,x5,x6,x7,x8,x9,x10,x11,x12,x13,x14,x15,x16,x17,x18,()))
def q3q(F:Nat):Nat→LI→LI→Int→Int→Int→Int→Int→Int→Int→Int→Int→Int→LI→Int→Int→Int→Int→LI→Int→Int→Int→Option (LI×LI×Int×Int×Int×Int×Int×Int×Int×Int×Int×Int×LI×Int×Int×Int×Int×LI×Int×Unit)
 |0,_,_,_,_,_,_,_,_,_,_,_,_,_,_,_,_,_,_,_,_,_=>none
 |k+1,x0,x1,x2,x3,x4,x5,x6,x7,x8,x9,x10,x11,x12,x13,x14,x15,x16,x17,x18,x19,x20=>qbx F (q3q F k) x0 x1 x2 x3 x4 x5 x6 x7 x8 x9 x10 x11 x12 x13 x14 x15 x16 x17 x18 x19 x20
def qby(rec:LI→LI→Int→Int→Int→Int→Int→Int→Int→Int→Int→Int→LI→Int→Int→Int→Int→LI→Int→Option (LI×LI×Int×Int×Int×Int×Int×Int×Int×Int×Int×Int×LI×Int×Int×Int×Int×LI×Unit))(x0:LI)(x1:LI)(x2:Int)(x3:Int)(x4:Int)(x5:Int)(x6:Int)(x7:Int)(x8:Int)(x9:Int)(x10:Int)(x11:Int)(x12:LI)(x13:Int)(x14:Int)(x15:Int)(x16:Int)(x17:LI)(x18:Int):Option (LI×LI×Int×Int×Int×Int×Int×Int×Int×Int×Int×Int×LI×Int×Int×Int×Int×LI×Unit):=
 let v4391:Int:=((((ya x17)/4):Nat):Int)
 cond (decide (x18<v4391))
  ((q0q F x12 x13 1).bind fun r4393=>
  (q3q F F x0 x1 x2 x3 x4 x5 x6 x7 x8 x9 x10 x11 r4393.2.1 r4393.2.2.1 x14 x15 x16 x17 x18 r4393.1 0).bind fun r4419=>
  rec r4419.1 r4419.2.1 r4419.2.2.1 r4419.2.2.2.1 r4419.2.2.2.2.1 r4419.2.2.2.2.2.1 r4419.2.2.2.2.2.2.1 r4419.2.2.2.2.2.2.2.1 r4419.2.2.2.2.2.2.2.2.1 r4419.2.2.2.2.2.2.2.2.2.1 r4419.2.2.2.2.2.2.2.2.2.2.1 r4419.2.2.2.2.2.2.2.2.2.2.2.1 r4419.2.2.2.2.2.2.2.2.2.2.2.2.1 r4419.2.2.2.2.2.2.2.2.2.2.2.2.2.1 r4419.2.2.2.2.2.2.2.2.2.2.2.2.2.2.1 r4419.2.2.2.2.2.2.2.2.2.2.2.2.2.2.2.1 r4419.2.2.2.2.2.2.2.2.2.2.2.2.2.2.2.2.1 r4419.2.2.2.2.2.2.2.2.2.2.2.2.2.2.2.2.2.1 (y0 .i64 (r4419.2.2.2.2.2.2.2.2.2.2.2.2.2.2.2.2.2.2.1+1)))
  (some (x0,x1,x2,x3,x4,x5,x6,x7,x8,x9,x10,x11,x12,x13,x14,x15,x16,x17,()))
def q56(F:Nat):Nat→LI→LI→Int→Int→Int→Int→Int→Int→Int→Int→Int→Int→LI→Int→Int→Int→Int→LI→Int→Option (LI×LI×Int×Int×Int×Int×Int×Int×Int×Int×Int×Int×LI×Int×Int×Int×Int×LI×Unit)
 |0,_,_,_,_,_,_,_,_,_,_,_,_,_,_,_,_,_,_,_=>none
 |k+1,x0,x1,x2,x3,x4,x5,x6,x7,x8,x9,x10,x11,x12,x13,x14,x15,x16,x17,x18=>qby F (q56 F k) x0 x1 x2 x3 x4 x5 x6 x7 x8 x9 x10 x11 x12 x13 x14 x15 x16 x17 x18
def qaf(F:Nat)(rec:LI→LI→Int→Int→Int→Int→Int→Int→Int→Int→Int→Int→LI→Int→Int→Int→Int→LI→Int→Int→Int→Option (LI×LI×Int×Int×Int×Int×Int×Int×Int×Int×Int×Int×LI×Int×Int×Int×Int×LI×Int×Unit))(x0:LI)(x1:LI)(x2:Int)(x3:Int)(x4:Int)(x5:Int)(x6:Int)(x7:Int)(x8:Int)(x9:Int)(x10:Int)(x11:Int)(x12:LI)(x13:Int)(x14:Int)(x15:Int)(x16:Int)(x17:LI)(x18:Int)(x19:Int)(x20:Int):Option (LI×LI×Int×Int×Int×Int×Int×Int×Int×Int×Int×Int×LI×Int×Int×Int×Int×LI×Int×Unit):=
 let n4503:Nat:=((ya x17)/4)
 cond (decide (x20<4))
  (let b4506:Bool:=((decide (0≤x18))&&(decide (x18<((n4503:Nat):Int))))
  cond b4506
   (let b4508:Bool:=((decide (0≤x20))&&(decide (x20<4)))
   cond b4508
    (let n4509:Nat:=(((y6 x18)*4)+(y6 x20))
    cond b4506
     (cond b4508
      (let l4513:LI:=(yw x17 n4509 (y0 .i64 ((y0 .i64 (2*(y7 x17 n4509 0)))+x19)))
      let v4514:Int:=(y0 .i64 (x18+1))
      let b4515:Bool:=((decide (0≤v4514))&&(decide (v4514<((n4503:Nat):Int))))
      cond b4515
       (cond b4508
        (let n4517:Nat:=(((y6 v4514)*4)+(y6 x20))
        cond b4515
         (cond b4508
          (rec x0 x1 x2 x3 x4 x5 x6 x7 x8 x9 x10 x11 x12 x13 x14 x15 x16 (yw l4513 n4517 (y0 .i64 ((y0 .i64 (2*(y7 l4513 n4517 0)))+x19))) x18 x19 (y0 .i64 (x20+1)))
           none)
          none)
         none)
        none)
       none)
      none)
     none)
    none)
  (some (x0,x1,x2,x3,x4,x5,x6,x7,x8,x9,x10,x11,x12,x13,x14,x15,x16,x17,x18,()))
def q2x(F:Nat):Nat→LI→LI→Int→Int→Int→Int→Int→Int→Int→Int→Int→Int→LI→Int→Int→Int→Int→LI→Int→Int→Int→Option (LI×LI×Int×Int×Int×Int×Int×Int×Int×Int×Int×Int×LI×Int×Int×Int×Int×LI×Int×Unit)
 |0,_,_,_,_,_,_,_,_,_,_,_,_,_,_,_,_,_,_,_,_,_=>none
 |k+1,x0,x1,x2,x3,x4,x5,x6,x7,x8,x9,x10,x11,x12,x13,x14,x15,x16,x17,x18,x19,x20=>qaf F (q2x F k) x0 x1 x2 x3 x4 x5 x6 x7 x8 x9 x10 x11 x12 x13 x14 x15 x16 x17 x18 x19 x20
def qbz(rec:LI→LI→Int→Int→Int→Int→Int→Int→Int→Int→Int→Int→LI→Int→Int→Int→Int→LI→Int→Option (LI×LI×Int×Int×Int×Int×Int×Int×Int×Int×Int×Int×LI×Int×Int×Int×Int×LI×Unit))(x0:LI)(x1:LI)(x2:Int)(x3:Int)(x4:Int)(x5:Int)(x6:Int)(x7:Int)(x8:Int)(x9:Int)(x10:Int)(x11:Int)(x12:LI)(x13:Int)(x14:Int)(x15:Int)(x16:Int)(x17:LI)(x18:Int):Option (LI×LI×Int×Int×Int×Int×Int×Int×Int×Int×Int×Int×LI×Int×Int×Int×Int×LI×Unit):=
 let v4479:Int:=((((ya x17)/4):Nat):Int)
 cond (decide (x18<v4479))
  ((q0q F x12 x13 1).bind fun r4481=>
  (q2x F F x0 x1 x2 x3 x4 x5 x6 x7 x8 x9 x10 x11 r4481.2.1 r4481.2.2.1 x14 x15 x16 x17 x18 r4481.1 0).bind fun r4523=>
  rec r4523.1 r4523.2.1 r4523.2.2.1 r4523.2.2.2.1 r4523.2.2.2.2.1 r4523.2.2.2.2.2.1 r4523.2.2.2.2.2.2.1 r4523.2.2.2.2.2.2.2.1 r4523.2.2.2.2.2.2.2.2.1 r4523.2.2.2.2.2.2.2.2.2.1 r4523.2.2.2.2.2.2.2.2.2.2.1 r4523.2.2.2.2.2.2.2.2.2.2.2.1 r4523.2.2.2.2.2.2.2.2.2.2.2.2.1 r4523.2.2.2.2.2.2.2.2.2.2.2.2.2.1 r4523.2.2.2.2.2.2.2.2.2.2.2.2.2.2.1 r4523.2.2.2.2.2.2.2.2.2.2.2.2.2.2.2.1 r4523.2.2.2.2.2.2.2.2.2.2.2.2.2.2.2.2.1 r4523.2.2.2.2.2.2.2.2.2.2.2.2.2.2.2.2.2.1 (y0 .i64 (r4523.2.2.2.2.2.2.2.2.2.2.2.2.2.2.2.2.2.2.1+2)))
  (some (x0,x1,x2,x3,x4,x5,x6,x7,x8,x9,x10,x11,x12,x13,x14,x15,x16,x17,()))
def q3r(F:Nat):Nat→LI→LI→Int→Int→Int→Int→Int→Int→Int→Int→Int→Int→LI→Int→Int→Int→Int→LI→Int→Option (LI×LI×Int×Int×Int×Int×Int×Int×Int×Int×Int×Int×LI×Int×Int×Int×Int×LI×Unit)
 |0,_,_,_,_,_,_,_,_,_,_,_,_,_,_,_,_,_,_,_=>none
 |k+1,x0,x1,x2,x3,x4,x5,x6,x7,x8,x9,x10,x11,x12,x13,x14,x15,x16,x17,x18=>qbz F (q3r F k) x0 x1 x2 x3 x4 x5 x6 x7 x8 x9 x10 x11 x12 x13 x14 x15 x16 x17 x18
def qag(rec:LI→LI→Int→Int→Int→Int→Int→Int→Int→Int→Int→Int→LI→Int→Int→Int→Int→LI→Int→Int→Int→Option (LI×LI×Int×Int×Int×Int×Int×Int×Int×Int×Int×Int×LI×Int×Int×Int×Int×LI×Int×Int×Unit))(x0:LI)(x1:LI)(x2:Int)(x3:Int)(x4:Int)(x5:Int)(x6:Int)(x7:Int)(x8:Int)(x9:Int)(x10:Int)(x11:Int)(x12:LI)(x13:Int)(x14:Int)(x15:Int)(x16:Int)(x17:LI)(x18:Int)(x19:Int)(x20:Int):Option (LI×LI×Int×Int×Int×Int×Int×Int×Int×Int×Int×Int×LI×Int×Int×Int×Int×LI×Int×Int×Unit):=
 let n4591:Nat:=((ya x17)/4)
 cond (decide (x20<3))
  (let b4594:Bool:=((decide (0≤x19))&&(decide (x19<((n4591:Nat):Int))))
  cond b4594
   (let b4596:Bool:=((decide (0≤x20))&&(decide (x20<4)))
   cond b4596
    (let n4597:Nat:=(((y6 x19)*4)+(y6 x20))
    (q0c F (y7 x17 n4597 0) (y0 .i64 (x6+x18))).bind fun r4600=>
    cond b4594
     (cond b4596
      (rec x0 x1 x2 x3 x4 x5 x6 x7 x8 x9 x10 x11 x12 x13 x14 x15 x16 (yw x17 n4597 r4600.1) x18 x19 (y0 .i64 (x20+1)))
       none)
      none)
     none)
    none)
  (some (x0,x1,x2,x3,x4,x5,x6,x7,x8,x9,x10,x11,x12,x13,x14,x15,x16,x17,x18,x19,()))
def q2y(F:Nat):Nat→LI→LI→Int→Int→Int→Int→Int→Int→Int→Int→Int→Int→LI→Int→Int→Int→Int→LI→Int→Int→Int→Option (LI×LI×Int×Int×Int×Int×Int×Int×Int×Int×Int×Int×LI×Int×Int×Int×Int×LI×Int×Int×Unit)
 |0,_,_,_,_,_,_,_,_,_,_,_,_,_,_,_,_,_,_,_,_,_=>none
 |k+1,x0,x1,x2,x3,x4,x5,x6,x7,x8,x9,x10,x11,x12,x13,x14,x15,x16,x17,x18,x19,x20=>qag F (q2y F k) x0 x1 x2 x3 x4 x5 x6 x7 x8 x9 x10 x11 x12 x13 x14 x15 x16 x17 x18 x19 x20
def qah(rec:LI→LI→Int→Int→Int→Int→Int→Int→Int→Int→Int→Int→LI→Int→Int→Int→Int→LI→Int→Int→Option (LI×LI×Int×Int×Int×Int×Int×Int×Int×Int×Int×Int×LI×Int×Int×Int×Int×LI×Unit))(x0:LI)(x1:LI)(x2:Int)(x3:Int)(x4:Int)(x5:Int)(x6:Int)(x7:Int)(x8:Int)(x9:Int)(x10:Int)(x11:Int)(x12:LI)(x13:Int)(x14:Int)(x15:Int)(x16:Int)(x17:LI)(x18:Int)(x19:Int):Option (LI×LI×Int×Int×Int×Int×Int×Int×Int×Int×Int×Int×LI×Int×Int×Int×Int×LI×Unit):=
 let v4577:Int:=((((ya x17)/4):Nat):Int)
 cond (decide (x19<v4577))
  ((q2y F F x0 x1 x2 x3 x4 x5 x6 x7 x8 x9 x10 x11 x12 x13 x14 x15 x16 x17 x18 x19 0).bind fun r4603=>
  let n4604:Nat:=((ya r4603.2.2.2.2.2.2.2.2.2.2.2.2.2.2.2.2.2.1)/4)
  cond (r4603.2.2.2.2.2.2.2.1==0)
   (cond ((decide (0≤r4603.2.2.2.2.2.2.2.2.2.2.2.2.2.2.2.2.2.2.2.1))&&(decide (r4603.2.2.2.2.2.2.2.2.2.2.2.2.2.2.2.2.2.2.2.1<((n4604:Nat):Int))))
    (rec r4603.1 r4603.2.1 r4603.2.2.1 r4603.2.2.2.1 r4603.2.2.2.2.1 r4603.2.2.2.2.2.1 r4603.2.2.2.2.2.2.1 r4603.2.2.2.2.2.2.2.1 r4603.2.2.2.2.2.2.2.2.1 r4603.2.2.2.2.2.2.2.2.2.1 r4603.2.2.2.2.2.2.2.2.2.2.1 r4603.2.2.2.2.2.2.2.2.2.2.2.1 r4603.2.2.2.2.2.2.2.2.2.2.2.2.1 r4603.2.2.2.2.2.2.2.2.2.2.2.2.2.1 r4603.2.2.2.2.2.2.2.2.2.2.2.2.2.2.1 r4603.2.2.2.2.2.2.2.2.2.2.2.2.2.2.2.1 r4603.2.2.2.2.2.2.2.2.2.2.2.2.2.2.2.2.1 (yw r4603.2.2.2.2.2.2.2.2.2.2.2.2.2.2.2.2.2.1 (3+((y6 r4603.2.2.2.2.2.2.2.2.2.2.2.2.2.2.2.2.2.2.2.1)*4)) 255) r4603.2.2.2.2.2.2.2.2.2.2.2.2.2.2.2.2.2.2.1 (y0 .i64 (r4603.2.2.2.2.2.2.2.2.2.2.2.2.2.2.2.2.2.2.2.1+1)))
     none)
   (let b4612:Bool:=((decide (0≤r4603.2.2.2.2.2.2.2.2.2.2.2.2.2.2.2.2.2.2.2.1))&&(decide (r4603.2.2.2.2.2.2.2.2.2.2.2.2.2.2.2.2.2.2.2.1<((n4604:Nat):Int))))
   cond b4612
    (let n4614:Nat:=(3+((y6 r4603.2.2.2.2.2.2.2.2.2.2.2.2.2.2.2.2.2.2.2.1)*4))
    (q0c F (y7 r4603.2.2.2.2.2.2.2.2.2.2.2.2.2.2.2.2.2.1 n4614 0) (y0 .i64 (r4603.2.2.2.2.2.2.2.1+r4603.2.2.2.2.2.2.2.2.2.2.2.2.2.2.2.2.2.2.1))).bind fun r4617=>
    cond b4612
     (rec r4603.1 r4603.2.1 r4603.2.2.1 r4603.2.2.2.1 r4603.2.2.2.2.1 r4603.2.2.2.2.2.1 r4603.2.2.2.2.2.2.1 r4603.2.2.2.2.2.2.2.1 r4603.2.2.2.2.2.2.2.2.1 r4603.2.2.2.2.2.2.2.2.2.1 r4603.2.2.2.2.2.2.2.2.2.2.1 r4603.2.2.2.2.2.2.2.2.2.2.2.1 r4603.2.2.2.2.2.2.2.2.2.2.2.2.1 r4603.2.2.2.2.2.2.2.2.2.2.2.2.2.1 r4603.2.2.2.2.2.2.2.2.2.2.2.2.2.2.1 r4603.2.2.2.2.2.2.2.2.2.2.2.2.2.2.2.1 r4603.2.2.2.2.2.2.2.2.2.2.2.2.2.2.2.2.1 (yw r4603.2.2.2.2.2.2.2.2.2.2.2.2.2.2.2.2.2.1 n4614 r4617.1) r4603.2.2.2.2.2.2.2.2.2.2.2.2.2.2.2.2.2.2.1 (y0 .i64 (r4603.2.2.2.2.2.2.2.2.2.2.2.2.2.2.2.2.2.2.2.1+1)))
      none)
     none))
  (some (x0,x1,x2,x3,x4,x5,x6,x7,x8,x9,x10,x11,x12,x13,x14,x15,x16,x17,()))
def q1w(F:Nat):Nat→LI→LI→Int→Int→Int→Int→Int→Int→Int→Int→Int→Int→LI→Int→Int→Int→Int→LI→Int→Int→Option (LI×LI×Int×Int×Int×Int×Int×Int×Int×Int×Int×Int×LI×Int×Int×Int×Int×LI×Unit)
 |0,_,_,_,_,_,_,_,_,_,_,_,_,_,_,_,_,_,_,_,_=>none
 |k+1,x0,x1,x2,x3,x4,x5,x6,x7,x8,x9,x10,x11,x12,x13,x14,x15,x16,x17,x18,x19=>qah F (q1w F k) x0 x1 x2 x3 x4 x5 x6 x7 x8 x9 x10 x11 x12 x13 x14 x15 x16 x17 x18 x19
def qai(rec:LI→LI→Int→Int→Int→Int→Int→Int→Int→Int→Int→Int→LI→Int→Int→Int→Int→LI→LI→LI→Int→Int→Int→Option (LI×LI×Int×Int×Int×Int×Int×Int×Int×Int×Int×Int×LI×Int×Int×Int×Int×LI×LI×LI×Int×Int×Unit))(x0:LI)(x1:LI)(x2:Int)(x3:Int)(x4:Int)(x5:Int)(x6:Int)(x7:Int)(x8:Int)(x9:Int)(x10:Int)(x11:Int)(x12:LI)(x13:Int)(x14:Int)(x15:Int)(x16:Int)(x17:LI)(x18:LI)(x19:LI)(x20:Int)(x21:Int)(x22:Int):Option (LI×LI×Int×Int×Int×Int×Int×Int×Int×Int×Int×Int×LI×Int×Int×Int×Int×LI×LI×LI×Int×Int×Unit):=
 cond (decide (x22<x2))
  ((qh9 F x2 x14 x22).bind fun r4682=>
  cond (r4682.1==x20)
   (rec x0 x1 x2 x3 x4 x5 x6 x7 x8 x9 x10 x11 x12 x13 x14 x15 x16 x17 x18 x19 x20 1 (y0 .i64 (x22+1)))
   (rec x0 x1 x2 x3 x4 x5 x6 x7 x8 x9 x10 x11 x12 x13 x14 x15 x16 x17 x18 x19 x20 x21 (y0 .i64 (x22+1))))
  (some (x0,x1,x2,x3,x4,x5,x6,x7,x8,x9,x10,x11,x12,x13,x14,x15,x16,x17,x18,x19,x20,x21,()))
def q1x(F:Nat):Nat→LI→LI→Int→Int→Int→Int→Int→Int→Int→Int→Int→Int→LI→Int→Int→Int→Int→LI→LI→LI→Int→Int→Int→Option (LI×LI×Int×Int×Int×Int×Int×Int×Int×Int×Int×Int×LI×Int×Int×Int×Int×LI×LI×LI×Int×Int×Unit)
 |0,_,_,_,_,_,_,_,_,_,_,_,_,_,_,_,_,_,_,_,_,_,_,_=>none
 |k+1,x0,x1,x2,x3,x4,x5,x6,x7,x8,x9,x10,x11,x12,x13,x14,x15,x16,x17,x18,x19,x20,x21,x22=>qai F (q1x F k) x0 x1 x2 x3 x4 x5 x6 x7 x8 x9 x10 x11 x12 x13 x14 x15 x16 x17 x18 x19 x20 x21 x22
def qaj(rec:LI→LI→Int→Int→Int→Int→Int→Int→Int→Int→Int→Int→LI→Int→Int→Int→Int→LI→LI→LI→Int→Option (LI×LI×Int×Int×Int×Int×Int×Int×Int×Int×Int×Int×LI×Int×Int×Int×Int×LI×LI×LI×Unit))(x0:LI)(x1:LI)(x2:Int)(x3:Int)(x4:Int)(x5:Int)(x6:Int)(x7:Int)(x8:Int)(x9:Int)(x10:Int)(x11:Int)(x12:LI)(x13:Int)(x14:Int)(x15:Int)(x16:Int)(x17:LI)(x18:LI)(x19:LI)(x20:Int):Option (LI×LI×Int×Int×Int×Int×Int×Int×Int×Int×Int×Int×LI×Int×Int×Int×Int×LI×LI×LI×Unit):=
 cond (decide (x20<16))
  (cond (x20==0)
   ((q1x F F x0 x1 x2 x3 x4 x5 x6 x7 x8 x9 x10 x11 x12 x13 x14 x15 x16 x17 x18 x19 x20 1 1).bind fun r4686=>
   (q0q F r4686.2.2.2.2.2.2.2.2.2.2.2.2.1 r4686.2.2.2.2.2.2.2.2.2.2.2.2.2.1 (y0 .i64 (r4686.2.2.2.2.2.2.2.2.2.2.1-r4686.2.2.2.2.2.2.2.2.2.2.2.2.2.2.2.2.2.2.2.2.2.1))).bind fun r4690=>
   cond ((decide (0≤r4686.2.2.2.2.2.2.2.2.2.2.2.2.2.2.2.2.2.2.2.2.1))&&(decide (r4686.2.2.2.2.2.2.2.2.2.2.2.2.2.2.2.2.2.2.2.2.1<16)))
    (rec r4686.1 r4686.2.1 r4686.2.2.1 r4686.2.2.2.1 r4686.2.2.2.2.1 r4686.2.2.2.2.2.1 r4686.2.2.2.2.2.2.1 r4686.2.2.2.2.2.2.2.1 r4686.2.2.2.2.2.2.2.2.1 r4686.2.2.2.2.2.2.2.2.2.1 r4686.2.2.2.2.2.2.2.2.2.2.1 r4686.2.2.2.2.2.2.2.2.2.2.2.1 r4690.2.1 r4690.2.2.1 r4686.2.2.2.2.2.2.2.2.2.2.2.2.2.2.1 r4686.2.2.2.2.2.2.2.2.2.2.2.2.2.2.2.1 r4686.2.2.2.2.2.2.2.2.2.2.2.2.2.2.2.2.1 r4686.2.2.2.2.2.2.2.2.2.2.2.2.2.2.2.2.2.1 (yw r4686.2.2.2.2.2.2.2.2.2.2.2.2.2.2.2.2.2.2.1 (y6 r4686.2.2.2.2.2.2.2.2.2.2.2.2.2.2.2.2.2.2.2.2.1) r4690.1) r4686.2.2.2.2.2.2.2.2.2.2.2.2.2.2.2.2.2.2.2.1 (y0 .i64 (r4686.2.2.2.2.2.2.2.2.2.2.2.2.2.2.2.2.2.2.2.2.1+1)))
     none)
   ((q1x F F x0 x1 x2 x3 x4 x5 x6 x7 x8 x9 x10 x11 x12 x13 x14 x15 x16 x17 x18 x19 x20 0 1).bind fun r4703=>
   (q0q F r4703.2.2.2.2.2.2.2.2.2.2.2.2.1 r4703.2.2.2.2.2.2.2.2.2.2.2.2.2.1 (y0 .i64 (r4703.2.2.2.2.2.2.2.2.2.2.1-r4703.2.2.2.2.2.2.2.2.2.2.2.2.2.2.2.2.2.2.2.2.2.1))).bind fun r4707=>
   cond ((decide (0≤r4703.2.2.2.2.2.2.2.2.2.2.2.2.2.2.2.2.2.2.2.2.1))&&(decide (r4703.2.2.2.2.2.2.2.2.2.2.2.2.2.2.2.2.2.2.2.2.1<16)))
    (rec r4703.1 r4703.2.1 r4703.2.2.1 r4703.2.2.2.1 r4703.2.2.2.2.1 r4703.2.2.2.2.2.1 r4703.2.2.2.2.2.2.1 r4703.2.2.2.2.2.2.2.1 r4703.2.2.2.2.2.2.2.2.1 r4703.2.2.2.2.2.2.2.2.2.1 r4703.2.2.2.2.2.2.2.2.2.2.1 r4703.2.2.2.2.2.2.2.2.2.2.2.1 r4707.2.1 r4707.2.2.1 r4703.2.2.2.2.2.2.2.2.2.2.2.2.2.2.1 r4703.2.2.2.2.2.2.2.2.2.2.2.2.2.2.2.1 r4703.2.2.2.2.2.2.2.2.2.2.2.2.2.2.2.2.1 r4703.2.2.2.2.2.2.2.2.2.2.2.2.2.2.2.2.2.1 (yw r4703.2.2.2.2.2.2.2.2.2.2.2.2.2.2.2.2.2.2.1 (y6 r4703.2.2.2.2.2.2.2.2.2.2.2.2.2.2.2.2.2.2.2.2.1) r4707.1) r4703.2.2.2.2.2.2.2.2.2.2.2.2.2.2.2.2.2.2.2.1 (y0 .i64 (r4703.2.2.2.2.2.2.2.2.2.2.2.2.2.2.2.2.2.2.2.2.1+1)))
     none))
  (some (x0,x1,x2,x3,x4,x5,x6,x7,x8,x9,x10,x11,x12,x13,x14,x15,x16,x17,x18,x19,()))
def q1y(F:Nat):Nat→LI→LI→Int→Int→Int→Int→Int→Int→Int→Int→Int→Int→LI→Int→Int→Int→Int→LI→LI→LI→Int→Option (LI×LI×Int×Int×Int×Int×Int×Int×Int×Int×Int×Int×LI×Int×Int×Int×Int×LI×LI×LI×Unit)
 |0,_,_,_,_,_,_,_,_,_,_,_,_,_,_,_,_,_,_,_,_,_=>none
 |k+1,x0,x1,x2,x3,x4,x5,x6,x7,x8,x9,x10,x11,x12,x13,x14,x15,x16,x17,x18,x19,x20=>qaj F (q1y F k) x0 x1 x2 x3 x4 x5 x6 x7 x8 x9 x10 x11 x12 x13 x14 x15 x16 x17 x18 x19 x20
def q71(rec:LI→LI→Int→Int→Int→Int→Int→Int→Int→Int→Int→Int→LI→Int→Int→Int→Int→LI→LI→LI→Int→Option (LI×LI×Int×Int×Int×Int×Int×Int×Int×Int×Int×Int×Int×Int×Int×LI×LI×LI×Unit))(x0:LI)(x1:LI)(x2:Int)(x3:Int)(x4:Int)(x5:Int)(x6:Int)(x7:Int)(x8:Int)(x9:Int)(x10:Int)(x11:Int)(x12:LI)(x13:Int)(x14:Int)(x15:Int)(x16:Int)(x17:LI)(x18:LI)(x19:LI)(x20:Int):Option (LI×LI×Int×Int×Int×Int×Int×Int×Int×Int×Int×Int×Int×Int×Int×LI×LI×LI×Unit):=
 cond (decide (x20<16))
  (cond (decide (0<x11))
   (cond (x20==0)
    ((q0q F x12 x13 (y0 .i64 (x11-1))).bind fun r4741=>
    cond ((decide (0≤x20))&&(decide (x20<16)))
     (rec x0 x1 x2 x3 x4 x5 x6 x7 x8 x9 x10 x11 r4741.2.1 r4741.2.2.1 x14 x15 x16 x17 x18 (yw x19 (y6 x20) r4741.1) (y0 .i64 (x20+1)))
      none)
    ((q0q F x12 x13 (y0 .i64 (x11-0))).bind fun r4748=>
    cond ((decide (0≤x20))&&(decide (x20<16)))
     (rec x0 x1 x2 x3 x4 x5 x6 x7 x8 x9 x10 x11 r4748.2.1 r4748.2.2.1 x14 x15 x16 x17 x18 (yw x19 (y6 x20) r4748.1) (y0 .i64 (x20+1)))
      none))
   (some (x0,x1,x2,x3,x4,x5,x6,x7,x8,x9,x10,x11,x14,x15,x16,x17,x18,x19,())))
  (some (x0,x1,x2,x3,x4,x5,x6,x7,x8,x9,x10,x11,x14,x15,x16,x17,x18,x19,()))
def q10(F:Nat):Nat→LI→LI→Int→Int→Int→Int→Int→Int→Int→Int→Int→Int→LI→Int→Int→Int→Int→LI→LI→LI→Int→Option (LI×LI×Int×Int×Int×Int×Int×Int×Int×Int×Int×Int×Int×Int×Int×LI×LI×LI×Unit)
 |0,_,_,_,_,_,_,_,_,_,_,_,_,_,_,_,_,_,_,_,_,_=>none
 |k+1,x0,x1,x2,x3,x4,x5,x6,x7,x8,x9,x10,x11,x12,x13,x14,x15,x16,x17,x18,x19,x20=>q71 F (q10 F k) x0 x1 x2 x3 x4 x5 x6 x7 x8 x9 x10 x11 x12 x13 x14 x15 x16 x17 x18 x19 x20
def qak(rec:LI→LI→Int→Int→Int→Int→Int→Int→Int→Int→Int→Int→Int→Int→Int→LI→LI→LI→Int→LI→LI→Int→Int→Int→Int→Int→Option (LI×LI×Int×Int×Int×Int×Int×Int×Int×Int×Int×Int×Int×Int×Int×LI×LI×LI×Int×LI×LI×Int×Int×Unit))(x0:LI)(x1:LI)(x2:Int)(x3:Int)(x4:Int)(x5:Int)(x6:Int)(x7:Int)(x8:Int)(x9:Int)(x10:Int)(x11:Int)(x12:Int)(x13:Int)(x14:Int)(x15:LI)(x16:LI)(x17:LI)(x18:Int)(x19:LI)(x20:LI)(x21:Int)(x22:Int)(x23:Int)(x24:Int)(x25:Int):Option (LI×LI×Int×Int×Int×Int×Int×Int×Int×Int×Int×Int×Int×Int×Int×LI×LI×LI×Int×LI×LI×Int×Int×Unit):=
 cond (decide (x25<3))
  (let b4942:Bool:=((decide (0≤x25))&&(decide (x25<4)))
  cond b4942
   (cond b4942
    ((q70 F (y7 x19 (y6 x25) 0) (y7 x20 (y6 x25) 0) x21 x22).bind fun r4946=>
    cond ((decide (0≤x18))&&(decide (x18<16)))
     (cond b4942
      (rec x0 (yw x1 (((y6 x18)*4)+(y6 x25)) r4946.1) x2 x3 x4 x5 x6 x7 x8 x9 x10 x11 x12 x13 x14 x15 x16 x17 x18 x19 x20 x21 x22 x23 x24 (y0 .i64 (x25+1)))
       none)
      none)
     none)
    none)
  (some (x0,x1,x2,x3,x4,x5,x6,x7,x8,x9,x10,x11,x12,x13,x14,x15,x16,x17,x18,x19,x20,x23,x24,()))
def q11(F:Nat):Nat→LI→LI→Int→Int→Int→Int→Int→Int→Int→Int→Int→Int→Int→Int→Int→LI→LI→LI→Int→LI→LI→Int→Int→Int→Int→Int→Option (LI×LI×Int×Int×Int×Int×Int×Int×Int×Int×Int×Int×Int×Int×Int×LI×LI×LI×Int×LI×LI×Int×Int×Unit)
 |0,_,_,_,_,_,_,_,_,_,_,_,_,_,_,_,_,_,_,_,_,_,_,_,_,_,_=>none
 |k+1,x0,x1,x2,x3,x4,x5,x6,x7,x8,x9,x10,x11,x12,x13,x14,x15,x16,x17,x18,x19,x20,x21,x22,x23,x24,x25=>qak F (q11 F k) x0 x1 x2 x3 x4 x5 x6 x7 x8 x9 x10 x11 x12 x13 x14 x15 x16 x17 x18 x19 x20 x21 x22 x23 x24 x25
def qal(rec:LI→LI→Int→Int→Int→Int→Int→Int→Int→Int→Int→Int→Int→Int→Int→LI→LI→LI→Int→Option (LI×LI×Unit))(x0:LI)(x1:LI)(x2:Int)(x3:Int)(x4:Int)(x5:Int)(x6:Int)(x7:Int)(x8:Int)(x9:Int)(x10:Int)(x11:Int)(x12:Int)(x13:Int)(x14:Int)(x15:LI)(x16:LI)(x17:LI)(x18:Int):Option (LI×LI×Unit):=
 let n4911:Nat:=((ya x15)/4)
 cond (decide (x18<16))
  ((qpc F x2 x12 x18).bind fun r4913=>
  let v4914:Int:=(y0 .i64 (2*r4913.1))
  cond ((decide (0≤v4914))&&(decide (v4914<((n4911:Nat):Int))))
   (let l4917:LI:=(y8 4 (y9 ((y6 v4914)*4) x15))
   let v4918:Int:=(y0 .i64 (v4914+1))
   cond ((decide (0≤v4918))&&(decide (v4918<((n4911:Nat):Int))))
    (let l4921:LI:=(y8 4 (y9 ((y6 v4918)*4) x15))
    let b4922:Bool:=((decide (0≤x18))&&(decide (x18<16)))
    cond b4922
     (let v4924:Int:=(y7 x16 (y6 x18) 0)
     cond b4922
      (cond (decide (0<x11))
       (cond b4922
        (let v4926:Int:=(y7 x17 (y6 x18) 0)
        cond (x14==1)
         (cond b4922
          (cond b4922
           ((q11 F F x0 x1 x2 x3 x4 x5 x6 x7 x8 x9 x10 x11 x12 x13 x14 x15 x16 x17 x18 l4917 l4921 v4926 x11 v4924 x10 0).bind fun r4952=>
           (q70 F (y7 r4952.2.2.2.2.2.2.2.2.2.2.2.2.2.2.2.2.2.2.2.1 3 0) (y7 r4952.2.2.2.2.2.2.2.2.2.2.2.2.2.2.2.2.2.2.2.2.1 3 0) r4952.2.2.2.2.2.2.2.2.2.2.2.2.2.2.2.2.2.2.2.2.2.1 r4952.2.2.2.2.2.2.2.2.2.2.2.2.2.2.2.2.2.2.2.2.2.2.1).bind fun r4956=>
           let b4957:Bool:=((decide (0≤r4952.2.2.2.2.2.2.2.2.2.2.2.2.2.2.2.2.2.2.1))&&(decide (r4952.2.2.2.2.2.2.2.2.2.2.2.2.2.2.2.2.2.2.1<16)))
           cond b4957
            (let n4958:Nat:=((y6 r4952.2.2.2.2.2.2.2.2.2.2.2.2.2.2.2.2.2.2.1)*4)
            let n4959:Nat:=(3+n4958)
            let l4960:LI:=(yw r4952.2.1 n4959 r4956.1)
            cond (decide (0<r4952.2.2.2.2.2.2.2.2.2.2.2.2.2.1))
             (cond b4957
              (let v4963:Int:=(y0 .i64 (r4952.2.2.2.2.2.2.2.2.2.2.2.2.2.1-1))
              cond b4957
               (let b4964:Bool:=((decide (0≤v4963))&&(decide (v4963<4)))
               cond b4964
                (let n4965:Nat:=(n4958+(y6 v4963))
                cond b4957
                 (cond b4957
                  (cond b4964
                   (rec r4952.1 (yw (yw l4960 n4959 (y7 l4960 n4965 0)) n4965 (y7 l4960 n4959 0)) r4952.2.2.1 r4952.2.2.2.1 r4952.2.2.2.2.1 r4952.2.2.2.2.2.1 r4952.2.2.2.2.2.2.1 r4952.2.2.2.2.2.2.2.1 r4952.2.2.2.2.2.2.2.2.1 r4952.2.2.2.2.2.2.2.2.2.1 r4952.2.2.2.2.2.2.2.2.2.2.1 r4952.2.2.2.2.2.2.2.2.2.2.2.1 r4952.2.2.2.2.2.2.2.2.2.2.2.2.1 r4952.2.2.2.2.2.2.2.2.2.2.2.2.2.1 r4952.2.2.2.2.2.2.2.2.2.2.2.2.2.2.1 r4952.2.2.2.2.2.2.2.2.2.2.2.2.2.2.2.1 r4952.2.2.2.2.2.2.2.2.2.2.2.2.2.2.2.2.1 r4952.2.2.2.2.2.2.2.2.2.2.2.2.2.2.2.2.2.1 (y0 .i64 (r4952.2.2.2.2.2.2.2.2.2.2.2.2.2.2.2.2.2.2.1+1)))
                    none)
                   none)
                  none)
                 none)
                none)
               none)
             (rec r4952.1 l4960 r4952.2.2.1 r4952.2.2.2.1 r4952.2.2.2.2.1 r4952.2.2.2.2.2.1 r4952.2.2.2.2.2.2.1 r4952.2.2.2.2.2.2.2.1 r4952.2.2.2.2.2.2.2.2.1 r4952.2.2.2.2.2.2.2.2.2.1 r4952.2.2.2.2.2.2.2.2.2.2.1 r4952.2.2.2.2.2.2.2.2.2.2.2.1 r4952.2.2.2.2.2.2.2.2.2.2.2.2.1 r4952.2.2.2.2.2.2.2.2.2.2.2.2.2.1 r4952.2.2.2.2.2.2.2.2.2.2.2.2.2.2.1 r4952.2.2.2.2.2.2.2.2.2.2.2.2.2.2.2.1 r4952.2.2.2.2.2.2.2.2.2.2.2.2.2.2.2.2.1 r4952.2.2.2.2.2.2.2.2.2.2.2.2.2.2.2.2.2.1 (y0 .i64 (r4952.2.2.2.2.2.2.2.2.2.2.2.2.2.2.2.2.2.2.1+1))))
             none)
            none)
           none)
         ((q11 F F x0 x1 x2 x3 x4 x5 x6 x7 x8 x9 x10 x11 x12 x13 x14 x15 x16 x17 x18 l4917 l4921 v4924 x10 v4926 x11 0).bind fun r4983=>
         (q70 F (y7 r4983.2.2.2.2.2.2.2.2.2.2.2.2.2.2.2.2.2.2.2.1 3 0) (y7 r4983.2.2.2.2.2.2.2.2.2.2.2.2.2.2.2.2.2.2.2.2.1 3 0) r4983.2.2.2.2.2.2.2.2.2.2.2.2.2.2.2.2.2.2.2.2.2.1 r4983.2.2.2.2.2.2.2.2.2.2.2.2.2.2.2.2.2.2.2.2.2.2.1).bind fun r4987=>
         let b4988:Bool:=((decide (0≤r4983.2.2.2.2.2.2.2.2.2.2.2.2.2.2.2.2.2.2.1))&&(decide (r4983.2.2.2.2.2.2.2.2.2.2.2.2.2.2.2.2.2.2.1<16)))
         cond b4988
          (let n4989:Nat:=((y6 r4983.2.2.2.2.2.2.2.2.2.2.2.2.2.2.2.2.2.2.1)*4)
          let n4990:Nat:=(3+n4989)
          let l4991:LI:=(yw r4983.2.1 n4990 r4987.1)
          cond (decide (0<r4983.2.2.2.2.2.2.2.2.2.2.2.2.2.1))
           (cond b4988
            (let v4994:Int:=(y0 .i64 (r4983.2.2.2.2.2.2.2.2.2.2.2.2.2.1-1))
            cond b4988
             (let b4995:Bool:=((decide (0≤v4994))&&(decide (v4994<4)))
             cond b4995
              (let n4996:Nat:=(n4989+(y6 v4994))
              cond b4988
               (cond b4988
                (cond b4995
                 (rec r4983.1 (yw (yw l4991 n4990 (y7 l4991 n4996 0)) n4996 (y7 l4991 n4990 0)) r4983.2.2.1 r4983.2.2.2.1 r4983.2.2.2.2.1 r4983.2.2.2.2.2.1 r4983.2.2.2.2.2.2.1 r4983.2.2.2.2.2.2.2.1 r4983.2.2.2.2.2.2.2.2.1 r4983.2.2.2.2.2.2.2.2.2.1 r4983.2.2.2.2.2.2.2.2.2.2.1 r4983.2.2.2.2.2.2.2.2.2.2.2.1 r4983.2.2.2.2.2.2.2.2.2.2.2.2.1 r4983.2.2.2.2.2.2.2.2.2.2.2.2.2.1 r4983.2.2.2.2.2.2.2.2.2.2.2.2.2.2.1 r4983.2.2.2.2.2.2.2.2.2.2.2.2.2.2.2.1 r4983.2.2.2.2.2.2.2.2.2.2.2.2.2.2.2.2.1 r4983.2.2.2.2.2.2.2.2.2.2.2.2.2.2.2.2.2.1 (y0 .i64 (r4983.2.2.2.2.2.2.2.2.2.2.2.2.2.2.2.2.2.2.1+1)))
                  none)
                 none)
                none)
               none)
              none)
             none)
           (rec r4983.1 l4991 r4983.2.2.1 r4983.2.2.2.1 r4983.2.2.2.2.1 r4983.2.2.2.2.2.1 r4983.2.2.2.2.2.2.1 r4983.2.2.2.2.2.2.2.1 r4983.2.2.2.2.2.2.2.2.1 r4983.2.2.2.2.2.2.2.2.2.1 r4983.2.2.2.2.2.2.2.2.2.2.1 r4983.2.2.2.2.2.2.2.2.2.2.2.1 r4983.2.2.2.2.2.2.2.2.2.2.2.2.1 r4983.2.2.2.2.2.2.2.2.2.2.2.2.2.1 r4983.2.2.2.2.2.2.2.2.2.2.2.2.2.2.1 r4983.2.2.2.2.2.2.2.2.2.2.2.2.2.2.2.1 r4983.2.2.2.2.2.2.2.2.2.2.2.2.2.2.2.2.1 r4983.2.2.2.2.2.2.2.2.2.2.2.2.2.2.2.2.2.1 (y0 .i64 (r4983.2.2.2.2.2.2.2.2.2.2.2.2.2.2.2.2.2.2.1+1))))
           none))
         none)
       (cond (x14==1)
        (cond b4922
         (cond b4922
          ((q11 F F x0 x1 x2 x3 x4 x5 x6 x7 x8 x9 x10 x11 x12 x13 x14 x15 x16 x17 x18 l4917 l4921 (y7 x17 (y6 x18) 0) x11 v4924 x10 0).bind fun r5016=>
          (q70 F (y7 r5016.2.2.2.2.2.2.2.2.2.2.2.2.2.2.2.2.2.2.2.1 3 0) (y7 r5016.2.2.2.2.2.2.2.2.2.2.2.2.2.2.2.2.2.2.2.2.1 3 0) r5016.2.2.2.2.2.2.2.2.2.2.2.2.2.2.2.2.2.2.2.2.2.1 r5016.2.2.2.2.2.2.2.2.2.2.2.2.2.2.2.2.2.2.2.2.2.2.1).bind fun r5020=>
          let b5021:Bool:=((decide (0≤r5016.2.2.2.2.2.2.2.2.2.2.2.2.2.2.2.2.2.2.1))&&(decide (r5016.2.2.2.2.2.2.2.2.2.2.2.2.2.2.2.2.2.2.1<16)))
          cond b5021
           (let n5022:Nat:=((y6 r5016.2.2.2.2.2.2.2.2.2.2.2.2.2.2.2.2.2.2.1)*4)
           let n5023:Nat:=(3+n5022)
           let l5024:LI:=(yw r5016.2.1 n5023 r5020.1)
           cond (decide (0<r5016.2.2.2.2.2.2.2.2.2.2.2.2.2.1))
            (cond b5021
             (let v5027:Int:=(y0 .i64 (r5016.2.2.2.2.2.2.2.2.2.2.2.2.2.1-1))
             cond b5021
              (let b5028:Bool:=((decide (0≤v5027))&&(decide (v5027<4)))
              cond b5028
               (let n5029:Nat:=(n5022+(y6 v5027))
               cond b5021
                (cond b5021
                 (cond b5028
                  (rec r5016.1 (yw (yw l5024 n5023 (y7 l5024 n5029 0)) n5029 (y7 l5024 n5023 0)) r5016.2.2.1 r5016.2.2.2.1 r5016.2.2.2.2.1 r5016.2.2.2.2.2.1 r5016.2.2.2.2.2.2.1 r5016.2.2.2.2.2.2.2.1 r5016.2.2.2.2.2.2.2.2.1 r5016.2.2.2.2.2.2.2.2.2.1 r5016.2.2.2.2.2.2.2.2.2.2.1 r5016.2.2.2.2.2.2.2.2.2.2.2.1 r5016.2.2.2.2.2.2.2.2.2.2.2.2.1 r5016.2.2.2.2.2.2.2.2.2.2.2.2.2.1 r5016.2.2.2.2.2.2.2.2.2.2.2.2.2.2.1 r5016.2.2.2.2.2.2.2.2.2.2.2.2.2.2.2.1 r5016.2.2.2.2.2.2.2.2.2.2.2.2.2.2.2.2.1 r5016.2.2.2.2.2.2.2.2.2.2.2.2.2.2.2.2.2.1 (y0 .i64 (r5016.2.2.2.2.2.2.2.2.2.2.2.2.2.2.2.2.2.2.1+1)))
                   none)
                  none)
                 none)
                none)
               none)
              none)
            (rec r5016.1 l5024 r5016.2.2.1 r5016.2.2.2.1 r5016.2.2.2.2.1 r5016.2.2.2.2.2.1 r5016.2.2.2.2.2.2.1 r5016.2.2.2.2.2.2.2.1 r5016.2.2.2.2.2.2.2.2.1 r5016.2.2.2.2.2.2.2.2.2.1 r5016.2.2.2.2.2.2.2.2.2.2.1 r5016.2.2.2.2.2.2.2.2.2.2.2.1 r5016.2.2.2.2.2.2.2.2.2.2.2.2.1 r5016.2.2.2.2.2.2.2.2.2.2.2.2.2.1 r5016.2.2.2.2.2.2.2.2.2.2.2.2.2.2.1 r5016.2.2.2.2.2.2.2.2.2.2.2.2.2.2.2.1 r5016.2.2.2.2.2.2.2.2.2.2.2.2.2.2.2.2.1 r5016.2.2.2.2.2.2.2.2.2.2.2.2.2.2.2.2.2.1 (y0 .i64 (r5016.2.2.2.2.2.2.2.2.2.2.2.2.2.2.2.2.2.2.1+1))))
            none)
           none)
          none)
        ((q11 F F x0 x1 x2 x3 x4 x5 x6 x7 x8 x9 x10 x11 x12 x13 x14 x15 x16 x17 x18 l4917 l4921 v4924 x10 v4924 x10 0).bind fun r5047=>
        (q70 F (y7 r5047.2.2.2.2.2.2.2.2.2.2.2.2.2.2.2.2.2.2.2.1 3 0) (y7 r5047.2.2.2.2.2.2.2.2.2.2.2.2.2.2.2.2.2.2.2.2.1 3 0) r5047.2.2.2.2.2.2.2.2.2.2.2.2.2.2.2.2.2.2.2.2.2.1 r5047.2.2.2.2.2.2.2.2.2.2.2.2.2.2.2.2.2.2.2.2.2.2.1).bind fun r5051=>
        let b5052:Bool:=((decide (0≤r5047.2.2.2.2.2.2.2.2.2.2.2.2.2.2.2.2.2.2.1))&&(decide (r5047.2.2.2.2.2.2.2.2.2.2.2.2.2.2.2.2.2.2.1<16)))
        cond b5052
         (let n5053:Nat:=((y6 r5047.2.2.2.2.2.2.2.2.2.2.2.2.2.2.2.2.2.2.1)*4)
         let n5054:Nat:=(3+n5053)
         let l5055:LI:=(yw r5047.2.1 n5054 r5051.1)
         cond (decide (0<r5047.2.2.2.2.2.2.2.2.2.2.2.2.2.1))
          (cond b5052
           (let v5058:Int:=(y0 .i64 (r5047.2.2.2.2.2.2.2.2.2.2.2.2.2.1-1))
           cond b5052
            (let b5059:Bool:=((decide (0≤v5058))&&(decide (v5058<4)))
            cond b5059
             (let n5060:Nat:=(n5053+(y6 v5058))
             cond b5052
              (cond b5052
               (cond b5059
                (rec r5047.1 (yw (yw l5055 n5054 (y7 l5055 n5060 0)) n5060 (y7 l5055 n5054 0)) r5047.2.2.1 r5047.2.2.2.1 r5047.2.2.2.2.1 r5047.2.2.2.2.2.1 r5047.2.2.2.2.2.2.1 r5047.2.2.2.2.2.2.2.1 r5047.2.2.2.2.2.2.2.2.1 r5047.2.2.2.2.2.2.2.2.2.1 r5047.2.2.2.2.2.2.2.2.2.2.1 r5047.2.2.2.2.2.2.2.2.2.2.2.1 r5047.2.2.2.2.2.2.2.2.2.2.2.2.1 r5047.2.2.2.2.2.2.2.2.2.2.2.2.2.1 r5047.2.2.2.2.2.2.2.2.2.2.2.2.2.2.1 r5047.2.2.2.2.2.2.2.2.2.2.2.2.2.2.2.1 r5047.2.2.2.2.2.2.2.2.2.2.2.2.2.2.2.2.1 r5047.2.2.2.2.2.2.2.2.2.2.2.2.2.2.2.2.2.1 (y0 .i64 (r5047.2.2.2.2.2.2.2.2.2.2.2.2.2.2.2.2.2.2.1+1)))
                 none)
                none)
               none)
              none)
             none)
            none)
          (rec r5047.1 l5055 r5047.2.2.1 r5047.2.2.2.1 r5047.2.2.2.2.1 r5047.2.2.2.2.2.1 r5047.2.2.2.2.2.2.1 r5047.2.2.2.2.2.2.2.1 r5047.2.2.2.2.2.2.2.2.1 r5047.2.2.2.2.2.2.2.2.2.1 r5047.2.2.2.2.2.2.2.2.2.2.1 r5047.2.2.2.2.2.2.2.2.2.2.2.1 r5047.2.2.2.2.2.2.2.2.2.2.2.2.1 r5047.2.2.2.2.2.2.2.2.2.2.2.2.2.1 r5047.2.2.2.2.2.2.2.2.2.2.2.2.2.2.1 r5047.2.2.2.2.2.2.2.2.2.2.2.2.2.2.2.1 r5047.2.2.2.2.2.2.2.2.2.2.2.2.2.2.2.2.1 r5047.2.2.2.2.2.2.2.2.2.2.2.2.2.2.2.2.2.1 (y0 .i64 (r5047.2.2.2.2.2.2.2.2.2.2.2.2.2.2.2.2.2.2.1+1))))
          none)))
       none)
      none)
     none)
    none)
  (some (x0,x1,()))
def q1z(F:Nat):Nat→LI→LI→Int→Int→Int→Int→Int→Int→Int→Int→Int→Int→Int→Int→Int→LI→LI→LI→Int→Option (LI×LI×Unit)
 |0,_,_,_,_,_,_,_,_,_,_,_,_,_,_,_,_,_,_,_=>none
 |k+1,x0,x1,x2,x3,x4,x5,x6,x7,x8,x9,x10,x11,x12,x13,x14,x15,x16,x17,x18=>qal F (q1z F k) x0 x1 x2 x3 x4 x5 x6 x7 x8 x9 x10 x11 x12 x13 x14 x15 x16 x17 x18
def qhe(a0:LI):Option (LI×Int×Unit):=
 cond ((((ya a0):Nat):Int) !=16)
  (some (q00,1,()))
  ((z06 F a0).bind fun r4227=>
  cond (r4227.1==8)
   (some (q00,0,()))
   ((z3s F).bind fun r4229=>
   let n4230:Nat:=((ya r4229.1)/10)
   cond ((decide (0≤r4227.1))&&(decide (r4227.1<((n4230:Nat):Int))))
    (let l4233:LI:=(y8 10 (y9 ((y6 r4227.1)*10) r4229.1))
    let v4234:Int:=(y7 l4233 0 0)
    let v4235:Int:=(y7 l4233 1 0)
    let v4236:Int:=(y7 l4233 2 0)
    let v4237:Int:=(y7 l4233 3 0)
    (q0q F a0 (y0 .i64 (r4227.1+1)) v4235).bind fun r4245=>
    (q0q F r4245.2.1 r4245.2.2.1 v4236).bind fun r4247=>
    (q0q F r4247.2.1 r4247.2.2.1 v4237).bind fun r4249=>
    let v4251:Int:=(y0 .i64 (2*v4234))
    cond ((decide (0≤v4251))&&((decide (v4251≤1099511627776))&&(decide (v4251=v4251))))
     ((q2p F F q00 q00 v4234 v4235 v4236 v4237 (y7 l4233 4 0) (y7 l4233 5 0) (y7 l4233 6 0) (y7 l4233 7 0) (y7 l4233 8 0) (y7 l4233 9 0) r4249.2.1 r4249.2.2.1 r4245.1 r4247.1 r4249.1 (yx ((y6 v4251)*4) 0) 0).bind fun r4351=>
     cond (r4351.2.2.2.2.2.2.2.2.1==1)
      ((q56 F F r4351.1 r4351.2.1 r4351.2.2.1 r4351.2.2.2.1 r4351.2.2.2.2.1 r4351.2.2.2.2.2.1 r4351.2.2.2.2.2.2.1 r4351.2.2.2.2.2.2.2.1 r4351.2.2.2.2.2.2.2.2.1 r4351.2.2.2.2.2.2.2.2.2.1 r4351.2.2.2.2.2.2.2.2.2.2.1 r4351.2.2.2.2.2.2.2.2.2.2.2.1 r4351.2.2.2.2.2.2.2.2.2.2.2.2.1 r4351.2.2.2.2.2.2.2.2.2.2.2.2.2.1 r4351.2.2.2.2.2.2.2.2.2.2.2.2.2.2.1 r4351.2.2.2.2.2.2.2.2.2.2.2.2.2.2.2.1 r4351.2.2.2.2.2.2.2.2.2.2.2.2.2.2.2.2.1 r4351.2.2.2.2.2.2.2.2.2.2.2.2.2.2.2.2.2.1 0).bind fun r4423=>
      cond (r4423.2.2.2.2.2.2.2.2.2.1==1)
       ((q3r F F r4423.1 r4423.2.1 r4423.2.2.1 r4423.2.2.2.1 r4423.2.2.2.2.1 r4423.2.2.2.2.2.1 r4423.2.2.2.2.2.2.1 r4423.2.2.2.2.2.2.2.1 r4423.2.2.2.2.2.2.2.2.1 r4423.2.2.2.2.2.2.2.2.2.1 r4423.2.2.2.2.2.2.2.2.2.2.1 r4423.2.2.2.2.2.2.2.2.2.2.2.1 r4423.2.2.2.2.2.2.2.2.2.2.2.2.1 r4423.2.2.2.2.2.2.2.2.2.2.2.2.2.1 r4423.2.2.2.2.2.2.2.2.2.2.2.2.2.2.1 r4423.2.2.2.2.2.2.2.2.2.2.2.2.2.2.2.1 r4423.2.2.2.2.2.2.2.2.2.2.2.2.2.2.2.2.1 r4423.2.2.2.2.2.2.2.2.2.2.2.2.2.2.2.2.2.1 0).bind fun r4527=>
       (q1w F F r4527.1 r4527.2.1 r4527.2.2.1 r4527.2.2.2.1 r4527.2.2.2.2.1 r4527.2.2.2.2.2.1 r4527.2.2.2.2.2.2.1 r4527.2.2.2.2.2.2.2.1 r4527.2.2.2.2.2.2.2.2.1 r4527.2.2.2.2.2.2.2.2.2.1 r4527.2.2.2.2.2.2.2.2.2.2.1 r4527.2.2.2.2.2.2.2.2.2.2.2.1 r4527.2.2.2.2.2.2.2.2.2.2.2.2.1 r4527.2.2.2.2.2.2.2.2.2.2.2.2.2.1 r4527.2.2.2.2.2.2.2.2.2.2.2.2.2.2.1 r4527.2.2.2.2.2.2.2.2.2.2.2.2.2.2.2.1 r4527.2.2.2.2.2.2.2.2.2.2.2.2.2.2.2.2.1 r4527.2.2.2.2.2.2.2.2.2.2.2.2.2.2.2.2.2.1 1 0).bind fun r4620=>
       (q1y F F r4620.1 r4620.2.1 r4620.2.2.1 r4620.2.2.2.1 r4620.2.2.2.2.1 r4620.2.2.2.2.2.1 r4620.2.2.2.2.2.2.1 r4620.2.2.2.2.2.2.2.1 r4620.2.2.2.2.2.2.2.2.1 r4620.2.2.2.2.2.2.2.2.2.1 r4620.2.2.2.2.2.2.2.2.2.2.1 r4620.2.2.2.2.2.2.2.2.2.2.2.1 r4620.2.2.2.2.2.2.2.2.2.2.2.2.1 r4620.2.2.2.2.2.2.2.2.2.2.2.2.2.1 r4620.2.2.2.2.2.2.2.2.2.2.2.2.2.2.1 r4620.2.2.2.2.2.2.2.2.2.2.2.2.2.2.2.1 r4620.2.2.2.2.2.2.2.2.2.2.2.2.2.2.2.2.1 r4620.2.2.2.2.2.2.2.2.2.2.2.2.2.2.2.2.2.1 q06 q06 0).bind fun r4713=>
       (q10 F F r4713.1 r4713.2.1 r4713.2.2.1 r4713.2.2.2.1 r4713.2.2.2.2.1 r4713.2.2.2.2.2.1 r4713.2.2.2.2.2.2.1 r4713.2.2.2.2.2.2.2.1 r4713.2.2.2.2.2.2.2.2.1 r4713.2.2.2.2.2.2.2.2.2.1 r4713.2.2.2.2.2.2.2.2.2.2.1 r4713.2.2.2.2.2.2.2.2.2.2.2.1 r4713.2.2.2.2.2.2.2.2.2.2.2.2.1 r4713.2.2.2.2.2.2.2.2.2.2.2.2.2.1 r4713.2.2.2.2.2.2.2.2.2.2.2.2.2.2.1 r4713.2.2.2.2.2.2.2.2.2.2.2.2.2.2.2.1 r4713.2.2.2.2.2.2.2.2.2.2.2.2.2.2.2.2.1 r4713.2.2.2.2.2.2.2.2.2.2.2.2.2.2.2.2.2.1 r4713.2.2.2.2.2.2.2.2.2.2.2.2.2.2.2.2.2.2.1 r4713.2.2.2.2.2.2.2.2.2.2.2.2.2.2.2.2.2.2.2.1 0).bind fun r4754=>
       (q1z F F r4754.1 r4754.2.1 r4754.2.2.1 r4754.2.2.2.1 r4754.2.2.2.2.1 r4754.2.2.2.2.2.1 r4754.2.2.2.2.2.2.1 r4754.2.2.2.2.2.2.2.1 r4754.2.2.2.2.2.2.2.2.1 r4754.2.2.2.2.2.2.2.2.2.1 r4754.2.2.2.2.2.2.2.2.2.2.1 r4754.2.2.2.2.2.2.2.2.2.2.2.1 r4754.2.2.2.2.2.2.2.2.2.2.2.2.1 r4754.2.2.2.2.2.2.2.2.2.2.2.2.2.1 r4754.2.2.2.2.2.2.2.2.2.2.2.2.2.2.1 r4754.2.2.2.2.2.2.2.2.2.2.2.2.2.2.2.1 r4754.2.2.2.2.2.2.2.2.2.2.2.2.2.2.2.2.1 r4754.2.2.2.2.2.2.2.2.2.2.2.2.2.2.2.2.2.1 0).bind fun r5066=>
       some (r5066.2.1,0,()))
       ((q1w F F r4423.1 r4423.2.1 r4423.2.2.1 r4423.2.2.2.1 r4423.2.2.2.2.1 r4423.2.2.2.2.2.1 r4423.2.2.2.2.2.2.1 r4423.2.2.2.2.2.2.2.1 r4423.2.2.2.2.2.2.2.2.1 r4423.2.2.2.2.2.2.2.2.2.1 r4423.2.2.2.2.2.2.2.2.2.2.1 r4423.2.2.2.2.2.2.2.2.2.2.2.1 r4423.2.2.2.2.2.2.2.2.2.2.2.2.1 r4423.2.2.2.2.2.2.2.2.2.2.2.2.2.1 r4423.2.2.2.2.2.2.2.2.2.2.2.2.2.2.1 r4423.2.2.2.2.2.2.2.2.2.2.2.2.2.2.2.1 r4423.2.2.2.2.2.2.2.2.2.2.2.2.2.2.2.2.1 r4423.2.2.2.2.2.2.2.2.2.2.2.2.2.2.2.2.2.1 1 0).bind fun r5100=>
       (q1y F F r5100.1 r5100.2.1 r5100.2.2.1 r5100.2.2.2.1 r5100.2.2.2.2.1 r5100.2.2.2.2.2.1 r5100.2.2.2.2.2.2.1 r5100.2.2.2.2.2.2.2.1 r5100.2.2.2.2.2.2.2.2.1 r5100.2.2.2.2.2.2.2.2.2.1 r5100.2.2.2.2.2.2.2.2.2.2.1 r5100.2.2.2.2.2.2.2.2.2.2.2.1 r5100.2.2.2.2.2.2.2.2.2.2.2.2.1 r5100.2.2.2.2.2.2.2.2.2.2.2.2.2.1 r5100.2.2.2.2.2.2.2.2.2.2.2.2.2.2.1 r5100.2.2.2.2.2.2.2.2.2.2.2.2.2.2.2.1 r5100.2.2.2.2.2.2.2.2.2.2.2.2.2.2.2.2.1 r5100.2.2.2.2.2.2.2.2.2.2.2.2.2.2.2.2.2.1 q06 q06 0).bind fun r5141=>
       (q10 F F r5141.1 r5141.2.1 r5141.2.2.1 r5141.2.2.2.1 r5141.2.2.2.2.1 r5141.2.2.2.2.2.1 r5141.2.2.2.2.2.2.1 r5141.2.2.2.2.2.2.2.1 r5141.2.2.2.2.2.2.2.2.1 r5141.2.2.2.2.2.2.2.2.2.1 r5141.2.2.2.2.2.2.2.2.2.2.1 r5141.2.2.2.2.2.2.2.2.2.2.2.1 r5141.2.2.2.2.2.2.2.2.2.2.2.2.1 r5141.2.2.2.2.2.2.2.2.2.2.2.2.2.1 r5141.2.2.2.2.2.2.2.2.2.2.2.2.2.2.1 r5141.2.2.2.2.2.2.2.2.2.2.2.2.2.2.2.1 r5141.2.2.2.2.2.2.2.2.2.2.2.2.2.2.2.2.1 r5141.2.2.2.2.2.2.2.2.2.2.2.2.2.2.2.2.2.1 r5141.2.2.2.2.2.2.2.2.2.2.2.2.2.2.2.2.2.2.1 r5141.2.2.2.2.2.2.2.2.2.2.2.2.2.2.2.2.2.2.2.1 0).bind fun r5163=>
       (q1z F F r5163.1 r5163.2.1 r5163.2.2.1 r5163.2.2.2.1 r5163.2.2.2.2.1 r5163.2.2.2.2.2.1 r5163.2.2.2.2.2.2.1 r5163.2.2.2.2.2.2.2.1 r5163.2.2.2.2.2.2.2.2.1 r5163.2.2.2.2.2.2.2.2.2.1 r5163.2.2.2.2.2.2.2.2.2.2.1 r5163.2.2.2.2.2.2.2.2.2.2.2.1 r5163.2.2.2.2.2.2.2.2.2.2.2.2.1 r5163.2.2.2.2.2.2.2.2.2.2.2.2.2.1 r5163.2.2.2.2.2.2.2.2.2.2.2.2.2.2.1 r5163.2.2.2.2.2.2.2.2.2.2.2.2.2.2.2.1 r5163.2.2.2.2.2.2.2.2.2.2.2.2.2.2.2.2.1 r5163.2.2.2.2.2.2.2.2.2.2.2.2.2.2.2.2.2.1 0).bind fun r5308=>
       some (r5308.2.1,0,())))
      (cond (r4351.2.2.2.2.2.2.2.2.2.1==1)
       ((q3r F F r4351.1 r4351.2.1 r4351.2.2.1 r4351.2.2.2.1 r4351.2.2.2.2.1 r4351.2.2.2.2.2.1 r4351.2.2.2.2.2.2.1 r4351.2.2.2.2.2.2.2.1 r4351.2.2.2.2.2.2.2.2.1 r4351.2.2.2.2.2.2.2.2.2.1 r4351.2.2.2.2.2.2.2.2.2.2.1 r4351.2.2.2.2.2.2.2.2.2.2.2.1 r4351.2.2.2.2.2.2.2.2.2.2.2.2.1 r4351.2.2.2.2.2.2.2.2.2.2.2.2.2.1 r4351.2.2.2.2.2.2.2.2.2.2.2.2.2.2.1 r4351.2.2.2.2.2.2.2.2.2.2.2.2.2.2.2.1 r4351.2.2.2.2.2.2.2.2.2.2.2.2.2.2.2.2.1 r4351.2.2.2.2.2.2.2.2.2.2.2.2.2.2.2.2.2.1 0).bind fun r5340=>
       (q1w F F r5340.1 r5340.2.1 r5340.2.2.1 r5340.2.2.2.1 r5340.2.2.2.2.1 r5340.2.2.2.2.2.1 r5340.2.2.2.2.2.2.1 r5340.2.2.2.2.2.2.2.1 r5340.2.2.2.2.2.2.2.2.1 r5340.2.2.2.2.2.2.2.2.2.1 r5340.2.2.2.2.2.2.2.2.2.2.1 r5340.2.2.2.2.2.2.2.2.2.2.2.1 r5340.2.2.2.2.2.2.2.2.2.2.2.2.1 r5340.2.2.2.2.2.2.2.2.2.2.2.2.2.1 r5340.2.2.2.2.2.2.2.2.2.2.2.2.2.2.1 r5340.2.2.2.2.2.2.2.2.2.2.2.2.2.2.2.1 r5340.2.2.2.2.2.2.2.2.2.2.2.2.2.2.2.2.1 r5340.2.2.2.2.2.2.2.2.2.2.2.2.2.2.2.2.2.1 1 0).bind fun r5376=>
       (q1y F F r5376.1 r5376.2.1 r5376.2.2.1 r5376.2.2.2.1 r5376.2.2.2.2.1 r5376.2.2.2.2.2.1 r5376.2.2.2.2.2.2.1 r5376.2.2.2.2.2.2.2.1 r5376.2.2.2.2.2.2.2.2.1 r5376.2.2.2.2.2.2.2.2.2.1 r5376.2.2.2.2.2.2.2.2.2.2.1 r5376.2.2.2.2.2.2.2.2.2.2.2.1 r5376.2.2.2.2.2.2.2.2.2.2.2.2.1 r5376.2.2.2.2.2.2.2.2.2.2.2.2.2.1 r5376.2.2.2.2.2.2.2.2.2.2.2.2.2.2.1 r5376.2.2.2.2.2.2.2.2.2.2.2.2.2.2.2.1 r5376.2.2.2.2.2.2.2.2.2.2.2.2.2.2.2.2.1 r5376.2.2.2.2.2.2.2.2.2.2.2.2.2.2.2.2.2.1 q06 q06 0).bind fun r5417=>
       (q10 F F r5417.1 r5417.2.1 r5417.2.2.1 r5417.2.2.2.1 r5417.2.2.2.2.1 r5417.2.2.2.2.2.1 r5417.2.2.2.2.2.2.1 r5417.2.2.2.2.2.2.2.1 r5417.2.2.2.2.2.2.2.2.1 r5417.2.2.2.2.2.2.2.2.2.1 r5417.2.2.2.2.2.2.2.2.2.2.1 r5417.2.2.2.2.2.2.2.2.2.2.2.1 r5417.2.2.2.2.2.2.2.2.2.2.2.2.1 r5417.2.2.2.2.2.2.2.2.2.2.2.2.2.1 r5417.2.2.2.2.2.2.2.2.2.2.2.2.2.2.1 r5417.2.2.2.2.2.2.2.2.2.2.2.2.2.2.2.1 r5417.2.2.2.2.2.2.2.2.2.2.2.2.2.2.2.2.1 r5417.2.2.2.2.2.2.2.2.2.2.2.2.2.2.2.2.2.1 r5417.2.2.2.2.2.2.2.2.2.2.2.2.2.2.2.2.2.2.1 r5417.2.2.2.2.2.2.2.2.2.2.2.2.2.2.2.2.2.2.2.1 0).bind fun r5439=>
       (q1z F F r5439.1 r5439.2.1 r5439.2.2.1 r5439.2.2.2.1 r5439.2.2.2.2.1 r5439.2.2.2.2.2.1 r5439.2.2.2.2.2.2.1 r5439.2.2.2.2.2.2.2.1 r5439.2.2.2.2.2.2.2.2.1 r5439.2.2.2.2.2.2.2.2.2.1 r5439.2.2.2.2.2.2.2.2.2.2.1 r5439.2.2.2.2.2.2.2.2.2.2.2.1 r5439.2.2.2.2.2.2.2.2.2.2.2.2.1 r5439.2.2.2.2.2.2.2.2.2.2.2.2.2.1 r5439.2.2.2.2.2.2.2.2.2.2.2.2.2.2.1 r5439.2.2.2.2.2.2.2.2.2.2.2.2.2.2.2.1 r5439.2.2.2.2.2.2.2.2.2.2.2.2.2.2.2.2.1 r5439.2.2.2.2.2.2.2.2.2.2.2.2.2.2.2.2.2.1 0).bind fun r5584=>
       some (r5584.2.1,0,()))
       ((q1w F F r4351.1 r4351.2.1 r4351.2.2.1 r4351.2.2.2.1 r4351.2.2.2.2.1 r4351.2.2.2.2.2.1 r4351.2.2.2.2.2.2.1 r4351.2.2.2.2.2.2.2.1 r4351.2.2.2.2.2.2.2.2.1 r4351.2.2.2.2.2.2.2.2.2.1 r4351.2.2.2.2.2.2.2.2.2.2.1 r4351.2.2.2.2.2.2.2.2.2.2.2.1 r4351.2.2.2.2.2.2.2.2.2.2.2.2.1 r4351.2.2.2.2.2.2.2.2.2.2.2.2.2.1 r4351.2.2.2.2.2.2.2.2.2.2.2.2.2.2.1 r4351.2.2.2.2.2.2.2.2.2.2.2.2.2.2.2.1 r4351.2.2.2.2.2.2.2.2.2.2.2.2.2.2.2.2.1 r4351.2.2.2.2.2.2.2.2.2.2.2.2.2.2.2.2.2.1 0 0).bind fun r5618=>
       (q1y F F r5618.1 r5618.2.1 r5618.2.2.1 r5618.2.2.2.1 r5618.2.2.2.2.1 r5618.2.2.2.2.2.1 r5618.2.2.2.2.2.2.1 r5618.2.2.2.2.2.2.2.1 r5618.2.2.2.2.2.2.2.2.1 r5618.2.2.2.2.2.2.2.2.2.1 r5618.2.2.2.2.2.2.2.2.2.2.1 r5618.2.2.2.2.2.2.2.2.2.2.2.1 r5618.2.2.2.2.2.2.2.2.2.2.2.2.1 r5618.2.2.2.2.2.2.2.2.2.2.2.2.2.1 r5618.2.2.2.2.2.2.2.2.2.2.2.2.2.2.1 r5618.2.2.2.2.2.2.2.2.2.2.2.2.2.2.2.1 r5618.2.2.2.2.2.2.2.2.2.2.2.2.2.2.2.2.1 r5618.2.2.2.2.2.2.2.2.2.2.2.2.2.2.2.2.2.1 q06 q06 0).bind fun r5659=>
       (q10 F F r5659.1 r5659.2.1 r5659.2.2.1 r5659.2.2.2.1 r5659.2.2.2.2.1 r5659.2.2.2.2.2.1 r5659.2.2.2.2.2.2.1 r5659.2.2.2.2.2.2.2.1 r5659.2.2.2.2.2.2.2.2.1 r5659.2.2.2.2.2.2.2.2.2.1 r5659.2.2.2.2.2.2.2.2.2.2.1 r5659.2.2.2.2.2.2.2.2.2.2.2.1 r5659.2.2.2.2.2.2.2.2.2.2.2.2.1 r5659.2.2.2.2.2.2.2.2.2.2.2.2.2.1 r5659.2.2.2.2.2.2.2.2.2.2.2.2.2.2.1 r5659.2.2.2.2.2.2.2.2.2.2.2.2.2.2.2.1 r5659.2.2.2.2.2.2.2.2.2.2.2.2.2.2.2.2.1 r5659.2.2.2.2.2.2.2.2.2.2.2.2.2.2.2.2.2.1 r5659.2.2.2.2.2.2.2.2.2.2.2.2.2.2.2.2.2.2.1 r5659.2.2.2.2.2.2.2.2.2.2.2.2.2.2.2.2.2.2.2.1 0).bind fun r5681=>
       (q1z F F r5681.1 r5681.2.1 r5681.2.2.1 r5681.2.2.2.1 r5681.2.2.2.2.1 r5681.2.2.2.2.2.1 r5681.2.2.2.2.2.2.1 r5681.2.2.2.2.2.2.2.1 r5681.2.2.2.2.2.2.2.2.1 r5681.2.2.2.2.2.2.2.2.2.1 r5681.2.2.2.2.2.2.2.2.2.2.1 r5681.2.2.2.2.2.2.2.2.2.2.2.1 r5681.2.2.2.2.2.2.2.2.2.2.2.2.1 r5681.2.2.2.2.2.2.2.2.2.2.2.2.2.1 r5681.2.2.2.2.2.2.2.2.2.2.2.2.2.2.1 r5681.2.2.2.2.2.2.2.2.2.2.2.2.2.2.2.1 r5681.2.2.2.2.2.2.2.2.2.2.2.2.2.2.2.2.1 r5681.2.2.2.2.2.2.2.2.2.2.2.2.2.2.2.2.2.1 0).bind fun r5826=>
       some (r5826.2.1,0,()))))
      none)
     none))
def ref09_SixT5836:LI:=[64,0,0,0,0,0,0,0,0,0,0,0,0,0,0,0]
def qjf(rec:LI→LI→LI→LI→Int→Int→Int→Option (Unit⊕(LI×LI×LI×LI×Int×Int×Unit)))(x0:LI)(x1:LI)(x2:LI)(x3:LI)(x4:Int)(x5:Int)(x6:Int):Option (Unit⊕(LI×LI×LI×LI×Int×Int×Unit)):=
 cond (decide (x6<2))
  (let b6738:Bool:=((decide (0≤x6))&&(decide (x6<2)))
  cond b6738
   (let b6740:Bool:=((decide (0≤x5))&&(decide (x5<4)))
   cond b6740
    (let v6742:Int:=(y7 x0 (((y6 x6)*4)+(y6 x5)) 0)
    cond (decide (v6742<0))
     (some (.inl ()))
     (cond b6738
      (cond b6740
       (cond (decide (127<v6742))
        (some (.inl ()))
        (cond b6738
         (cond b6740
          ((q34 F x3 x4 7 false (y0 .u64 v6742)).bind fun r6746=>
          rec x0 x1 x2 r6746.1 (y0 .i64 (x4+7)) x5 (y0 .i64 (x6+1)))
           none)
          none))
        none)
       none))
     none)
    none)
  (some (.inr (x0,x1,x2,x3,x4,x5,())))
def q7a(F:Nat):Nat→LI→LI→LI→LI→Int→Int→Int→Option (Unit⊕(LI×LI×LI×LI×Int×Int×Unit))
 |0,_,_,_,_,_,_,_=>none
 |k+1,x0,x1,x2,x3,x4,x5,x6=>qjf F (q7a F k) x0 x1 x2 x3 x4 x5 x6
def qjg(rec:LI→LI→LI→LI→Int→Int→Option (Unit⊕(LI×LI×LI×Int×Unit)))(x0:LI)(x1:LI)(x2:LI)(x3:LI)(x4:Int)(x5:Int):Option (Unit⊕(LI×LI×LI×Int×Unit)):=
 cond (decide (x5<4))
  ((q7a F F x0 x1 x2 x3 x4 x5 0).bind fun r6750=>match r6750 with
   | .inl r6750=>(some (.inl ()))
   | .inr r6750=>(rec r6750.1 r6750.2.1 r6750.2.2.1 r6750.2.2.2.1 r6750.2.2.2.2.1 (y0 .i64 (r6750.2.2.2.2.2.1+1))))
  (some (.inr (x1,x2,x3,x4,())))
def q7b(F:Nat):Nat→LI→LI→LI→LI→Int→Int→Option (Unit⊕(LI×LI×LI×Int×Unit))
 |0,_,_,_,_,_,_=>none
 |k+1,x0,x1,x2,x3,x4,x5=>qjg F (q7b F k) x0 x1 x2 x3 x4 x5
def qjh(rec:LI→LI→LI→Int→Int→Option (Unit⊕(LI×LI×Int×Unit)))(x0:LI)(x1:LI)(x2:LI)(x3:Int)(x4:Int):Option (Unit⊕(LI×LI×Int×Unit)):=
 cond (decide (x4<2))
  (let b6777:Bool:=((decide (0≤x4))&&(decide (x4<2)))
  cond b6777
   (let v6779:Int:=(y7 x0 (y6 x4) 0)
   cond (decide (v6779<0))
    (some (.inl ()))
    (cond b6777
     (cond (decide (1<v6779))
      (some (.inl ()))
      (cond b6777
       ((q34 F x2 x3 1 false (y0 .u64 v6779)).bind fun r6783=>
       rec x0 x1 r6783.1 (y0 .i64 (x3+1)) (y0 .i64 (x4+1)))
        none))
      none))
    none)
  (some (.inr (x1,x2,x3,())))
def q7c(F:Nat):Nat→LI→LI→LI→Int→Int→Option (Unit⊕(LI×LI×Int×Unit))
 |0,_,_,_,_,_=>none
 |k+1,x0,x1,x2,x3,x4=>qjh F (q7c F k) x0 x1 x2 x3 x4
def qji(rec:LI→LI→Int→Int→Option (Unit⊕(LI×Unit)))(x0:LI)(x1:LI)(x2:Int)(x3:Int):Option (Unit⊕(LI×Unit)):=
 cond (decide (x3<16))
  (cond (x3==0)
   (let b6823:Bool:=((decide (0≤x3))&&(decide (x3<16)))
   cond b6823
    (let v6825:Int:=(y7 x0 (y6 x3) 0)
    cond (decide (v6825<0))
     (some (.inl ()))
     (cond b6823
      (cond (decide (7<v6825))
       (some (.inl ()))
       (cond b6823
        ((q34 F x1 x2 3 false (y0 .u64 v6825)).bind fun r6829=>
        rec x0 r6829.1 (y0 .i64 (x2+3)) (y0 .i64 (x3+1)))
         none))
       none))
     none)
   (let b6833:Bool:=((decide (0≤x3))&&(decide (x3<16)))
   cond b6833
    (let v6835:Int:=(y7 x0 (y6 x3) 0)
    cond (decide (v6835<0))
     (some (.inl ()))
     (cond b6833
      (cond (decide (15<v6835))
       (some (.inl ()))
       (cond b6833
        ((q34 F x1 x2 4 false (y0 .u64 v6835)).bind fun r6839=>
        rec x0 r6839.1 (y0 .i64 (x2+4)) (y0 .i64 (x3+1)))
         none))
       none))
     none))
  (some (.inr (x1,())))
def q7d(F:Nat):Nat→LI→LI→Int→Int→Option (Unit⊕(LI×Unit))
 |0,_,_,_,_=>none
 |k+1,x0,x1,x2,x3=>qji F (q7d F k) x0 x1 x2 x3
def qx5(a0:LI)(a1:LI)(a2:LI):Option (LI×Int×Unit):=
 (q7b F F a0 a1 a2 ref09_SixT5836 7 0).bind fun r6753=>match r6753 with
  | .inl r6753=>(some ([],1,()))
  | .inr r6753=>((q7c F F r6753.1 r6753.2.1 r6753.2.2.1 r6753.2.2.2.1 0).bind fun r6787=>match r6787 with
    | .inl r6787=>(some ([],1,()))
    | .inr r6787=>((q7d F F r6787.1 r6787.2.1 r6787.2.2.1 0).bind fun r6843=>match r6843 with
      | .inl r6843=>(some ([],1,()))
      | .inr r6843=>(some (r6843.1,0,()))))
def qam:LI:=[0,0,0,0,0,0,0,0]
def qc0(F:Nat)(rec:LI→LI→LI→Int→LI→Int→LI→Int→Option (LI×LI×LI×LI×Int×Unit))(x0:LI)(x1:LI)(x2:LI)(x3:Int)(x4:LI)(x5:Int)(x6:LI)(x7:Int):Option (LI×LI×LI×LI×Int×Unit):=
 cond (decide (x7<4))
  (let b6968:Bool:=((decide (0≤x7))&&(decide (x7<4)))
  cond b6968
   (let b6972:Bool:=((decide (0≤x3))&&(decide (x3<2)))
   cond b6972
    (cond b6972
     (cond b6968
      (rec x0 x1 (yw x2 (((y6 x3)*4)+(y6 x7)) (ior .i64 (ishl .i64 (iand .i64 (y7 x6 (y6 x7) 0) 127) 1) (iand .i64 (y7 x0 (y6 x3) 0) 1))) x3 x4 x5 x6 (y0 .i64 (x7+1)))
       none)
      none)
     none)
    none)
  (some (x0,x1,x2,x4,x5,()))
def q3s(F:Nat):Nat→LI→LI→LI→Int→LI→Int→LI→Int→Option (LI×LI×LI×LI×Int×Unit)
 |0,_,_,_,_,_,_,_,_=>none
 |k+1,x0,x1,x2,x3,x4,x5,x6,x7=>qc0 F (q3s F k) x0 x1 x2 x3 x4 x5 x6 x7
def qc1(rec:LI→LI→LI→LI→Int→Option (LI×LI×Unit))(x0:LI)(x1:LI)(x2:LI)(x3:LI)(x4:Int):Option (LI×LI×Unit):=
 cond (decide (x4<2))
  (cond ((decide (0≤x4))&&(decide (x4<2)))
   ((q3s F F x0 x1 x2 x4 x3 x4 (y8 4 (y9 ((y6 x4)*4) x3)) 0).bind fun r6981=>
   rec r6981.1 r6981.2.1 r6981.2.2.1 r6981.2.2.2.1 (y0 .i64 (r6981.2.2.2.2.1+1)))
    none)
  (some (x1,x2,()))
def q57(F:Nat):Nat→LI→LI→LI→LI→Int→Option (LI×LI×Unit)
 |0,_,_,_,_,_=>none
 |k+1,x0,x1,x2,x3,x4=>qc1 F (q57 F k) x0 x1 x2 x3 x4
def qhf(a0:LI)(a1:LI):Option (LI×Unit):=
 (q57 F F a1 qam qam a0 0).bind fun r6983=>
 some (r6983.2.1,())
def qc2(rec:LI→LI→LI→LI→Int→Int→Int→Option (LI×LI×LI×LI×Int×Unit))(x0:LI)(x1:LI)(x2:LI)(x3:LI)(x4:Int)(x5:Int)(x6:Int):Option (LI×LI×LI×LI×Int×Unit):=
 cond (decide (x6<4))
  (let b7143:Bool:=((decide (0≤x6))&&(decide (x6<4)))
  cond b7143
   (cond b7143
    ((q3a F (y7 x0 (y6 x6) 0) (y7 x1 (y6 x6) 0) x4 4).bind fun r7147=>
    cond ((decide (0≤x4))&&(decide (x4<16)))
     (cond b7143
      (rec x0 x1 x2 (yw x3 (((y6 x4)*4)+(y6 x6)) r7147.1) x4 x5 (y0 .i64 (x6+1)))
       none)
      none)
     none)
    none)
  (some (x0,x1,x2,x3,x5,()))
def q58(F:Nat):Nat→LI→LI→LI→LI→Int→Int→Int→Option (LI×LI×LI×LI×Int×Unit)
 |0,_,_,_,_,_,_,_=>none
 |k+1,x0,x1,x2,x3,x4,x5,x6=>qc2 F (q58 F k) x0 x1 x2 x3 x4 x5 x6
def qc3(rec:LI→LI→LI→LI→Int→Option (LI×LI×Unit))(x0:LI)(x1:LI)(x2:LI)(x3:LI)(x4:Int):Option (LI×LI×Unit):=
 cond (decide (x4<16))
  ((q58 F F x0 x1 x2 x3 x4 x4 0).bind fun r7153=>
  rec r7153.1 r7153.2.1 r7153.2.2.1 r7153.2.2.2.1 (y0 .i64 (r7153.2.2.2.2.1+1)))
  (some (x2,x3,()))
def q59(F:Nat):Nat→LI→LI→LI→LI→Int→Option (LI×LI×Unit)
 |0,_,_,_,_,_=>none
 |k+1,x0,x1,x2,x3,x4=>qc3 F (q59 F k) x0 x1 x2 x3 x4
def qcp(a0:LI)(a1:LI):Option (LI×Unit):=
 (q59 F F a0 a1 q00 q00 0).bind fun r7155=>
 some (r7155.2.1,())
def qo9(rec:LI→LI→LI→LI→Int→Int→Option (LI×LI×LI×LI×Int×Unit))(x0:LI)(x1:LI)(x2:LI)(x3:LI)(x4:Int)(x5:Int):Option (LI×LI×LI×LI×Int×Unit):=
 cond (decide (x5<4))
  (let b7218:Bool:=((decide (0≤x5))&&(decide (x5<4)))
  cond b7218
   (cond b7218
    ((q70 F (y7 x0 (y6 x5) 0) (y7 x1 (y6 x5) 0) x4 4).bind fun r7222=>
    cond ((decide (0≤x4))&&(decide (x4<16)))
     (cond b7218
      (rec x0 x1 x2 (yw x3 (((y6 x4)*4)+(y6 x5)) r7222.1) x4 (y0 .i64 (x5+1)))
       none)
      none)
     none)
    none)
  (some (x0,x1,x2,x3,x4,()))
def qdp(F:Nat):Nat→LI→LI→LI→LI→Int→Int→Option (LI×LI×LI×LI×Int×Unit)
 |0,_,_,_,_,_,_=>none
 |k+1,x0,x1,x2,x3,x4,x5=>qo9 F (qdp F k) x0 x1 x2 x3 x4 x5
def qoa(rec:LI→LI→LI→LI→Int→Option (LI×LI×Unit))(x0:LI)(x1:LI)(x2:LI)(x3:LI)(x4:Int):Option (LI×LI×Unit):=
 cond (decide (x4<16))
  ((qdp F F x0 x1 x2 x3 x4 0).bind fun r7228=>
  rec r7228.1 r7228.2.1 r7228.2.2.1 r7228.2.2.2.1 (y0 .i64 (r7228.2.2.2.2.1+1)))
  (some (x2,x3,()))
def qdq(F:Nat):Nat→LI→LI→LI→LI→Int→Option (LI×LI×Unit)
 |0,_,_,_,_,_=>none
 |k+1,x0,x1,x2,x3,x4=>qoa F (qdq F k) x0 x1 x2 x3 x4
def zta(a0:LI)(a1:LI):Option (LI×Unit):=
 (qdq F F a0 a1 q00 q00 0).bind fun r7230=>
 some (r7230.2.1,())
end
end Go.AE.Gn

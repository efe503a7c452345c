/- A part of the proof, put together of my texts: A12defs, X16defs. -/
import Derived.Test.YtdnccegimipapaaGreatRowEtcfitRedP3
set_option linter.unusedSimpArgs false
set_option linter.unusedVariables false
open Go.IntKind renaming wrap → y0
open Int renaming tmod → yv, tdiv → yw, toNat → y6
open List renaming length → ya, getD → y7, take → y8, drop → y9, set → yx
namespace Go.AE.Gn
open Go Go.AE
def z5e(F:Nat)(a0:Int):Option (Int×Unit):=
 some ((y0 .i64 (16+(y0 .i64 (3*(y0 .i64 ((y0 .i64 (4*(yv a0 4)))+(y0 .i64 (yw a0 4)))))))),())
def eac_JoinT0:LI:=[0,0,0,0,0,0,0,0]
def qqy(F:Nat)(rec:LI→LI→LI→Int→Option (LI×LI×Unit))(x0:LI)(x1:LI)(x2:LI)(x3:Int):Option (LI×LI×Unit):=
 let n25:Nat:=((ya x1)/3)
 cond (decide (x3<16))
  (cond ((decide (0≤x3))&&(decide (x3<16)))
   (let v28:Int:=(y7 x2 (y6 x3) 0)
   (z5e F x3).bind fun r29=>
   cond ((decide ((n25+1)≤1099511627776))&&(if(false=true)then(decide (0<1))else true))
    (rec x0 (x1++[r29.1,3,v28]) x2 (y0 .i64 (x3+1)))
     none)
    none)
  (some (x0,x1,()))
def qe4(F:Nat):Nat→LI→LI→LI→Int→Option (LI×LI×Unit)
 |0,_,_,_,_=>none
 |k+1,x0,x1,x2,x3=>qqy F (qe4 F k) x0 x1 x2 x3
def qf7(F:Nat)(rec:LI→LI→Int→Int→Option (LI×Bool×Unit))(x0:LI)(x1:LI)(x2:Int)(x3:Int):Option (LI×Bool×Unit):=
 let n67:Nat:=((ya x1)/3)
 cond (decide (x3<x2))
  (cond ((decide (0≤x3))&&(decide (x3<((n67:Nat):Int))))
   (let l71:LI:=(y8 3 (y9 ((y6 x3)*3) x1))
   let l72:LI:=(if((0=0)∧(3=3))then l71 else(((y8 0 [0,0,0])++l71)++(y9 3 [0,0,0])))
   (q2p F x0 (y7 l72 0 0) (y7 l72 1 0) (y0 .u64 (y7 l72 2 0))).bind fun r77=>
   cond (r77.2.1 !=0)
    (some (x0,false,()))
    (rec r77.1 x1 x2 (y0 .i64 (x3+1))))
    none)
  (some (x0,true,()))
def q94(F:Nat):Nat→LI→LI→Int→Int→Option (LI×Bool×Unit)
 |0,_,_,_,_=>none
 |k+1,x0,x1,x2,x3=>qf7 F (q94 F k) x0 x1 x2 x3
def qjm(F:Nat)(a0:Int)(a1:Int)(a2:Int)(a3:LI):Option (LI×Int×Unit):=
 (qe4 F F eac_JoinT0 [0,8,a0,8,4,a1,12,4,a2] (if((0=0)∧(16=16))then a3 else(y8 16 (y9 0 a3))) 0).bind fun r34=>
 (q94 F F r34.1 r34.2.1 ((((ya r34.2.1)/3):Nat):Int) 0).bind fun r81=>
 cond (!r81.2.1)
  (some ([],1,()))
  (some (r81.1,0,()))
def q95(F:Nat)(a0:Int)(a1:Int)(a2:LI):Option (Int×Unit):=
 (qc6 F a2 a0 a1).bind fun r85=>
 some ((y0 .i64 r85.1),())
def q7j:LI:=[0,0,0,0,0,0,0,0,0,0,0,0,0,0,0,0]
def q9q(F:Nat)(rec:LI→LI→LI→Int→Option (LI×LI×LI×Unit))(x0:LI)(x1:LI)(x2:LI)(x3:Int):Option (LI×LI×LI×Unit):=
 cond (decide (x3<16))
  ((z5e F x3).bind fun r100=>
  (q95 F r100.1 3 x2).bind fun r101=>
  cond ((decide (0≤x3))&&(decide (x3<16)))
   (rec x0 (yx x1 (y6 x3) r101.1) x2 (y0 .i64 (x3+1)))
    none)
  (some (x0,x1,x2,()))
def q7c(F:Nat):Nat→LI→LI→LI→Int→Option (LI×LI×LI×Unit)
 |0,_,_,_,_=>none
 |k+1,x0,x1,x2,x3=>q9q F (q7c F k) x0 x1 x2 x3
def qxe(F:Nat)(a0:LI):Option (Int×Int×Int×LI×Int×Unit):=
 cond ((((ya a0):Nat):Int) !=8)
  (some (0,0,0,q7j,1,()))
  ((q7c F F q7j q7j a0 0).bind fun r106=>
  (q95 F 0 8 r106.2.2.1).bind fun r108=>
  (q95 F 8 4 r106.2.2.1).bind fun r109=>
  (q95 F 12 4 r106.2.2.1).bind fun r110=>
  some (r108.1,r109.1,r110.1,r106.2.1,0,()))
def zgz:LI:=[-3,-6,-9,-15,2,5,8,14,-3,-7,-10,-13,2,6,9,12,-2,-5,-8,-13,1,4,7,12,-2,-4,-6,-13,1,3,5,12,-3,-6,-8,-12,2,5,7,11,-3,-7,-9,-11,2,6,8,10,-4,-7,-8,-11,3,6,7,10,-3,-5,-8,-11,2,4,7,10,-2,-6,-8,-10,1,5,7,9,-2,-5,-8,-10,1,4,7,9,-2,-4,-8,-10,1,3,7,9,-2,-5,-7,-10,1,4,6,9,-3,-4,-7,-10,2,3,6,9,-1,-2,-3,-10,0,1,2,9,-4,-6,-8,-9,3,5,7,8,-3,-5,-7,-9,2,4,6,8]
def q3y(F:Nat)(a0:Int):Option (LI×Unit):=
 let v118:Int:=(iand .i64 a0 15)
 cond ((decide (0≤v118))&&(decide (v118<16)))
  (let l121:LI:=(y8 8 (y9 ((y6 v118)*8) zgz))
  let l122:LI:=(if((0=0)∧(8=8))then l121 else(((y8 0 eac_JoinT0)++l121)++(y9 8 eac_JoinT0)))
  some ((if((0=0)∧(8=8))then l122 else(y8 8 (y9 0 l122))),()))
   none
def qf8(F:Nat)(a0:Int)(a1:Int)(a2:Int)(a3:Bool):Option (Int×Unit):=
 cond (!a3)
  ((q30 F (y0 .i64 (a0+(y0 .i64 (a2*a1)))) 255).bind fun r129=>
  some (r129.1,()))
  (cond (a1==0)
   ((q30 F (y0 .i64 ((y0 .i64 ((y0 .i64 (8*a0))+4))+a2)) 2047).bind fun r134=>
   some (r134.1,()))
   ((q30 F (y0 .i64 ((y0 .i64 (8*(y0 .i64 (a0+(y0 .i64 (a2*a1))))))+4)) 2047).bind fun r139=>
   some (r139.1,())))
def q89(F:Nat)(rec:Bool→LI→Int→Int→LI→LI→LI→Int→Option (LI×LI×Unit))(x0:Bool)(x1:LI)(x2:Int)(x3:Int)(x4:LI)(x5:LI)(x6:LI)(x7:Int):Option (LI×LI×Unit):=
 cond (decide (x7<16))
  (let b167:Bool:=((decide (0≤x7))&&(decide (x7<16)))
  cond b167
   (let v168:Int:=(y7 x6 (y6 x7) 0)
   cond ((decide (0≤v168))&&(decide (v168<8)))
    ((qf8 F x2 x3 (y7 x5 (y6 v168) 0) x0).bind fun r172=>
    cond b167
     (rec x0 x1 x2 x3 (yx x4 (y6 x7) r172.1) x5 x6 (y0 .i64 (x7+1)))
      none)
     none)
    none)
  (some (x1,x4,()))
def q67(F:Nat):Nat→Bool→LI→Int→Int→LI→LI→LI→Int→Option (LI×LI×Unit)
 |0,_,_,_,_,_,_,_,_=>none
 |k+1,x0,x1,x2,x3,x4,x5,x6,x7=>q89 F (q67 F k) x0 x1 x2 x3 x4 x5 x6 x7
def qhn(F:Nat)(a0:LI)(a1:Bool):Option (LI×Int×Unit):=
 (qxe F a0).bind fun r141=>
 let l142:LI:=(if((0=0)∧(16=16))then r141.2.2.2.1 else(((y8 0 q7j)++r141.2.2.2.1)++(y9 16 q7j)))
 cond (r141.2.2.2.2.1 !=0)
  (let l144:LI:=(if((0=0)∧(16=16))then l142 else(y8 16 (y9 0 l142)))
  let l145:LI:=(if((0=0)∧(16=16))then l144 else(((y8 0 q7j)++l144)++(y9 16 q7j)))
  some ((if((0=0)∧(16=16))then l145 else(y8 16 (y9 0 l145))),r141.2.2.2.2.1,()))
  ((q3y F r141.2.2.1).bind fun r147=>
  (q67 F F a1 q7j r141.1 r141.2.1 l142 (if((0=0)∧(8=8))then r147.1 else(((y8 0 eac_JoinT0)++r147.1)++(y9 8 eac_JoinT0))) (if((0=0)∧(16=16))then l142 else(y8 16 (y9 0 l142))) 0).bind fun r176=>
  let l177:LI:=(if((0=0)∧(16=16))then r176.2.1 else(y8 16 (y9 0 r176.2.1)))
  let l178:LI:=(if((0=0)∧(16=16))then l177 else(((y8 0 r176.1)++l177)++(y9 16 r176.1)))
  some ((if((0=0)∧(16=16))then l178 else(y8 16 (y9 0 l178))),0,()))
def q96(F:Nat)(a0:Int):Option ((Int×Int×Bool×Unit)×Int×Unit):=
 cond (a0==1)
  (some ((8,7,false,()),0,()))
  (cond (a0==7)
   (some ((8,7,false,()),0,()))
   (cond (a0==8)
    (some ((8,7,false,()),0,()))
    (cond (a0==2)
     (some ((16,15,false,()),0,()))
     (cond (a0==3)
      (some ((16,15,false,()),0,()))
      (cond (a0==6)
       (some ((16,15,false,()),0,()))
       (cond (a0==10)
        (some ((16,15,false,()),0,()))
        (cond (a0==9)
         (some ((8,15,false,()),0,()))
         (cond (a0==4)
          (some ((8,1,(a0==11),()),0,()))
          (let b12:Bool:=(a0==11)
          cond b12
           (some ((8,1,b12,()),0,()))
           (cond (a0==5)
            (some ((16,3,(a0==12),()),0,()))
            (let b15:Bool:=(a0==12)
            cond b15
             (some ((16,3,b15,()),0,()))
             (some ((0,0,false,()),5,())))))))))))))
def q60:LI:=[0,0,0,0,0,0,0,0,0,0,0,0,0,0,0,0,0,0,0,0,0,0,0,0,0,0,0,0,0,0,0,0,0,0,0,0,0,0,0,0,0,0,0,0,0,0,0,0,0,0,0,0,0,0,0,0,0,0,0,0,0,0,0,0]
def qqz(F:Nat)(a0:LI)(a1:Int):Option (LI×Unit):=
 some (a0,())
def qce(F:Nat)(rec:Int→LI→LI→LI→Int→Option (LI×LI×Unit))(x0:Int)(x1:LI)(x2:LI)(x3:LI)(x4:Int):Option (LI×LI×Unit):=
 cond (decide (x4<16))
  (let b344:Bool:=((decide (0≤x4))&&(decide (x4<16)))
  cond b344
   (cond b344
    (cond ((decide (0≤x0))&&(decide (x0<4)))
     (rec x0 (yx x1 (((y6 x4)*4)+(y6 x0)) (y7 x3 (y6 x4) 0)) x2 x3 (y0 .i64 (x4+1)))
      none)
     none)
    none)
  (some (x1,x2,()))
def q8a(F:Nat):Nat→Int→LI→LI→LI→Int→Option (LI×LI×Unit)
 |0,_,_,_,_,_=>none
 |k+1,x0,x1,x2,x3,x4=>qce F (q8a F k) x0 x1 x2 x3 x4
def qi3(F:Nat)(a0:LI)(a1:Int)(a2:LI)(a3:Int):Option (LI×Unit):=
 (q8a F F a1 a0 q60 a2 0).bind fun r351=>
 some (r351.1,())
def qoh(F:Nat)(rec:Bool→LI→LI→Int→Option (LI×LI×Unit))(x0:Bool)(x1:LI)(x2:LI)(x3:Int):Option (LI×LI×Unit):=
 cond (decide (x3<16))
  (let b618:Bool:=((decide (0≤x3))&&(decide (x3<16)))
  cond b618
   (let n620:Nat:=(3+((y6 x3)*4))
   let l621:LI:=(yx x2 n620 255)
   cond x0
    (cond b618
     (rec x0 x1 (yx l621 n620 2047) (y0 .i64 (x3+1)))
      none)
    (rec x0 x1 l621 (y0 .i64 (x3+1))))
    none)
  (some (x1,x2,()))
def qcf(F:Nat):Nat→Bool→LI→LI→Int→Option (LI×LI×Unit)
 |0,_,_,_,_=>none
 |k+1,x0,x1,x2,x3=>qoh F (qcf F k) x0 x1 x2 x3
def q97(F:Nat)(a0:Bool):Option (LI×Unit):=
 (qcf F F a0 q60 q60 0).bind fun r625=>
 some (r625.2.1,())
def qat(F:Nat)(rec:LI→LI→Int→Int→LI→Int→Option (LI×LI×Int×Unit))(x0:LI)(x1:LI)(x2:Int)(x3:Int)(x4:LI)(x5:Int):Option (LI×LI×Int×Unit):=
 cond (decide (x5<4))
  (let b3503:Bool:=((decide (0≤x5))&&(decide (x5<4)))
  cond b3503
   (let v3504:Int:=(y7 x4 (y6 x5) 0)
   cond ((decide (0≤x2))&&(decide (x2<16)))
    (cond b3503
     (rec (yx x0 (((y6 x2)*4)+(y6 x5)) (y0 .i64 ((y0 .i64 (8*v3504))+(y0 .i64 (yw v3504 32))))) x1 x2 x3 x4 (y0 .i64 (x5+1)))
      none)
     none)
    none)
  (some (x0,x1,x3,()))
def q6z(F:Nat):Nat→LI→LI→Int→Int→LI→Int→Option (LI×LI×Int×Unit)
 |0,_,_,_,_,_,_=>none
 |k+1,x0,x1,x2,x3,x4,x5=>qat F (q6z F k) x0 x1 x2 x3 x4 x5
def qau(F:Nat)(rec:LI→LI→Int→Option (LI×LI×Unit))(x0:LI)(x1:LI)(x2:Int):Option (LI×LI×Unit):=
 cond (decide (x2<16))
  (cond ((decide (0≤x2))&&(decide (x2<16)))
   ((q6z F F x0 x1 x2 x2 (y8 4 (y9 ((y6 x2)*4) x0)) 0).bind fun r3513=>
   rec r3513.1 r3513.2.1 (y0 .i64 (r3513.2.2.1+1)))
    none)
  (some (x0,x1,()))
def q70(F:Nat):Nat→LI→LI→Int→Option (LI×LI×Unit)
 |0,_,_,_=>none
 |k+1,x0,x1,x2=>qau F (q70 F k) x0 x1 x2
def qbj(F:Nat)(a0:Int)(a1:LI):Option (LI×Unit):=
 (q96 F a0).bind fun r3432=>
 cond (!r3432.1.2.2.1)
  (some (a1,()))
  ((q70 F F a1 q60 0).bind fun r3515=>
  some (r3515.1,()))
def qcg(F:Nat)(rec:Int→LI→LI→Int→Int→Int→Int→Option (Int×LI×LI×Int×Int×Unit))(x0:Int)(x1:LI)(x2:LI)(x3:Int)(x4:Int)(x5:Int)(x6:Int):Option (Int×LI×LI×Int×Int×Unit):=
 cond (decide (x6<4))
  (cond (decide (0≤x6))
   (cond ((iand .i64 (ishr .i64 x0 x6) 1)==1)
    (let b3612:Bool:=((decide (0≤x4))&&(decide (x4<16)))
    cond b3612
     (let b3614:Bool:=((decide (0≤x6))&&(decide (x6<4)))
     cond b3614
      (let n3615:Nat:=(((y6 x4)*4)+(y6 x6))
      cond b3612
       (cond b3614
        ((q4s F (y0 .i64 ((y7 x1 n3615 0)-(y7 x2 n3615 0)))).bind fun r3619=>
        rec x0 x1 x2 (y0 .i64 (x3+r3619.1)) x4 x5 (y0 .i64 (x6+1)))
         none)
        none)
       none)
      none)
    (rec x0 x1 x2 x3 x4 x5 (y0 .i64 (x6+1))))
    none)
  (some (x0,x1,x2,x3,x5,()))
def q8b(F:Nat):Nat→Int→LI→LI→Int→Int→Int→Int→Option (Int×LI×LI×Int×Int×Unit)
 |0,_,_,_,_,_,_,_=>none
 |k+1,x0,x1,x2,x3,x4,x5,x6=>qcg F (q8b F k) x0 x1 x2 x3 x4 x5 x6
def qch(F:Nat)(rec:Int→LI→LI→Int→Int→Option (Int×Unit))(x0:Int)(x1:LI)(x2:LI)(x3:Int)(x4:Int):Option (Int×Unit):=
 cond (decide (x4<16))
  ((q8b F F x0 x1 x2 x3 x4 x4 0).bind fun r3623=>
  rec r3623.1 r3623.2.1 r3623.2.2.1 r3623.2.2.2.1 (y0 .i64 (r3623.2.2.2.2.1+1)))
  (some (x3,()))
def q8c(F:Nat):Nat→Int→LI→LI→Int→Int→Option (Int×Unit)
 |0,_,_,_,_,_=>none
 |k+1,x0,x1,x2,x3,x4=>qch F (q8c F k) x0 x1 x2 x3 x4
def qn9(F:Nat)(a0:LI)(a1:LI)(a2:Int):Option (Int×Unit):=
 (q8c F F a2 a0 a1 0 0).bind fun r3625=>
 some (r3625.1,())
def qxf(F:Nat)(a0:Int):Option ((Int×Int×Bool×Unit)×Int×Unit):=
 cond (decide (a0<1))
  (some ((0,0,false,()),5,()))
  (cond (decide (12<a0))
   (some ((0,0,false,()),5,()))
   (cond (a0==0)
    (some ((0,0,false,()),0,()))
    (cond (a0==1)
     (some ((8,7,false,()),0,()))
     (cond (a0==2)
      (some ((16,15,false,()),0,()))
      (cond (a0==3)
       (some ((16,15,false,()),0,()))
       (cond (a0==4)
        (some ((8,1,false,()),0,()))
        (cond (a0==5)
         (some ((16,3,false,()),0,()))
         (cond (a0==6)
          (some ((16,15,false,()),0,()))
          (cond (a0==7)
           (some ((8,7,false,()),0,()))
           (cond (a0==8)
            (some ((8,7,false,()),0,()))
            (cond (a0==9)
             (some ((8,15,false,()),0,()))
             (cond (a0==10)
              (some ((16,15,false,()),0,()))
              (cond (a0==11)
               (some ((8,1,true,()),0,()))
               (cond (a0==12)
                (some ((16,3,true,()),0,()))
                 none))))))))))))))
def q3q:LI:=[0,0,0,0,0,0,0,0,0,0,0,0,0,0,0,0,0,0,0,0,0,0,0,0,0,0,0,0,0,0,0,0,0,0,0,0,0,0,0,0,0,0,0,0,0,0,0,0,0,0,0,0,0,0,0,0,0,0,0,0,0,0,0,0]
def qci(F:Nat)(rec:LI→LI→LI→Int→Option (LI×LI×Unit))(x0:LI)(x1:LI)(x2:LI)(x3:Int):Option (LI×LI×Unit):=
 cond (decide (x3<16))
  (cond ((decide (0≤x3))&&(decide (x3<16)))
   (let n9:Nat:=((y6 x3)*4)
   rec x0 x1 (((y8 n9 x2)++x0)++(y9 (n9+4) x2)) (y0 .i64 (x3+1)))
    none)
  (some (x1,x2,()))
def q8d(F:Nat):Nat→LI→LI→LI→Int→Option (LI×LI×Unit)
 |0,_,_,_,_=>none
 |k+1,x0,x1,x2,x3=>qci F (q8d F k) x0 x1 x2 x3
def qi4(F:Nat)(a0:LI):Option (LI×Unit):=
 (q8d F F a0 q3q q3q 0).bind fun r12=>
 some (r12.2.1,())
def qen(F:Nat)(rec:LI→Int→LI→Int→Option (Unit⊕(LI×Int×Unit)))(x0:LI)(x1:Int)(x2:LI)(x3:Int):Option (Unit⊕(LI×Int×Unit)):=
 cond (decide (x3<4))
  (cond ((decide (0≤x3))&&(decide (x3<4)))
   (let v75:Int:=(y7 x2 (y6 x3) 0)
   cond (decide (v75<0))
    (some (.inl ()))
    (cond (decide (255<v75))
     (some (.inl ()))
     (rec x0 x1 x2 (y0 .i64 (x3+1)))))
    none)
  (some (.inr (x0,x1,())))
def q7k(F:Nat):Nat→LI→Int→LI→Int→Option (Unit⊕(LI×Int×Unit))
 |0,_,_,_,_=>none
 |k+1,x0,x1,x2,x3=>qen F (q7k F k) x0 x1 x2 x3
def qeo(F:Nat)(rec:LI→Int→Option (Unit⊕Unit))(x0:LI)(x1:Int):Option (Unit⊕Unit):=
 cond (decide (x1<16))
  (cond ((decide (0≤x1))&&(decide (x1<16)))
   ((q7k F F x0 x1 (y8 4 (y9 ((y6 x1)*4) x0)) 0).bind fun r79=>match r79 with
    | .inl r79=>(some (.inl ()))
    | .inr r79=>(rec r79.1 (y0 .i64 (r79.2.1+1))))
    none)
  (some (.inr ()))
def q9r(F:Nat):Nat→LI→Int→Option (Unit⊕Unit)
 |0,_,_=>none
 |k+1,x0,x1=>qeo F (q9r F k) x0 x1
def qlh(F:Nat)(a0:LI):Option (Bool×Unit):=
 (q9r F F a0 0).bind fun r81=>match r81 with
  | .inl r81=>(some (false,()))
  | .inr r81=>(some (true,()))
def qr0(F:Nat)(a0:Int)(a1:Int):Option (Int×Unit):=
 (q0z F a0 a1).bind fun r229=>
 some (r229.1,())
def q4z(F:Nat)(rec:Int→LI→Int→LI→Int→Int→Option (Int×Unit))(x0:Int)(x1:LI)(x2:Int)(x3:LI)(x4:Int)(x5:Int):Option (Int×Unit):=
 cond (decide (x5<x4))
  (cond ((decide (0≤x5))&&(decide (x5<(((ya x3):Nat):Int))))
   (cond ((decide (0≤x0))&&(decide (x0<(((ya x1):Nat):Int))))
    ((q4s F (y0 .i64 ((y7 x3 (y6 x5) 0)-(y7 x1 (y6 x0) 0)))).bind fun r338=>
    rec x0 x1 (y0 .i64 (x2+r338.1)) x3 x4 (y0 .i64 (x5+1)))
     none)
    none)
  (some (x2,()))
def q49(F:Nat):Nat→Int→LI→Int→LI→Int→Int→Option (Int×Unit)
 |0,_,_,_,_,_,_=>none
 |k+1,x0,x1,x2,x3,x4,x5=>q4z F (q49 F k) x0 x1 x2 x3 x4 x5
def qh5(F:Nat)(a0:Int)(a1:LI)(a2:LI):Option (Int×Unit):=
 (q49 F F a0 a2 0 a1 (((ya a1):Nat):Int) 0).bind fun r341=>
 some (r341.1,())
def q0n(F:Nat)(rec:LI→LI→Int→Int→Int→Int→Option (Int×Unit))(x0:LI)(x1:LI)(x2:Int)(x3:Int)(x4:Int)(x5:Int):Option (Int×Unit):=
 cond (decide (x5<x4))
  ((qh5 F x5 x0 x1).bind fun r398=>
  cond (x5==0)
   (rec x0 x1 x5 r398.1 x4 (y0 .i64 (x5+1)))
   (cond (decide (r398.1<x3))
    (rec x0 x1 x5 r398.1 x4 (y0 .i64 (x5+1)))
    (rec x0 x1 x2 x3 x4 (y0 .i64 (x5+1)))))
  (some (x2,()))
def q0j(F:Nat):Nat→LI→LI→Int→Int→Int→Int→Option (Int×Unit)
 |0,_,_,_,_,_,_=>none
 |k+1,x0,x1,x2,x3,x4,x5=>q0n F (q0j F k) x0 x1 x2 x3 x4 x5
def qb6(F:Nat)(a0:Int)(a1:LI)(a2:LI):Option (Int×Unit):=
 (q0j F F a1 a2 0 0 a0 0).bind fun r404=>
 some (r404.1,())
def qe5(F:Nat)(a0:LI)(a1:LI):Option (Int×Unit):=
 (qb6 F (((ya a0):Nat):Int) a1 a0).bind fun r405=>
 some (r405.1,())
def q68(F:Nat)(rec:Int→Int→Int→LI→LI→Int→Option (Int×Int×LI×Unit))(x0:Int)(x1:Int)(x2:Int)(x3:LI)(x4:LI)(x5:Int):Option (Int×Int×LI×Unit):=
 cond (decide (x5<16))
  (cond ((decide (0≤x5))&&(decide (x5<16)))
   (let l426:LI:=(y8 4 (y9 ((y6 x5)*4) x4))
   cond ((decide (0≤x0))&&(decide (x0<4)))
    (let v429:Int:=(y7 l426 (y6 x0) 0)
    cond ((decide (((ya x3)+1)≤1099511627776))&&true)
     (rec x0 x1 x2 (x3++[v429]) x4 (y0 .i64 (x5+1)))
      none)
     none)
    none)
  (some (x1,x2,x3,()))
def q37(F:Nat):Nat→Int→Int→Int→LI→LI→Int→Option (Int×Int×LI×Unit)
 |0,_,_,_,_,_,_=>none
 |k+1,x0,x1,x2,x3,x4,x5=>q68 F (q37 F k) x0 x1 x2 x3 x4 x5
def q2s(F:Nat)(rec:Int→LI→LI→Int→Int→Option (LI×LI×Unit))(x0:Int)(x1:LI)(x2:LI)(x3:Int)(x4:Int):Option (LI×LI×Unit):=
 cond (decide (x4<x3))
  ((qr0 F x4 x0).bind fun r451=>
  cond ((decide (((ya x2)+1)≤1099511627776))&&true)
   (rec x0 x1 (x2++[r451.1]) x3 (y0 .i64 (x4+1)))
    none)
  (some (x1,x2,()))
def q24(F:Nat):Nat→Int→LI→LI→Int→Int→Option (LI×LI×Unit)
 |0,_,_,_,_,_=>none
 |k+1,x0,x1,x2,x3,x4=>q2s F (q24 F k) x0 x1 x2 x3 x4
def q9s(F:Nat)(a0:LI)(a1:Int)(a2:Int)(a3:Int):Option (Int×Unit):=
 (q37 F F a1 a2 a3 [] a0 0).bind fun r434=>
 (q24 F F r434.2.1 r434.2.2.1 [] r434.1 0).bind fun r456=>
 (qe5 F r456.2.1 r456.1).bind fun r459=>
 some (r459.1,())
def qi5(F:Nat)(a0:LI)(a1:Int)(a2:Int):Option (Int×Unit):=
 cond (decide (0≤a2))
  ((q9s F a0 a1 (ishl .i64 1 a2) a2).bind fun r460=>
  some (r460.1,()))
   none
def q2j:LI:=[0,0,0,0,0,0,0,0,0,0,0,0,0,0,0,0]
def qav(F:Nat)(rec:Int→LI→LI→Int→Option (LI×LI×Unit))(x0:Int)(x1:LI)(x2:LI)(x3:Int):Option (LI×LI×Unit):=
 cond (decide (x3<16))
  (cond ((decide (0≤x3))&&(decide (x3<16)))
   (rec x0 x1 (yx x2 (y6 x3) x0) (y0 .i64 (x3+1)))
    none)
  (some (x1,x2,()))
def q54(F:Nat):Nat→Int→LI→LI→Int→Option (LI×LI×Unit)
 |0,_,_,_,_=>none
 |k+1,x0,x1,x2,x3=>qav F (q54 F k) x0 x1 x2 x3
def qbk(F:Nat)(a0:Int):Option (LI×Unit):=
 (q54 F F a0 q2j q2j 0).bind fun r474=>
 some (r474.2.1,())
def qna(F:Nat)(a0:Int):Option (Int×Unit):=
 some (a0,())
def q5c(F:Nat)(rec:Int→Int→LI→LI→Int→Option (Int×LI×Unit))(x0:Int)(x1:Int)(x2:LI)(x3:LI)(x4:Int):Option (Int×LI×Unit):=
 cond (decide (x4<16))
  (cond ((decide (0≤x4))&&(decide (x4<16)))
   (let l862:LI:=(y8 4 (y9 ((y6 x4)*4) x3))
   cond ((decide (0≤x0))&&(decide (x0<4)))
    (let v865:Int:=(y7 l862 (y6 x0) 0)
    cond ((decide (((ya x2)+1)≤1099511627776))&&true)
     (rec x0 x1 (x2++[v865]) x3 (y0 .i64 (x4+1)))
      none)
     none)
    none)
  (some (x1,x2,()))
def q2t(F:Nat):Nat→Int→Int→LI→LI→Int→Option (Int×LI×Unit)
 |0,_,_,_,_,_=>none
 |k+1,x0,x1,x2,x3,x4=>q5c F (q2t F k) x0 x1 x2 x3 x4
def q29(F:Nat)(rec:LI→LI→Int→Int→Option (LI×LI×Unit))(x0:LI)(x1:LI)(x2:Int)(x3:Int):Option (LI×LI×Unit):=
 cond (decide (x3<x2))
  ((qna F x3).bind fun r887=>
  cond ((decide (((ya x1)+1)≤1099511627776))&&true)
   (rec x0 (x1++[r887.1]) x2 (y0 .i64 (x3+1)))
    none)
  (some (x0,x1,()))
def q1r(F:Nat):Nat→LI→LI→Int→Int→Option (LI×LI×Unit)
 |0,_,_,_,_=>none
 |k+1,x0,x1,x2,x3=>q29 F (q1r F k) x0 x1 x2 x3
def qcj(F:Nat)(a0:LI)(a1:Int)(a2:Int):Option (Int×Unit):=
 (q2t F F a1 a2 [] a0 0).bind fun r870=>
 (q1r F F r870.2.1 [] r870.1 0).bind fun r892=>
 (qe5 F r892.2.1 r892.1).bind fun r895=>
 some (r895.1,())
def qts(F:Nat)(a0:LI)(a1:Int):Option (Int×Unit):=
 (qcj F a0 a1 256).bind fun r896=>
 some (r896.1,())
def qkf(F:Nat)(a0:Int):Option (Int×Unit):=
 (q0z F a0 5).bind fun r4750=>
 (q30 F (y0 .i64 (r4750.1+2)) 255).bind fun r4752=>
 some (r4752.1,())
def q4i(F:Nat)(rec:Int→Int→LI→LI→Int→Option (Int×LI×Unit))(x0:Int)(x1:Int)(x2:LI)(x3:LI)(x4:Int):Option (Int×LI×Unit):=
 cond (decide (x4<16))
  (cond ((decide (0≤x4))&&(decide (x4<16)))
   (let l4794:LI:=(y8 4 (y9 ((y6 x4)*4) x3))
   cond ((decide (0≤x0))&&(decide (x0<4)))
    (let v4797:Int:=(y7 l4794 (y6 x0) 0)
    cond ((decide (((ya x2)+1)≤1099511627776))&&true)
     (rec x0 x1 (x2++[v4797]) x3 (y0 .i64 (x4+1)))
      none)
     none)
    none)
  (some (x1,x2,()))
def q2a(F:Nat):Nat→Int→Int→LI→LI→Int→Option (Int×LI×Unit)
 |0,_,_,_,_,_=>none
 |k+1,x0,x1,x2,x3,x4=>q4i F (q2a F k) x0 x1 x2 x3 x4
def q1y(F:Nat)(rec:LI→LI→Int→Int→Option (LI×LI×Unit))(x0:LI)(x1:LI)(x2:Int)(x3:Int):Option (LI×LI×Unit):=
 cond (decide (x3<x2))
  ((qkf F x3).bind fun r4819=>
  cond ((decide (((ya x1)+1)≤1099511627776))&&true)
   (rec x0 (x1++[r4819.1]) x2 (y0 .i64 (x3+1)))
    none)
  (some (x0,x1,()))
def q1b(F:Nat):Nat→LI→LI→Int→Int→Option (LI×LI×Unit)
 |0,_,_,_,_=>none
 |k+1,x0,x1,x2,x3=>q1y F (q1b F k) x0 x1 x2 x3
def q7l(F:Nat)(a0:LI)(a1:Int)(a2:Int):Option (Int×Unit):=
 (q2a F F a1 a2 [] a0 0).bind fun r4802=>
 (q1b F F r4802.2.1 [] r4802.1 0).bind fun r4824=>
 (qe5 F r4824.2.1 r4824.1).bind fun r4827=>
 some (r4827.1,())
def qck(F:Nat)(rec:LI→LI→LI→LI→LI→Int→Option (LI×LI×LI×LI×Unit))(x0:LI)(x1:LI)(x2:LI)(x3:LI)(x4:LI)(x5:Int):Option (LI×LI×LI×LI×Unit):=
 cond (decide (x5<3))
  ((q7l F x0 x5 32).bind fun r5359=>
  cond ((decide (0≤x5))&&(decide (x5<3)))
   (rec x0 (yx x1 (y6 x5) r5359.1) x2 x3 x4 (y0 .i64 (x5+1)))
    none)
  (some (x1,x2,x3,x4,()))
def q6g(F:Nat):Nat→LI→LI→LI→LI→LI→Int→Option (LI×LI×LI×LI×Unit)
 |0,_,_,_,_,_,_=>none
 |k+1,x0,x1,x2,x3,x4,x5=>qck F (q6g F k) x0 x1 x2 x3 x4 x5
def qnb(F:Nat)(a0:LI):Option (LI×Unit):=
 (q6g F F a0 [0,0,0] [0,0,0] [0,0] q2j 0).bind fun r5364=>
 (qb5 F (true,false,r5364.1,r5364.2.1,r5364.2.2.1,r5364.2.2.2.1,())).bind fun r5365=>
 some (r5365.1,())
def qe6(F:Nat)(a0:LI):Option (LI×Unit):=
 (qi5 F a0 0 6).bind fun r5758=>
 (qi5 F a0 1 7).bind fun r5759=>
 (qi5 F a0 2 6).bind fun r5760=>
 (qhm F [r5758.1,r5759.1,r5760.1] [r5758.1,r5759.1,r5760.1] [r5758.1,r5759.1,r5760.1]).bind fun r5761=>
 some (r5761.1,())
def qnc(F:Nat)(a0:Int):Option (Int×Unit):=
 (qf8 F a0 1 0 true).bind fun r5962=>
 some (r5962.1,())
def q5d(F:Nat)(rec:Int→Int→LI→LI→Int→Option (Int×LI×Unit))(x0:Int)(x1:Int)(x2:LI)(x3:LI)(x4:Int):Option (Int×LI×Unit):=
 cond (decide (x4<16))
  (cond ((decide (0≤x4))&&(decide (x4<16)))
   (let l6004:LI:=(y8 4 (y9 ((y6 x4)*4) x3))
   cond ((decide (0≤x0))&&(decide (x0<4)))
    (let v6007:Int:=(y7 l6004 (y6 x0) 0)
    cond ((decide (((ya x2)+1)≤1099511627776))&&true)
     (rec x0 x1 (x2++[v6007]) x3 (y0 .i64 (x4+1)))
      none)
     none)
    none)
  (some (x1,x2,()))
def q2u(F:Nat):Nat→Int→Int→LI→LI→Int→Option (Int×LI×Unit)
 |0,_,_,_,_,_=>none
 |k+1,x0,x1,x2,x3,x4=>q5d F (q2u F k) x0 x1 x2 x3 x4
def q2b(F:Nat)(rec:LI→LI→Int→Int→Option (LI×LI×Unit))(x0:LI)(x1:LI)(x2:Int)(x3:Int):Option (LI×LI×Unit):=
 cond (decide (x3<x2))
  ((qnc F x3).bind fun r6029=>
  cond ((decide (((ya x1)+1)≤1099511627776))&&true)
   (rec x0 (x1++[r6029.1]) x2 (y0 .i64 (x3+1)))
    none)
  (some (x0,x1,()))
def q1s(F:Nat):Nat→LI→LI→Int→Int→Option (LI×LI×Unit)
 |0,_,_,_,_=>none
 |k+1,x0,x1,x2,x3=>q2b F (q1s F k) x0 x1 x2 x3
def q8p(F:Nat)(a0:LI)(a1:Int)(a2:Int):Option (Int×Unit):=
 (q2u F F a1 a2 [] a0 0).bind fun r6012=>
 (q1s F F r6012.2.1 [] r6012.1 0).bind fun r6034=>
 (qe5 F r6034.2.1 r6034.1).bind fun r6037=>
 some (r6037.1,())
def qho(F:Nat)(a0:LI)(a1:Int):Option (LI×Unit):=
 (q8p F a0 a1 256).bind fun r6042=>
 (qbk F 4).bind fun r6043=>
 (qjm F r6042.1 1 13 r6043.1).bind fun r6044=>
 some (r6044.1,())
def qcl(F:Nat)(rec:LI→LI→Int→Int→Bool→Int→Int→Bool→Option (LI×LI×Int×Int×Bool×Int×Bool×Unit))(x0:LI)(x1:LI)(x2:Int)(x3:Int)(x4:Bool)(x5:Int)(x6:Int)(x7:Bool):Option (LI×LI×Int×Int×Bool×Int×Bool×Unit):=
 cond (decide (x6<4))
  (let b6381:Bool:=((decide (0≤x5))&&(decide (x5<16)))
  cond b6381
   (let b6383:Bool:=((decide (0≤x6))&&(decide (x6<4)))
   cond b6383
    (let n6384:Nat:=(((y6 x5)*4)+(y6 x6))
    let v6385:Int:=(y7 x0 n6384 0)
    cond b6381
     (cond b6383
      (cond b6381
       (cond b6383
        (rec (yx x0 n6384 (y0 .i64 ((y0 .i64 (8*v6385))+(y0 .i64 (yw v6385 32))))) x1 x2 x3 x4 x5 (y0 .i64 (x6+1)) x7)
         none)
        none)
       none)
      none)
     none)
    none)
  (some (x0,x1,x2,x3,x4,x5,x7,()))
def q8e(F:Nat):Nat→LI→LI→Int→Int→Bool→Int→Int→Bool→Option (LI×LI×Int×Int×Bool×Int×Bool×Unit)
 |0,_,_,_,_,_,_,_,_=>none
 |k+1,x0,x1,x2,x3,x4,x5,x6,x7=>qcl F (q8e F k) x0 x1 x2 x3 x4 x5 x6 x7
def qcm(F:Nat)(rec:LI→LI→Int→Int→Bool→Int→Option (LI×LI×Unit))(x0:LI)(x1:LI)(x2:Int)(x3:Int)(x4:Bool)(x5:Int):Option (LI×LI×Unit):=
 cond (decide (x5<16))
  (cond x4
   ((q8e F F x0 x1 x2 x3 x4 x5 0 x4).bind fun r6391=>
   rec r6391.1 r6391.2.1 r6391.2.2.1 r6391.2.2.2.1 r6391.2.2.2.2.1 (y0 .i64 (r6391.2.2.2.2.2.1+1)))
   (some (x0,x1,())))
  (some (x0,x1,()))
def q8f(F:Nat):Nat→LI→LI→Int→Int→Bool→Int→Option (LI×LI×Unit)
 |0,_,_,_,_,_,_=>none
 |k+1,x0,x1,x2,x3,x4,x5=>qcm F (q8f F k) x0 x1 x2 x3 x4 x5
def qnd(F:Nat)(a0:Int)(a1:LI):Option (LI×Unit):=
 (qxf F a0).bind fun r6318=>
 (q8f F F a1 q3q r6318.1.1 r6318.1.2.1 r6318.1.2.2.1 0).bind fun r6393=>
 some (r6393.1,())
def qep(F:Nat)(rec:Int→LI→LI→LI→Int→Option (LI×LI×Unit))(x0:Int)(x1:LI)(x2:LI)(x3:LI)(x4:Int):Option (LI×LI×Unit):=
 cond (decide (x4<16))
  (let b8409:Bool:=((decide (0≤x4))&&(decide (x4<16)))
  cond b8409
   (cond b8409
    (cond ((decide (0≤x0))&&(decide (x0<4)))
     (rec x0 (yx x1 (((y6 x4)*4)+(y6 x0)) (y7 x2 (y6 x4) 0)) x2 x3 (y0 .i64 (x4+1)))
      none)
     none)
    none)
  (some (x1,x3,()))
def q9t(F:Nat):Nat→Int→LI→LI→LI→Int→Option (LI×LI×Unit)
 |0,_,_,_,_,_=>none
 |k+1,x0,x1,x2,x3,x4=>qep F (q9t F k) x0 x1 x2 x3 x4
def q1l(F:Nat)(a0:LI)(a1:LI)(a2:Int):Option (LI×Unit):=
 (q9t F F a2 a0 a1 q3q 0).bind fun r8417=>
 some (r8417.1,())
def qr1(F:Nat)(rec:Int→LI→LI→Int→Option (LI×LI×Unit))(x0:Int)(x1:LI)(x2:LI)(x3:Int):Option (LI×LI×Unit):=
 cond (decide (x3<16))
  (cond ((decide (0≤x3))&&(decide (x3<16)))
   (rec x0 x1 (yx x2 (3+((y6 x3)*4)) x0) (y0 .i64 (x3+1)))
    none)
  (some (x1,x2,()))
def qeq(F:Nat):Nat→Int→LI→LI→Int→Option (LI×LI×Unit)
 |0,_,_,_,_=>none
 |k+1,x0,x1,x2,x3=>qr1 F (qeq F k) x0 x1 x2 x3
def q55(F:Nat)(a0:Int):Option (LI×Unit):=
 (qeq F F a0 q3q q3q 0).bind fun r8436=>
 some (r8436.2.1,())
def qcn(F:Nat)(rec:LI→LI→LI→Int→Option (LI×LI×LI×Unit))(x0:LI)(x1:LI)(x2:LI)(x3:Int):Option (LI×LI×LI×Unit):=
 cond (decide (x3<16))
  ((q22 F x0 (y0 .i64 (16+(y0 .i64 (3*(y0 .i64 ((y0 .i64 (4*(yv x3 4)))+(y0 .i64 (yw x3 4)))))))) 3).bind fun r13166=>
  cond ((decide (0≤x3))&&(decide (x3<16)))
   (rec x0 x1 (yx x2 (y6 x3) r13166.1) (y0 .i64 (x3+1)))
    none)
  (some (x0,x1,x2,()))
def q6h(F:Nat):Nat→LI→LI→LI→Int→Option (LI×LI×LI×Unit)
 |0,_,_,_,_=>none
 |k+1,x0,x1,x2,x3=>qcn F (q6h F k) x0 x1 x2 x3
def qne(F:Nat)(a0:LI):Option (Int×Int×Int×LI×Int×Unit):=
 cond ((((ya a0):Nat):Int) !=8)
  (some (0,0,0,q2j,1,()))
  ((q6h F F a0 q2j q2j 0).bind fun r13171=>
  (q22 F r13171.1 0 8).bind fun r13173=>
  (q22 F r13171.1 8 4).bind fun r13174=>
  (q22 F r13171.1 12 4).bind fun r13175=>
  some (r13173.1,r13174.1,r13175.1,r13171.2.2.1,0,()))
def qli:LI:=[-3,-6,-9,-15,2,5,8,14,-3,-7,-10,-13,2,6,9,12,-2,-5,-8,-13,1,4,7,12,-2,-4,-6,-13,1,3,5,12,-3,-6,-8,-12,2,5,7,11,-3,-7,-9,-11,2,6,8,10,-4,-7,-8,-11,3,6,7,10,-3,-5,-8,-11,2,4,7,10,-2,-6,-8,-10,1,5,7,9,-2,-5,-8,-10,1,4,7,9,-2,-4,-8,-10,1,3,7,9,-2,-5,-7,-10,1,4,6,9,-3,-4,-7,-10,2,3,6,9,-1,-2,-3,-10,0,1,2,9,-4,-6,-8,-9,3,5,7,8,-3,-5,-7,-9,2,4,6,8]
def qnf(F:Nat)(a0:Int):Option (LI×Unit):=
 let v13179:Int:=(yv a0 16)
 cond (decide (v13179<0))
  (let v13181:Int:=(y0 .i64 (v13179+16))
  cond ((decide (0≤v13181))&&(decide (v13181<16)))
   (some ((y8 8 (y9 ((y6 v13181)*8) qli)),()))
    none)
  (cond ((decide (0≤v13179))&&(decide (v13179<16)))
   (some ((y8 8 (y9 ((y6 v13179)*8) qli)),()))
    none)
def qng(F:Nat)(a0:Int)(a1:Int)(a2:Int)(a3:Bool):Option (Int×Unit):=
 cond (!a3)
  ((q6c F (y0 .i64 (a0+(y0 .i64 (a2*a1)))) 255).bind fun r13212=>
  some (r13212.1,()))
  (cond (a1==0)
   ((q6c F (y0 .i64 ((y0 .i64 ((y0 .i64 (8*a0))+4))+(y0 .i64 (a2*1)))) 2047).bind fun r13219=>
   some (r13219.1,()))
   ((q6c F (y0 .i64 ((y0 .i64 ((y0 .i64 (8*a0))+4))+(y0 .i64 (a2*(y0 .i64 (8*a1)))))) 2047).bind fun r13224=>
   some (r13224.1,())))
def qaw(F:Nat)(rec:Bool→LI→Int→Int→Int→LI→Int→Option (LI×LI×Unit))(x0:Bool)(x1:LI)(x2:Int)(x3:Int)(x4:Int)(x5:LI)(x6:Int):Option (LI×LI×Unit):=
 cond (decide (x6<16))
  ((qnf F x4).bind fun r13238=>
  let b13239:Bool:=((decide (0≤x6))&&(decide (x6<16)))
  cond b13239
   (let v13241:Int:=(y7 x5 (y6 x6) 0)
   cond ((decide (0≤v13241))&&(decide (v13241<8)))
    ((qng F x2 x3 (y7 r13238.1 (y6 v13241) 0) x0).bind fun r13244=>
    cond b13239
     (rec x0 x1 x2 x3 x4 (yx x5 (y6 x6) r13244.1) (y0 .i64 (x6+1)))
      none)
     none)
    none)
  (some (x1,x5,()))
def q56(F:Nat):Nat→Bool→LI→Int→Int→Int→LI→Int→Option (LI×LI×Unit)
 |0,_,_,_,_,_,_,_=>none
 |k+1,x0,x1,x2,x3,x4,x5,x6=>qaw F (q56 F k) x0 x1 x2 x3 x4 x5 x6
def q69(F:Nat)(a0:LI)(a1:Bool):Option (LI×Int×Unit):=
 (qne F a0).bind fun r13176=>
 cond (r13176.2.2.2.2.1 !=0)
  (some (r13176.2.2.2.1,r13176.2.2.2.2.1,()))
  ((q56 F F a1 q2j r13176.1 r13176.2.1 r13176.2.2.1 r13176.2.2.2.1 0).bind fun r13247=>
  some (r13247.2.1,0,()))
def q6q:LI:=[0,0,0,0,0,0,0,0,0,0,0,0,0,0,0,0,0,0,0,0,0,0,0,0,0,0,0,0,0,0,0,0,0,0,0,0,0,0,0,0,0,0,0,0,0,0,0,0,0,0,0,0,0,0,0,0,0,0,0,0,0,0,0,0]
def qfw(F:Nat)(a0:LI)(a1:Int)(a2:Int)(a3:Bool):Option (LI×Int×Unit):=
 cond a3
  ((qhn F a0 true).bind fun r196025=>
  some (r196025.1,r196025.2.1,()))
   none
def q2k(F:Nat)(a0:LI)(a1:Int)(a2:LI)(a3:Int)(a4:Int)(a5:Bool):Option (LI×Unit):=
 (qfw F a2 a3 a4 a5).bind fun r196029=>
 (qi3 F a0 a1 r196029.1 r196029.2.1).bind fun r196030=>
 some (r196030.1,())
def q0t(F:Nat)(a0:Int)(a1:(Int×Int×Bool×Unit))(a2:LI)(a3:LI)(a4:LI):Option (LI×Int×Unit):=
 cond (a0==2)
   none
  (cond (a0==3)
    none
   (cond (a0==4)
    ((q97 F a1.2.2.1).bind fun r196019=>
    (q2k F r196019.1 0 a2 a1.1 a1.2.1 a1.2.2.1).bind fun r196031=>
    some (r196031.1,0,()))
    (cond (a0==11)
     ((q97 F a1.2.2.1).bind fun r196033=>
     (q2k F r196033.1 0 a2 a1.1 a1.2.1 a1.2.2.1).bind fun r196034=>
     some (r196034.1,0,()))
     (cond (a0==5)
      ((q97 F a1.2.2.1).bind fun r196036=>
      (q2k F r196036.1 0 a2 a1.1 a1.2.1 a1.2.2.1).bind fun r196037=>
      (q2k F r196037.1 1 a3 a1.1 a1.2.1 a1.2.2.1).bind fun r196038=>
      some (r196038.1,0,()))
      (cond (a0==12)
       ((q97 F a1.2.2.1).bind fun r196040=>
       (q2k F r196040.1 0 a2 a1.1 a1.2.1 a1.2.2.1).bind fun r196041=>
       (q2k F r196041.1 1 a3 a1.1 a1.2.1 a1.2.2.1).bind fun r196042=>
       some (r196042.1,0,()))
       (cond (a0==6)
         none
        (cond (a0==7)
         ((qh1 F a4).bind fun r196045=>
         some (r196045.1,r196045.2.1,()))
         (cond (a0==8)
          ((q9p F a4 (a0==9)).bind fun r196048=>
          some (r196048.1,r196048.2.1,()))
          (let b196049:Bool:=(a0==9)
          cond b196049
           ((q9p F a4 b196049).bind fun r196050=>
           some (r196050.1,r196050.2.1,()))
           (cond (a0==10)
            ((qhn F a2 false).bind fun r196052=>
            (q9p F a3 false).bind fun r196053=>
            (qqz F r196053.1 r196053.2.1).bind fun r196054=>
            (qi3 F r196054.1 3 r196052.1 r196052.2.1).bind fun r196055=>
            some (r196055.1,r196052.2.1,()))
             none))))))))))
def qco(F:Nat)(a0:Int)(a1:LI):Option (LI×Int×Unit):=
 (q96 F a0).bind fun r196004=>
 cond (r196004.2.1 !=0)
  (some (q6q,r196004.2.1,()))
  (let v196006:Int:=(((ya a1):Nat):Int)
  cond (v196006 !=r196004.1.1)
   (some (q6q,1,()))
   (cond (decide (8≤(ya a1)))
    (let v196009:Int:=(y0 .i64 (v196006-8))
    cond ((decide (0≤v196009))&&((decide ((y6 v196009)≤(ya a1)))&&true))
     ((q0t F a0 (r196004.1.1,r196004.1.2.1,r196004.1.2.2.1,()) (y8 8 a1) (y8 (psub (ya a1) (y6 v196009)) (y9 (y6 v196009) a1)) a1).bind fun r196058=>
     some (r196058.1,r196058.2.1,()))
      none)
     none))
def q98(F:Nat)(a0:Int)(a1:LI)(a2:LI):Option (Int×Int×Unit):=
 (qco F a0 a1).bind fun r196059=>
 cond (r196059.2.1 !=0)
  (some (0,r196059.2.1,()))
  ((q96 F a0).bind fun r196061=>
  (qbj F a0 a2).bind fun r196062=>
  (qn9 F r196062.1 r196059.1 r196061.1.2.1).bind fun r196063=>
  some (r196063.1,0,()))
def qlj:LI:=[0,0,0,0,255,255,0,0]
def qnh(F:Nat)(a0:Int)(a1:LI)(a2:LI)(a3:LI):Option (LI×Unit):=
 (q98 F a0 a2 a1).bind fun r196093=>
 (q98 F a0 a3 a1).bind fun r196094=>
 cond (decide (r196094.1<r196093.1))
  (some (a3,()))
  (some (a2,()))
def q38(F:Nat)(a0:Int)(a1:LI):Option (LI×Unit):=
 let b196119:Bool:=(a0==2)
 cond b196119
  ((qi5 F a1 3 4).bind fun r196120=>
  (qbk F r196120.1).bind fun r196121=>
  none)
  (let b196122:Bool:=(a0==3)
  cond b196122
    none
   (let b196123:Bool:=(a0==4)
   cond b196123
     none
    (let b196124:Bool:=(a0==5)
    cond b196124
      none
     (let b196125:Bool:=(a0==6)
     cond b196125
       none
      (let b196126:Bool:=(a0==7)
      cond b196126
       ((qnb F a1).bind fun r196127=>
       some (r196127.1,()))
       (let b196129:Bool:=(a0==8)
       cond b196129
        ((qe6 F a1).bind fun r196130=>
        some (r196130.1,()))
        (let b196132:Bool:=(a0==9)
        cond b196132
         ((qe6 F a1).bind fun r196133=>
         (qnh F a0 a1 r196133.1 qlj).bind fun r196135=>
         some (r196135.1,()))
         (let b196137:Bool:=(a0==10)
         cond b196137
          ((qts F a1 3).bind fun r196138=>
          (qbk F 0).bind fun r196139=>
          (qjm F r196138.1 0 0 r196139.1).bind fun r196140=>
          let n196141:Nat:=(ya r196140.1)
          (qe6 F a1).bind fun r196142=>
          let n196143:Nat:=(ya r196142.1)
          cond ((decide ((n196141+n196143)≤1099511627776))&&true)
           (some ((r196140.1++r196142.1),()))
            none)
          (let b196147:Bool:=(a0==11)
          cond b196147
           ((qho F a1 0).bind fun r196148=>
           some (r196148.1,()))
           (let b196150:Bool:=(a0==12)
           cond b196150
            ((qho F a1 0).bind fun r196151=>
            let n196152:Nat:=(ya r196151.1)
            (qho F a1 1).bind fun r196153=>
            let n196154:Nat:=(ya r196153.1)
            cond ((decide ((n196152+n196154)≤1099511627776))&&true)
             (some ((r196151.1++r196153.1),()))
              none)
             none))))))))))
def qtt(F:Nat)(a0:Int)(a1:LI):Option (LI×Int×Unit):=
 (q96 F a0).bind fun r196160=>
 cond (r196160.2.1 !=0)
  (some ([],r196160.2.1,()))
  ((qlh F a1).bind fun r196162=>
  cond (!r196162.1)
   (some ([],1,()))
   ((qbj F a0 a1).bind fun r196164=>
   (q38 F a0 r196164.1).bind fun r196165=>
   some (r196165.1,0,())))
def qjn(F:Nat)(a0:Int)(a1:LI):Option (LI×Int×Unit):=
 (qxf F a0).bind fun r196170=>
 cond (r196170.2.1 !=0)
  (some (q6q,r196170.2.1,()))
  (let v196172:Int:=(((ya a1):Nat):Int)
  cond (v196172 !=r196170.1.1)
   (some (q6q,1,()))
   (cond (decide (8≤(ya a1)))
    (let v196175:Int:=(y0 .i64 (v196172-8))
    cond ((decide (0≤v196175))&&((decide ((y6 v196175)≤(ya a1)))&&true))
     (let l196179:LI:=(y8 8 a1)
     (qf2 F l196179).bind fun r196180=>
     let l196181:LI:=(y8 (psub (ya a1) (y6 v196175)) (y9 (y6 v196175) a1))
     (qf2 F l196181).bind fun r196182=>
     cond (a0==1)
       none
      (cond (a0==2)
        none
       (cond (a0==3)
         none
        (cond (a0==4)
         ((q55 F 255).bind fun r196187=>
         (q1l F r196187.1 r196180.1 0).bind fun r196188=>
         some (r196188.1,0,()))
         (cond (a0==5)
          ((q55 F 255).bind fun r196190=>
          (q1l F r196190.1 r196180.1 0).bind fun r196191=>
          (q1l F r196191.1 r196182.1 1).bind fun r196192=>
          some (r196192.1,0,()))
          (cond (a0==6)
            none
           (cond (a0==7)
            ((qf4 F a1).bind fun r196195=>
            some (r196195.1,r196195.2.1,()))
            (cond (a0==8)
             ((q66 F a1 false).bind fun r196197=>
             some (r196197.1,r196197.2.1,()))
             (cond (a0==9)
              ((q66 F a1 true).bind fun r196199=>
              some (r196199.1,r196199.2.1,()))
              (cond (a0==10)
               ((q66 F l196181 false).bind fun r196201=>
               (q69 F l196179 false).bind fun r196202=>
               (q1l F r196201.1 r196202.1 3).bind fun r196203=>
               some (r196203.1,0,()))
               ((q69 F l196179 true).bind fun r196204=>
               (q69 F l196181 true).bind fun r196205=>
               cond (a0==11)
                ((q55 F 2047).bind fun r196207=>
                (q1l F r196207.1 r196204.1 0).bind fun r196208=>
                some (r196208.1,0,()))
                ((q55 F 2047).bind fun r196209=>
                (q1l F r196209.1 r196204.1 0).bind fun r196210=>
                (q1l F r196210.1 r196205.1 1).bind fun r196211=>
                some (r196211.1,0,())))))))))))))
      none)
     none))
def q50:LI:=[0,0,0,0,0,0,0,0,0,0,0,0,0,0,0,0,0,0,0,0,0,0,0,0,0,0,0,0,0,0,0,0,0,0,0,0,0,0,0,0,0,0,0,0,0,0,0,0,0,0,0,0,0,0,0,0,0,0,0,0,0,0,0,0]
def q01:LI:=[0,0,0,0,0,0,0,0,0,0,0,0,0,0,0,0]
def qer(F:Nat)(rec:Int→LI→LI→LI→LI→LI→Int→Option (LI×LI×LI×LI×LI×Unit))(x0:Int)(x1:LI)(x2:LI)(x3:LI)(x4:LI)(x5:LI)(x6:Int):Option (LI×LI×LI×LI×LI×Unit):=
 cond (decide (x6<16))
  (cond ((decide (0≤x6))&&(decide (x6<16)))
   (rec x0 x1 x2 x3 x4 (yx x5 (y6 x6) x0) (y0 .i64 (x6+1)))
    none)
  (some (x1,x2,x3,x4,x5,()))
def q7m(F:Nat):Nat→Int→LI→LI→LI→LI→LI→Int→Option (LI×LI×LI×LI×LI×Unit)
 |0,_,_,_,_,_,_,_=>none
 |k+1,x0,x1,x2,x3,x4,x5,x6=>qer F (q7m F k) x0 x1 x2 x3 x4 x5 x6
def qhp(F:Nat)(a0:LI)(a1:Int)(a2:Int):Option (LI×Bool×Unit):=
 (q7m F F a2 q50 a0 [0,0,0] [a1,a1] q01 0).bind fun r223013=>
 (qxc F (true,false,r223013.2.1,r223013.2.2.1,r223013.2.2.2.1,r223013.2.2.2.2.1,())).bind fun r223014=>
 cond (!r223014.1)
  (some (q50,false,()))
  ((q92 F (true,false,r223013.2.1,r223013.2.2.1,r223013.2.2.2.1,r223013.2.2.2.2.1,())).bind fun r223016=>
  some (r223016.1,true,()))
def q2v(F:Nat)(a0:Int)(a1:Int)(a2:Int)(a3:LI)(a4:Bool)(a5:LI)(a6:Int):Option (Int×Unit):=
 cond ((decide (0≤a0))&&(decide (a0<8)))
  ((qf8 F a1 a2 (y7 a3 (y6 a0) 0) a4).bind fun r223080=>
  cond ((decide (0≤a6))&&(decide (a6<4)))
   (let v223084:Int:=(y0 .i64 (r223080.1-(y7 a5 (y6 a6) 0)))
   some ((y0 .i64 (v223084*v223084)),()))
    none)
   none
def q0m(F:Nat)(rec:Int→Int→Int→LI→Bool→LI→Int→Int→Int→Option (Int×Unit))(x0:Int)(x1:Int)(x2:Int)(x3:LI)(x4:Bool)(x5:LI)(x6:Int)(x7:Int)(x8:Int):Option (Int×Unit):=
 cond (decide (x8<x0))
  ((q2v F x8 x1 x2 x3 x4 x5 x6).bind fun r223113=>
  (q2v F x7 x1 x2 x3 x4 x5 x6).bind fun r223114=>
  cond (decide (r223113.1<r223114.1))
   (rec x0 x1 x2 x3 x4 x5 x6 x8 (y0 .i64 (x8+1)))
   (rec x0 x1 x2 x3 x4 x5 x6 x7 (y0 .i64 (x8+1))))
  (some (x7,()))
def q0b(F:Nat):Nat→Int→Int→Int→LI→Bool→LI→Int→Int→Int→Option (Int×Unit)
 |0,_,_,_,_,_,_,_,_,_=>none
 |k+1,x0,x1,x2,x3,x4,x5,x6,x7,x8=>q0m F (q0b F k) x0 x1 x2 x3 x4 x5 x6 x7 x8
def q13(F:Nat)(a0:Int)(a1:Int)(a2:Int)(a3:LI)(a4:Bool)(a5:LI)(a6:Int):Option (Int×Unit):=
 (q0b F F a0 a1 a2 a3 a4 a5 a6 0 1).bind fun r223118=>
 some (r223118.1,())
def q43(F:Nat)(rec:Int→Bool→Int→Int→LI→Int→Int→LI→LI→Int→LI→Int→Option (Int×Int×LI×Int×Int×LI×Int×Unit))(x0:Int)(x1:Bool)(x2:Int)(x3:Int)(x4:LI)(x5:Int)(x6:Int)(x7:LI)(x8:LI)(x9:Int)(x10:LI)(x11:Int):Option (Int×Int×LI×Int×Int×LI×Int×Unit):=
 cond (decide (x11<16))
  (let b223249:Bool:=((decide (0≤x11))&&(decide (x11<16)))
  cond b223249
   (let l223250:LI:=(y8 4 (y9 ((y6 x11)*4) x10))
   (q13 F 8 x5 x6 x8 x1 l223250 x2).bind fun r223251=>
   cond b223249
    (let l223253:LI:=(yx x7 (y6 x11) r223251.1)
    cond b223249
     ((q2v F (y7 l223253 (y6 x11) 0) x5 x6 x8 x1 l223250 x2).bind fun r223255=>
     rec x0 x1 x2 x3 x4 x5 x6 l223253 x8 (y0 .i64 (x9+r223255.1)) x10 (y0 .i64 (x11+1)))
      none)
     none)
    none)
  (some (x0,x3,x4,x5,x6,x7,x9,()))
def q1z(F:Nat):Nat→Int→Bool→Int→Int→LI→Int→Int→LI→LI→Int→LI→Int→Option (Int×Int×LI×Int×Int×LI×Int×Unit)
 |0,_,_,_,_,_,_,_,_,_,_,_,_=>none
 |k+1,x0,x1,x2,x3,x4,x5,x6,x7,x8,x9,x10,x11=>q43 F (q1z F k) x0 x1 x2 x3 x4 x5 x6 x7 x8 x9 x10 x11
def q6i(F:Nat)(a0:Int)(a1:Int)(a2:Int)(a3:LI)(a4:Bool)(a5:Int)(a6:Int)(a7:LI):Option (Int×LI×Unit):=
 (q3y F a2).bind fun r223228=>
 (q1z F F a2 a4 a5 a6 a7 a0 a1 q01 r223228.1 0 a3 0).bind fun r223258=>
 (qjm F r223258.2.2.2.1 r223258.2.2.2.2.1 r223258.1 r223258.2.2.2.2.2.1).bind fun r223260=>
 cond (r223260.2.1==0)
  (cond (decide (r223258.2.1<0))
   (some (r223258.2.2.2.2.2.2.1,r223260.1,()))
   (cond (decide (r223258.2.2.2.2.2.2.1<r223258.2.1))
    (some (r223258.2.2.2.2.2.2.1,r223260.1,()))
    (some (r223258.2.1,r223258.2.2.1,()))))
  (some (r223258.2.1,r223258.2.2.1,()))
def qcp(F:Nat)(rec:Int→LI→Int→Bool→Int→Int→LI→Int→Option (Int×LI×Int×Bool×Int×Int×Unit))(x0:Int)(x1:LI)(x2:Int)(x3:Bool)(x4:Int)(x5:Int)(x6:LI)(x7:Int):Option (Int×LI×Int×Bool×Int×Int×Unit):=
 cond (decide (x7<16))
  (cond ((decide (0≤x7))&&(decide (x7<16)))
   (let b223544:Bool:=((decide (0≤x2))&&(decide (x2<4)))
   cond b223544
    (let v223546:Int:=(y7 (y8 4 (y9 ((y6 x7)*4) x6)) (y6 x2) 0)
    cond b223544
     (rec x0 x1 x2 x3 (min x4 v223546) (max x5 v223546) x6 (y0 .i64 (x7+1)))
      none)
     none)
    none)
  (some (x0,x1,x2,x3,x4,x5,()))
def q6j(F:Nat):Nat→Int→LI→Int→Bool→Int→Int→LI→Int→Option (Int×LI×Int×Bool×Int×Int×Unit)
 |0,_,_,_,_,_,_,_,_=>none
 |k+1,x0,x1,x2,x3,x4,x5,x6,x7=>qcp F (q6j F k) x0 x1 x2 x3 x4 x5 x6 x7
def qcq(F:Nat)(rec:Int→LI→LI→Bool→Int→Int→Int→Int→Int→Int→Int→Int→Option (Int×LI×LI×Bool×Int×Int×Int×Int×Int×Int×Unit))(x0:Int)(x1:LI)(x2:LI)(x3:Bool)(x4:Int)(x5:Int)(x6:Int)(x7:Int)(x8:Int)(x9:Int)(x10:Int)(x11:Int):Option (Int×LI×LI×Bool×Int×Int×Int×Int×Int×Int×Unit):=
 cond (decide (x11<16))
  ((q6i F (y0 .i64 (x6+x7)) x11 x8 x2 x3 x4 x5 x1).bind fun r223739=>
  (q6i F (y0 .i64 (x6-x7)) x11 x8 x2 x3 x4 r223739.1 r223739.2.1).bind fun r223742=>
  rec x0 r223742.2.1 x2 x3 x4 r223742.1 x6 x7 x8 x9 x10 (y0 .i64 (x11+1)))
  (some (x0,x1,x2,x3,x4,x5,x6,x7,x9,x10,()))
def q6k(F:Nat):Nat→Int→LI→LI→Bool→Int→Int→Int→Int→Int→Int→Int→Int→Option (Int×LI×LI×Bool×Int×Int×Int×Int×Int×Int×Unit)
 |0,_,_,_,_,_,_,_,_,_,_,_,_=>none
 |k+1,x0,x1,x2,x3,x4,x5,x6,x7,x8,x9,x10,x11=>qcq F (q6k F k) x0 x1 x2 x3 x4 x5 x6 x7 x8 x9 x10 x11
def qcr(F:Nat)(rec:Int→LI→LI→Bool→Int→Int→Int→Int→Int→Int→Option (Int×LI×LI×Bool×Int×Int×Int×Int×Unit))(x0:Int)(x1:LI)(x2:LI)(x3:Bool)(x4:Int)(x5:Int)(x6:Int)(x7:Int)(x8:Int)(x9:Int):Option (Int×LI×LI×Bool×Int×Int×Int×Int×Unit):=
 cond (decide (x9<16))
  ((q6k F F x0 x1 x2 x3 x4 x5 x6 x7 x9 x8 x9 0).bind fun r223745=>
  rec r223745.1 r223745.2.1 r223745.2.2.1 r223745.2.2.2.1 r223745.2.2.2.2.1 r223745.2.2.2.2.2.1 r223745.2.2.2.2.2.2.1 r223745.2.2.2.2.2.2.2.1 r223745.2.2.2.2.2.2.2.2.1 (y0 .i64 (r223745.2.2.2.2.2.2.2.2.2.1+1)))
  (some (x0,x1,x2,x3,x4,x5,x6,x8,()))
def q4v(F:Nat):Nat→Int→LI→LI→Bool→Int→Int→Int→Int→Int→Int→Option (Int×LI×LI×Bool×Int×Int×Int×Int×Unit)
 |0,_,_,_,_,_,_,_,_,_,_=>none
 |k+1,x0,x1,x2,x3,x4,x5,x6,x7,x8,x9=>qcr F (q4v F k) x0 x1 x2 x3 x4 x5 x6 x7 x8 x9
def q2h(F:Nat)(rec:Int→LI→LI→Bool→Int→Int→Int→Int→Option (LI×Unit))(x0:Int)(x1:LI)(x2:LI)(x3:Bool)(x4:Int)(x5:Int)(x6:Int)(x7:Int):Option (LI×Unit):=
 cond (decide (x7<3))
  (cond (decide (0<x7))
   (cond (decide (x0<2))
    (some (x1,()))
    ((q4v F F x0 x1 x2 x3 x4 x5 x6 x7 x7 0).bind fun r223748=>
    rec r223748.1 r223748.2.1 r223748.2.2.1 r223748.2.2.2.1 r223748.2.2.2.2.1 r223748.2.2.2.2.2.1 r223748.2.2.2.2.2.2.1 (y0 .i64 (r223748.2.2.2.2.2.2.2.1+1))))
   ((q4v F F x0 x1 x2 x3 x4 x5 x6 x7 x7 0).bind fun r223765=>
   rec r223765.1 r223765.2.1 r223765.2.2.1 r223765.2.2.2.1 r223765.2.2.2.2.1 r223765.2.2.2.2.2.1 r223765.2.2.2.2.2.2.1 (y0 .i64 (r223765.2.2.2.2.2.2.2.1+1))))
  (some (x1,()))
def q14(F:Nat):Nat→Int→LI→LI→Bool→Int→Int→Int→Int→Option (LI×Unit)
 |0,_,_,_,_,_,_,_,_=>none
 |k+1,x0,x1,x2,x3,x4,x5,x6,x7=>q2h F (q14 F k) x0 x1 x2 x3 x4 x5 x6 x7
def q99(F:Nat)(a0:LI)(a1:Int)(a2:Bool)(a3:Int):Option (LI×Unit):=
 let b223523:Bool:=((decide (0≤a1))&&(decide (a1<4)))
 cond b223523
  (let v223525:Int:=(y7 a0 (y6 a1) 0)
  cond b223523
   ((q6j F F a3 a0 a1 a2 v223525 v223525 a0 0).bind fun r223550=>
   cond r223550.2.2.2.1
    ((q14 F F r223550.1 [] r223550.2.1 r223550.2.2.2.1 r223550.2.2.1 (-1) (y0 .i64 (yw (y0 .i64 (yw (y0 .i64 (r223550.2.2.2.2.1+r223550.2.2.2.2.2.1)) 2)) 8)) 0).bind fun r223768=>
    some (r223768.1,()))
    ((q14 F F r223550.1 [] r223550.2.1 r223550.2.2.2.1 r223550.2.2.1 (-1) (y0 .i64 (yw (y0 .i64 (yw (y0 .i64 (r223550.2.2.2.2.1+r223550.2.2.2.2.2.1)) 2)) 1)) 0).bind fun r223811=>
    some (r223811.1,())))
    none)
   none
def q44(F:Nat)(a0:LI)(a1:LI)(a2:Int)(a3:LI)(a4:Int)(a5:LI):Option (Int×LI×LI×LI×Int×Unit):=
 (q98 F a2 a5 a3).bind fun r223830=>
 cond (r223830.2.1==0)
  (cond (decide (r223830.1<a4))
   (some (a2,a3,a0,a5,r223830.1,()))
   (some (a2,a3,a0,a1,a4,())))
  (some (a2,a3,a0,a1,a4,()))
def q5e(F:Nat)(rec:Bool→Int→LI→LI→LI→Int→LI→Int→Option (Bool×Int×LI×LI×LI×Int×Unit))(x0:Bool)(x1:Int)(x2:LI)(x3:LI)(x4:LI)(x5:Int)(x6:LI)(x7:Int):Option (Bool×Int×LI×LI×LI×Int×Unit):=
 cond (decide (x7<4))
  (let b224011:Bool:=((decide (0≤x7))&&(decide (x7<4)))
  cond b224011
   (cond b224011
    (cond b224011
     (rec x0 x1 x2 (yx x3 (y6 x7) (y0 .i64 ((y7 x3 (y6 x7) 0)+(y7 x6 (y6 x7) 0)))) x4 x5 x6 (y0 .i64 (x7+1)))
      none)
     none)
    none)
  (some (x0,x1,x2,x3,x4,x5,()))
def q1t(F:Nat):Nat→Bool→Int→LI→LI→LI→Int→LI→Int→Option (Bool×Int×LI×LI×LI×Int×Unit)
 |0,_,_,_,_,_,_,_,_=>none
 |k+1,x0,x1,x2,x3,x4,x5,x6,x7=>q5e F (q1t F k) x0 x1 x2 x3 x4 x5 x6 x7
def q5f(F:Nat)(rec:Bool→Int→LI→LI→LI→Int→Option (LI×LI×Unit))(x0:Bool)(x1:Int)(x2:LI)(x3:LI)(x4:LI)(x5:Int):Option (LI×LI×Unit):=
 cond (decide (x5<16))
  (cond ((decide (0≤x5))&&(decide (x5<16)))
   ((q90 F x0 x5).bind fun r224000=>
   cond (r224000.1==x1)
    ((q1t F F x0 x1 x2 x3 x4 x5 (y8 4 (y9 ((y6 x5)*4) x4)) 0).bind fun r224018=>
    rec r224018.1 r224018.2.1 r224018.2.2.1 r224018.2.2.2.1 r224018.2.2.2.2.1 (y0 .i64 (r224018.2.2.2.2.2.1+1)))
    (rec x0 x1 x2 x3 x4 (y0 .i64 (x5+1))))
    none)
  (some (x2,x3,()))
def q2w(F:Nat):Nat→Bool→Int→LI→LI→LI→Int→Option (LI×LI×Unit)
 |0,_,_,_,_,_,_=>none
 |k+1,x0,x1,x2,x3,x4,x5=>q5f F (q2w F k) x0 x1 x2 x3 x4 x5
def q5g(F:Nat)(rec:LI→LI→Int→Option (LI×LI×Unit))(x0:LI)(x1:LI)(x2:Int):Option (LI×LI×Unit):=
 cond (decide (x2<4))
  (let b224033:Bool:=((decide (0≤x2))&&(decide (x2<4)))
  cond b224033
   (cond b224033
    (rec x0 (yx x1 (y6 x2) (y0 .i64 (yw (y7 x1 (y6 x2) 0) 8))) (y0 .i64 (x2+1)))
     none)
    none)
  (some (x0,x1,()))
def q2x(F:Nat):Nat→LI→LI→Int→Option (LI×LI×Unit)
 |0,_,_,_=>none
 |k+1,x0,x1,x2=>q5g F (q2x F k) x0 x1 x2
def q1j(F:Nat)(a0:LI)(a1:LI)(a2:Int)(a3:LI)(a4:Int)(a5:Bool)(a6:Int):Option (LI×Unit):=
 (q2w F F a5 a6 [0,0,0,0] [0,0,0,0] a3 0).bind fun r224021=>
 (q2x F F r224021.1 r224021.2.1 0).bind fun r224039=>
 some (r224039.2.1,())
def q8q(F:Nat)(rec:Bool→LI→LI→LI→Int→Int→LI→Int→Int→Option (Bool×LI×LI×LI×Int×LI×Int×Unit))(x0:Bool)(x1:LI)(x2:LI)(x3:LI)(x4:Int)(x5:Int)(x6:LI)(x7:Int)(x8:Int):Option (Bool×LI×LI×LI×Int×LI×Int×Unit):=
 cond (decide (x8<3))
  (let b224313:Bool:=((decide (0≤x8))&&(decide (x8<4)))
  cond b224313
   ((q30 F (y0 .i64 ((y7 x1 (y6 x8) 0)+x5)) 255).bind fun r224317=>
   cond ((decide (0≤x4))&&(decide (x4<4)))
    (cond b224313
     (rec x0 x1 x2 (yx x3 (((y6 x4)*4)+(y6 x8)) r224317.1) x4 x5 x6 x7 (y0 .i64 (x8+1)))
      none)
     none)
    none)
  (some (x0,x1,x2,x3,x4,x6,x7,()))
def q15(F:Nat):Nat→Bool→LI→LI→LI→Int→Int→LI→Int→Int→Option (Bool×LI×LI×LI×Int×LI×Int×Unit)
 |0,_,_,_,_,_,_,_,_,_=>none
 |k+1,x0,x1,x2,x3,x4,x5,x6,x7,x8=>q8q F (q15 F k) x0 x1 x2 x3 x4 x5 x6 x7 x8
def q8r(F:Nat)(rec:Bool→LI→LI→LI→LI→Int→Option (LI×LI×Unit))(x0:Bool)(x1:LI)(x2:LI)(x3:LI)(x4:LI)(x5:Int):Option (LI×LI×Unit):=
 cond (decide (x5<4))
  (cond ((decide (0≤x5))&&(decide (x5<4)))
   (let v224298:Int:=(y7 x4 (y6 x5) 0)
   cond (!x0)
    (cond (x5==0)
     ((q15 F F x0 x1 x2 x3 x5 0 x4 x5 0).bind fun r224323=>
     let b224324:Bool:=((decide (0≤r224323.2.2.2.2.1))&&(decide (r224323.2.2.2.2.1<4)))
     cond b224324
      (let n224325:Nat:=((y6 r224323.2.2.2.2.1)*4)
      let l224327:LI:=(yx r224323.2.2.2.1 (3+n224325) 255)
      cond (!r224323.1)
       (cond (r224323.2.2.2.2.1==2)
        (cond b224324
         (rec r224323.1 r224323.2.1 r224323.2.2.1 (((y8 n224325 l224327)++[0,0,0,0])++(y9 (n224325+4) l224327)) r224323.2.2.2.2.2.1 (y0 .i64 (r224323.2.2.2.2.2.2.1+1)))
          none)
        (rec r224323.1 r224323.2.1 r224323.2.2.1 l224327 r224323.2.2.2.2.2.1 (y0 .i64 (r224323.2.2.2.2.2.2.1+1))))
       (rec r224323.1 r224323.2.1 r224323.2.2.1 l224327 r224323.2.2.2.2.2.1 (y0 .i64 (r224323.2.2.2.2.2.2.1+1))))
       none)
     ((q15 F F x0 x1 x2 x3 x5 v224298 x4 x5 0).bind fun r224345=>
     let b224346:Bool:=((decide (0≤r224345.2.2.2.2.1))&&(decide (r224345.2.2.2.2.1<4)))
     cond b224346
      (let n224347:Nat:=((y6 r224345.2.2.2.2.1)*4)
      let l224349:LI:=(yx r224345.2.2.2.1 (3+n224347) 255)
      cond (!r224345.1)
       (cond (r224345.2.2.2.2.1==2)
        (cond b224346
         (rec r224345.1 r224345.2.1 r224345.2.2.1 (((y8 n224347 l224349)++[0,0,0,0])++(y9 (n224347+4) l224349)) r224345.2.2.2.2.2.1 (y0 .i64 (r224345.2.2.2.2.2.2.1+1)))
          none)
        (rec r224345.1 r224345.2.1 r224345.2.2.1 l224349 r224345.2.2.2.2.2.1 (y0 .i64 (r224345.2.2.2.2.2.2.1+1))))
       (rec r224345.1 r224345.2.1 r224345.2.2.1 l224349 r224345.2.2.2.2.2.1 (y0 .i64 (r224345.2.2.2.2.2.2.1+1))))
       none))
    ((q15 F F x0 x1 x2 x3 x5 v224298 x4 x5 0).bind fun r224367=>
    let b224368:Bool:=((decide (0≤r224367.2.2.2.2.1))&&(decide (r224367.2.2.2.2.1<4)))
    cond b224368
     (let n224369:Nat:=((y6 r224367.2.2.2.2.1)*4)
     let l224371:LI:=(yx r224367.2.2.2.1 (3+n224369) 255)
     cond (!r224367.1)
      (cond (r224367.2.2.2.2.1==2)
       (cond b224368
        (rec r224367.1 r224367.2.1 r224367.2.2.1 (((y8 n224369 l224371)++[0,0,0,0])++(y9 (n224369+4) l224371)) r224367.2.2.2.2.2.1 (y0 .i64 (r224367.2.2.2.2.2.2.1+1)))
         none)
       (rec r224367.1 r224367.2.1 r224367.2.2.1 l224371 r224367.2.2.2.2.2.1 (y0 .i64 (r224367.2.2.2.2.2.2.1+1))))
      (rec r224367.1 r224367.2.1 r224367.2.2.1 l224371 r224367.2.2.2.2.2.1 (y0 .i64 (r224367.2.2.2.2.2.2.1+1))))
      none))
    none)
  (some (x2,x3,()))
def q51(F:Nat):Nat→Bool→LI→LI→LI→LI→Int→Option (LI×LI×Unit)
 |0,_,_,_,_,_,_=>none
 |k+1,x0,x1,x2,x3,x4,x5=>q8r F (q51 F k) x0 x1 x2 x3 x4 x5
def qad(F:Nat)(a0:LI)(a1:Int)(a2:Bool):Option (LI×Unit):=
 (qbg F a1).bind fun r224177=>
 (q51 F F a2 a0 q01 q01 r224177.1 0).bind fun r224378=>
 some (r224378.2.1,())
def q6a(F:Nat)(a0:LI)(a1:LI)(a2:Int)(a3:LI)(a4:Int)(a5:Int):Option (LI×Unit):=
 cond ((decide (0≤a5))&&(decide (a5<16)))
  (let l224395:LI:=(y8 4 (y9 ((y6 a5)*4) a3))
  cond (a2 !=9)
   (some ((yx l224395 3 255),()))
   (some (l224395,())))
   none
def qes(F:Nat)(rec:LI→LI→Int→Int→Option (Int×Unit))(x0:LI)(x1:LI)(x2:Int)(x3:Int):Option (Int×Unit):=
 cond (decide (x3<4))
  (let b224418:Bool:=((decide (0≤x3))&&(decide (x3<4)))
  cond b224418
   (cond b224418
    (let v224422:Int:=(y0 .i64 ((y7 x0 (y6 x3) 0)-(y7 x1 (y6 x3) 0)))
    cond b224418
     (cond b224418
      (rec x0 x1 (y0 .i64 (x2+(y0 .i64 (v224422*v224422)))) (y0 .i64 (x3+1)))
       none)
      none)
     none)
    none)
  (some (x2,()))
def q9u(F:Nat):Nat→LI→LI→Int→Int→Option (Int×Unit)
 |0,_,_,_,_=>none
 |k+1,x0,x1,x2,x3=>qes F (q9u F k) x0 x1 x2 x3
def qhq(F:Nat)(a0:LI)(a1:LI):Option (Int×Unit):=
 (q9u F F a0 a1 0 0).bind fun r224426=>
 some (r224426.1,())
def q16(F:Nat)(a0:Int)(a1:LI)(a2:LI):Option (Int×Unit):=
 cond ((decide (0≤a0))&&(decide (a0<4)))
  ((qhq F a1 (y8 4 (y9 ((y6 a0)*4) a2))).bind fun r224431=>
  some (r224431.1,()))
   none
def q4c(F:Nat)(rec:Int→LI→LI→Int→Int→Option (Int×Unit))(x0:Int)(x1:LI)(x2:LI)(x3:Int)(x4:Int):Option (Int×Unit):=
 cond (decide (x4<x0))
  ((q16 F x4 x1 x2).bind fun r224459=>
  (q16 F x3 x1 x2).bind fun r224460=>
  cond (decide (r224459.1<r224460.1))
   (rec x0 x1 x2 x4 (y0 .i64 (x4+1)))
   (rec x0 x1 x2 x3 (y0 .i64 (x4+1))))
  (some (x3,()))
def q0h(F:Nat):Nat→Int→LI→LI→Int→Int→Option (Int×Unit)
 |0,_,_,_,_,_=>none
 |k+1,x0,x1,x2,x3,x4=>q4c F (q0h F k) x0 x1 x2 x3 x4
def q1k(F:Nat)(a0:Int)(a1:LI)(a2:LI):Option (Int×Unit):=
 (q0h F F a0 a1 a2 0 1).bind fun r224464=>
 some (r224464.1,())
def q3e(F:Nat)(rec:Int→Bool→Bool→LI→LI→LI→LI→LI→LI→Int→LI→Int→LI→Int→Int→Option (Int×Unit))(x0:Int)(x1:Bool)(x2:Bool)(x3:LI)(x4:LI)(x5:LI)(x6:LI)(x7:LI)(x8:LI)(x9:Int)(x10:LI)(x11:Int)(x12:LI)(x13:Int)(x14:Int):Option (Int×Unit):=
 cond (decide (x14<16))
  ((q90 F x2 x14).bind fun r224534=>
  cond (r224534.1==x0)
   ((q6a F x7 x8 x9 x10 x11 x14).bind fun r224536=>
   (q1k F 4 r224536.1 x12).bind fun r224537=>
   cond ((decide (0≤r224537.1))&&(decide (r224537.1<4)))
    ((qhq F r224536.1 (y8 4 (y9 ((y6 r224537.1)*4) x12))).bind fun r224541=>
    rec x0 x1 x2 x3 x4 x5 x6 x7 x8 x9 x10 x11 x12 (y0 .i64 (x13+r224541.1)) (y0 .i64 (x14+1)))
     none)
   (rec x0 x1 x2 x3 x4 x5 x6 x7 x8 x9 x10 x11 x12 x13 (y0 .i64 (x14+1))))
  (some (x13,()))
def q17(F:Nat):Nat→Int→Bool→Bool→LI→LI→LI→LI→LI→LI→Int→LI→Int→LI→Int→Int→Option (Int×Unit)
 |0,_,_,_,_,_,_,_,_,_,_,_,_,_,_,_=>none
 |k+1,x0,x1,x2,x3,x4,x5,x6,x7,x8,x9,x10,x11,x12,x13,x14=>q3e F (q17 F k) x0 x1 x2 x3 x4 x5 x6 x7 x8 x9 x10 x11 x12 x13 x14
def q2c(F:Nat)(a0:Int)(a1:LI)(a2:Int)(a3:Bool)(a4:Bool)(a5:Bool)(a6:LI)(a7:LI)(a8:LI)(a9:LI)(a10:LI)(a11:LI)(a12:Int)(a13:LI)(a14:Int):Option (Int×Unit):=
 cond ((decide (0≤a2))&&(decide (a2<2)))
  ((qad F (y8 4 (y9 ((y6 a2)*4) a1)) a0 a3).bind fun r224505=>
  (q17 F F a2 a4 a5 a6 a7 a8 a9 a10 a11 a12 a13 a14 r224505.1 0 0).bind fun r224545=>
  some (r224545.1,()))
   none
def q5j(F:Nat)(rec:Int→LI→Int→Bool→Bool→Bool→LI→LI→LI→LI→LI→LI→Int→LI→Int→Int→Int→Option (Int×Unit))(x0:Int)(x1:LI)(x2:Int)(x3:Bool)(x4:Bool)(x5:Bool)(x6:LI)(x7:LI)(x8:LI)(x9:LI)(x10:LI)(x11:LI)(x12:Int)(x13:LI)(x14:Int)(x15:Int)(x16:Int):Option (Int×Unit):=
 cond (decide (x16<x0))
  ((q2c F x16 x1 x2 x3 x4 x5 x6 x7 x8 x9 x10 x11 x12 x13 x14).bind fun r224585=>
  (q2c F x15 x1 x2 x3 x4 x5 x6 x7 x8 x9 x10 x11 x12 x13 x14).bind fun r224586=>
  cond (decide (r224585.1<r224586.1))
   (rec x0 x1 x2 x3 x4 x5 x6 x7 x8 x9 x10 x11 x12 x13 x14 x16 (y0 .i64 (x16+1)))
   (rec x0 x1 x2 x3 x4 x5 x6 x7 x8 x9 x10 x11 x12 x13 x14 x15 (y0 .i64 (x16+1))))
  (some (x15,()))
def q0o(F:Nat):Nat→Int→LI→Int→Bool→Bool→Bool→LI→LI→LI→LI→LI→LI→Int→LI→Int→Int→Int→Option (Int×Unit)
 |0,_,_,_,_,_,_,_,_,_,_,_,_,_,_,_,_,_=>none
 |k+1,x0,x1,x2,x3,x4,x5,x6,x7,x8,x9,x10,x11,x12,x13,x14,x15,x16=>q5j F (q0o F k) x0 x1 x2 x3 x4 x5 x6 x7 x8 x9 x10 x11 x12 x13 x14 x15 x16
def q26(F:Nat)(a0:Int)(a1:LI)(a2:Int)(a3:Bool)(a4:Bool)(a5:Bool)(a6:LI)(a7:LI)(a8:LI)(a9:LI)(a10:LI)(a11:LI)(a12:Int)(a13:LI)(a14:Int):Option (Int×Unit):=
 (q0o F F a0 a1 a2 a3 a4 a5 a6 a7 a8 a9 a10 a11 a12 a13 a14 0 1).bind fun r224590=>
 some (r224590.1,())
def q2d(F:Nat)(a0:Int)(a1:LI)(a2:LI):Option (Int×Unit):=
 cond ((decide (0≤a0))&&(decide (a0<4)))
  ((qhq F a1 (y8 4 (y9 ((y6 a0)*4) a2))).bind fun r224609=>
  some (r224609.1,()))
   none
def q5k(F:Nat)(rec:Int→LI→LI→Int→Int→Option (Int×Unit))(x0:Int)(x1:LI)(x2:LI)(x3:Int)(x4:Int):Option (Int×Unit):=
 cond (decide (x4<x0))
  ((q2d F x4 x1 x2).bind fun r224637=>
  (q2d F x3 x1 x2).bind fun r224638=>
  cond (decide (r224637.1<r224638.1))
   (rec x0 x1 x2 x4 (y0 .i64 (x4+1)))
   (rec x0 x1 x2 x3 (y0 .i64 (x4+1))))
  (some (x3,()))
def q0p(F:Nat):Nat→Int→LI→LI→Int→Int→Option (Int×Unit)
 |0,_,_,_,_,_=>none
 |k+1,x0,x1,x2,x3,x4=>q5k F (q0p F k) x0 x1 x2 x3 x4
def q27(F:Nat)(a0:Int)(a1:LI)(a2:LI):Option (Int×Unit):=
 (q0p F F a0 a1 a2 0 1).bind fun r224642=>
 some (r224642.1,())
def q25(F:Nat)(a0:LI)(a1:LI)(a2:Int)(a3:LI)(a4:Int)(a5:LI):Option (Int×LI×LI×LI×Int×Unit):=
 let v225150:Int:=(((ya a0):Nat):Int)
 cond ((decide (0≤v225150))&&((decide (0≤v225150))&&((decide ((y6 v225150)≤(ya a0)))&&(decide ((y6 v225150)=(y6 v225150))))))
  (cond ((decide (((y6 v225150)+(ya a5))≤1099511627776))&&(decide (0<(ya a5))))
   ((q44 F a0 a1 a2 a3 a4 ((y8 (y6 v225150) a0)++a5)).bind fun r225156=>
   some (r225156.1,r225156.2.1,r225156.2.2.1,r225156.2.2.2.1,r225156.2.2.2.2.1,()))
    none)
   none
def q4j(F:Nat)(rec:LI→LI→Int→LI→Int→Bool→Bool→LI→LI→LI→LI→Bool→LI→Int→LI→Int→Int→Option (LI×LI×Int×LI×Int×Bool×Bool×LI×LI×LI×LI×Bool×LI×Int×Unit))(x0:LI)(x1:LI)(x2:Int)(x3:LI)(x4:Int)(x5:Bool)(x6:Bool)(x7:LI)(x8:LI)(x9:LI)(x10:LI)(x11:Bool)(x12:LI)(x13:Int)(x14:LI)(x15:Int)(x16:Int):Option (LI×LI×Int×LI×Int×Bool×Bool×LI×LI×LI×LI×Bool×LI×Int×Unit):=
 cond (decide (x16<16))
  ((q6a F x0 x1 x2 x3 x4 x16).bind fun r225275=>
  (q90 F x6 x16).bind fun r225276=>
  cond (r225276.1==x13)
   ((q27 F 4 r225275.1 x14).bind fun r225278=>
   cond ((decide (0≤x16))&&(decide (x16<16)))
    (rec x0 x1 x2 x3 x4 x5 x6 x7 x8 x9 (yx x10 (y6 x16) r225278.1) x11 x12 x13 x14 x15 (y0 .i64 (x16+1)))
     none)
   (rec x0 x1 x2 x3 x4 x5 x6 x7 x8 x9 x10 x11 x12 x13 x14 x15 (y0 .i64 (x16+1))))
  (some (x0,x1,x2,x3,x4,x5,x6,x7,x8,x9,x10,x11,x12,x15,()))
def q1c(F:Nat):Nat→LI→LI→Int→LI→Int→Bool→Bool→LI→LI→LI→LI→Bool→LI→Int→LI→Int→Int→Option (LI×LI×Int×LI×Int×Bool×Bool×LI×LI×LI×LI×Bool×LI×Int×Unit)
 |0,_,_,_,_,_,_,_,_,_,_,_,_,_,_,_,_,_=>none
 |k+1,x0,x1,x2,x3,x4,x5,x6,x7,x8,x9,x10,x11,x12,x13,x14,x15,x16=>q4j F (q1c F k) x0 x1 x2 x3 x4 x5 x6 x7 x8 x9 x10 x11 x12 x13 x14 x15 x16
def q4k(F:Nat)(rec:LI→LI→Int→LI→Int→Bool→Bool→LI→LI→LI→LI→Bool→LI→Int→Option (LI×LI×Int×LI×Int×Bool×Bool×LI×LI×LI×LI×Bool×Unit))(x0:LI)(x1:LI)(x2:Int)(x3:LI)(x4:Int)(x5:Bool)(x6:Bool)(x7:LI)(x8:LI)(x9:LI)(x10:LI)(x11:Bool)(x12:LI)(x13:Int):Option (LI×LI×Int×LI×Int×Bool×Bool×LI×LI×LI×LI×Bool×Unit):=
 cond (decide (x13<2))
  ((q26 F 8 x12 x13 x11 x5 x6 x7 x8 x9 x10 x0 x1 x2 x3 x4).bind fun r225252=>
  let b225253:Bool:=((decide (0≤x13))&&(decide (x13<2)))
  cond b225253
   (let l225255:LI:=(yx x9 (y6 x13) r225252.1)
   cond b225253
    (cond b225253
     ((qad F (y8 4 (y9 ((y6 x13)*4) x12)) (y7 l225255 (y6 x13) 0) x11).bind fun r225259=>
     (q1c F F x0 x1 x2 x3 x4 x5 x6 x7 x8 l225255 x10 x11 x12 x13 r225259.1 x13 0).bind fun r225284=>
     rec r225284.1 r225284.2.1 r225284.2.2.1 r225284.2.2.2.1 r225284.2.2.2.2.1 r225284.2.2.2.2.2.1 r225284.2.2.2.2.2.2.1 r225284.2.2.2.2.2.2.2.1 r225284.2.2.2.2.2.2.2.2.1 r225284.2.2.2.2.2.2.2.2.2.1 r225284.2.2.2.2.2.2.2.2.2.2.1 r225284.2.2.2.2.2.2.2.2.2.2.2.1 r225284.2.2.2.2.2.2.2.2.2.2.2.2.1 (y0 .i64 (r225284.2.2.2.2.2.2.2.2.2.2.2.2.2.1+1)))
      none)
     none)
    none)
  (some (x0,x1,x2,x3,x4,x5,x6,x7,x8,x9,x10,x11,()))
def q1d(F:Nat):Nat→LI→LI→Int→LI→Int→Bool→Bool→LI→LI→LI→LI→Bool→LI→Int→Option (LI×LI×Int×LI×Int×Bool×Bool×LI×LI×LI×LI×Bool×Unit)
 |0,_,_,_,_,_,_,_,_,_,_,_,_,_,_=>none
 |k+1,x0,x1,x2,x3,x4,x5,x6,x7,x8,x9,x10,x11,x12,x13=>q4k F (q1d F k) x0 x1 x2 x3 x4 x5 x6 x7 x8 x9 x10 x11 x12 x13
def q08(F:Nat)(a0:LI)(a1:LI)(a2:Int)(a3:LI)(a4:Int)(a5:(Bool×Bool×LI×LI×LI×LI×Unit))(a6:Bool):Option (Int×LI×LI×LI×Int×Unit):=
 (q8z F (a5.1,a5.2.1,a5.2.2.1,a5.2.2.2.1,a5.2.2.2.2.1,a5.2.2.2.2.2.1,())).bind fun r225167=>
 cond (r225167.2.1 !=3)
  (some (a2,a3,a0,a1,a4,()))
  ((q1d F F a0 a1 a2 a3 a4 a5.1 a5.2.1 a5.2.2.1 a5.2.2.2.1 a5.2.2.2.2.1 a5.2.2.2.2.2.1 a6 r225167.1 0).bind fun r225288=>
  (qb5 F (r225288.2.2.2.2.2.1,r225288.2.2.2.2.2.2.1,r225288.2.2.2.2.2.2.2.1,r225288.2.2.2.2.2.2.2.2.1,r225288.2.2.2.2.2.2.2.2.2.1,r225288.2.2.2.2.2.2.2.2.2.2.1,())).bind fun r225291=>
  cond (r225291.2.1 !=0)
   (some (r225288.2.2.1,r225288.2.2.2.1,r225288.1,r225288.2.1,r225288.2.2.2.2.1,()))
   (cond (!r225288.2.2.2.2.2.2.2.2.2.2.2.1)
    ((q2p F r225291.1 30 1 0).bind fun r225295=>
    (q25 F r225288.1 r225288.2.1 r225288.2.2.1 r225288.2.2.2.1 r225288.2.2.2.2.1 r225295.1).bind fun r225297=>
    some (r225297.1,r225297.2.1,r225297.2.2.1,r225297.2.2.2.1,r225297.2.2.2.2.1,()))
    ((q25 F r225288.1 r225288.2.1 r225288.2.2.1 r225288.2.2.2.1 r225288.2.2.2.2.1 r225291.1).bind fun r225300=>
    some (r225300.1,r225300.2.1,r225300.2.2.1,r225300.2.2.2.1,r225300.2.2.2.2.1,()))))
def q45(F:Nat)(rec:LI→LI→Int→LI→Int→LI→LI→Bool→LI→LI→LI→LI→Bool→LI→LI→LI→LI→(Bool×Bool×Unit)→Int→Int→Option (LI×LI×Int×LI×Int×Bool×LI×LI×LI×LI×Bool×LI×LI×LI×LI×(Bool×Bool×Unit)×Int×Unit))(x0:LI)(x1:LI)(x2:Int)(x3:LI)(x4:Int)(x5:LI)(x6:LI)(x7:Bool)(x8:LI)(x9:LI)(x10:LI)(x11:LI)(x12:Bool)(x13:LI)(x14:LI)(x15:LI)(x16:LI)(x17:(Bool×Bool×Unit))(x18:Int)(x19:Int):Option (LI×LI×Int×LI×Int×Bool×LI×LI×LI×LI×Bool×LI×LI×LI×LI×(Bool×Bool×Unit)×Int×Unit):=
 cond (decide (x19<3))
  (let b225725:Bool:=((decide (0≤x19))&&(decide (x19<4)))
  cond b225725
   (let v225727:Int:=(y7 x5 (y6 x19) 0)
   (q9m F v225727 5).bind fun r225728=>
   let b225729:Bool:=((decide (0≤x19))&&(decide (x19<3)))
   cond b225729
    (let l225730:LI:=(yx x8 (y6 x19) r225728.1)
    cond b225725
     (let v225731:Int:=(y7 x6 (y6 x19) 0)
     (q9m F v225731 5).bind fun r225732=>
     cond b225729
      (cond b225729
       (cond b225725
        (cond b225725
         ((q9m F v225727 4).bind fun r225738=>
         cond b225729
          ((q9m F v225731 4).bind fun r225739=>
          cond b225729
           (rec x0 x1 x2 x3 x4 x5 x6 x7 l225730 (yx x9 (y6 x19) (max (-4) (min (y0 .i64 (r225732.1-(y7 l225730 (y6 x19) 0))) 3))) x10 x11 x12 (yx x13 (y6 x19) r225738.1) (yx x14 (y6 x19) r225739.1) x15 x16 (x17.1,x17.2.1,()) x18 (y0 .i64 (x19+1)))
            none)
           none)
          none)
         none)
        none)
       none)
      none)
     none)
    none)
  (some (x0,x1,x2,x3,x4,x7,x8,x9,x10,x11,x12,x13,x14,x15,x16,(x17.1,x17.2.1,()),x18,()))
def q0f(F:Nat):Nat→LI→LI→Int→LI→Int→LI→LI→Bool→LI→LI→LI→LI→Bool→LI→LI→LI→LI→(Bool×Bool×Unit)→Int→Int→Option (LI×LI×Int×LI×Int×Bool×LI×LI×LI×LI×Bool×LI×LI×LI×LI×(Bool×Bool×Unit)×Int×Unit)
 |0,_,_,_,_,_,_,_,_,_,_,_,_,_,_,_,_,_,_,_,_=>none
 |k+1,x0,x1,x2,x3,x4,x5,x6,x7,x8,x9,x10,x11,x12,x13,x14,x15,x16,x17,x18,x19=>q45 F (q0f F k) x0 x1 x2 x3 x4 x5 x6 x7 x8 x9 x10 x11 x12 x13 x14 x15 x16 x17 x18 x19
def q1m(F:Nat)(rec:LI→LI→Int→LI→Int→(Bool×Bool×Unit)→Int→Option (LI×LI×Int×LI×Int×Unit))(x0:LI)(x1:LI)(x2:Int)(x3:LI)(x4:Int)(x5:(Bool×Bool×Unit))(x6:Int):Option (LI×LI×Int×LI×Int×Unit):=
 cond (decide (x6<2))
  (cond (x6==0)
   ((q1j F x0 x1 x2 x3 x4 x5.1 0).bind fun r225699=>
   (q1j F x0 x1 x2 x3 x4 x5.1 1).bind fun r225700=>
   (q0f F F x0 x1 x2 x3 x4 r225699.1 r225700.1 x5.1 [0,0,0] [0,0,0] [0,0] q01 x5.1 [0,0,0] [0,0,0] [0,0] q01 (x5.1,x5.2.1,()) 0 0).bind fun r225743=>
   (q08 F r225743.1 r225743.2.1 r225743.2.2.1 r225743.2.2.2.1 r225743.2.2.2.2.1 (true,r225743.2.2.2.2.2.1,r225743.2.2.2.2.2.2.1,r225743.2.2.2.2.2.2.2.1,r225743.2.2.2.2.2.2.2.2.1,r225743.2.2.2.2.2.2.2.2.2.1,()) true).bind fun r225746=>
   cond (r225746.1==9)
    ((q08 F r225746.2.2.1 r225746.2.2.2.1 r225746.1 r225746.2.1 r225746.2.2.2.2.1 (true,r225743.2.2.2.2.2.1,r225743.2.2.2.2.2.2.1,r225743.2.2.2.2.2.2.2.1,r225743.2.2.2.2.2.2.2.2.1,r225743.2.2.2.2.2.2.2.2.2.1,()) false).bind fun r225750=>
    rec r225750.2.2.1 r225750.2.2.2.1 r225750.1 r225750.2.1 r225750.2.2.2.2.1 (r225743.2.2.2.2.2.2.2.2.2.2.2.2.2.2.2.1.1,r225743.2.2.2.2.2.2.2.2.2.2.2.2.2.2.2.1.2.1,()) (y0 .i64 (r225743.2.2.2.2.2.2.2.2.2.2.2.2.2.2.2.2.1+1)))
    ((q08 F r225746.2.2.1 r225746.2.2.2.1 r225746.1 r225746.2.1 r225746.2.2.2.2.1 (false,r225743.2.2.2.2.2.2.2.2.2.2.1,r225743.2.2.2.2.2.2.2.2.2.2.2.1,r225743.2.2.2.2.2.2.2.2.2.2.2.2.1,r225743.2.2.2.2.2.2.2.2.2.2.2.2.2.1,r225743.2.2.2.2.2.2.2.2.2.2.2.2.2.2.1,()) true).bind fun r225754=>
    rec r225754.2.2.1 r225754.2.2.2.1 r225754.1 r225754.2.1 r225754.2.2.2.2.1 (r225743.2.2.2.2.2.2.2.2.2.2.2.2.2.2.2.1.1,r225743.2.2.2.2.2.2.2.2.2.2.2.2.2.2.2.1.2.1,()) (y0 .i64 (r225743.2.2.2.2.2.2.2.2.2.2.2.2.2.2.2.2.1+1))))
   (cond (x6==1)
    ((q1j F x0 x1 x2 x3 x4 x5.2.1 0).bind fun r225759=>
    (q1j F x0 x1 x2 x3 x4 x5.2.1 1).bind fun r225760=>
    (q0f F F x0 x1 x2 x3 x4 r225759.1 r225760.1 x5.2.1 [0,0,0] [0,0,0] [0,0] q01 x5.2.1 [0,0,0] [0,0,0] [0,0] q01 (x5.1,x5.2.1,()) 1 0).bind fun r225782=>
    (q08 F r225782.1 r225782.2.1 r225782.2.2.1 r225782.2.2.2.1 r225782.2.2.2.2.1 (true,r225782.2.2.2.2.2.1,r225782.2.2.2.2.2.2.1,r225782.2.2.2.2.2.2.2.1,r225782.2.2.2.2.2.2.2.2.1,r225782.2.2.2.2.2.2.2.2.2.1,()) true).bind fun r225785=>
    cond (r225785.1==9)
     ((q08 F r225785.2.2.1 r225785.2.2.2.1 r225785.1 r225785.2.1 r225785.2.2.2.2.1 (true,r225782.2.2.2.2.2.1,r225782.2.2.2.2.2.2.1,r225782.2.2.2.2.2.2.2.1,r225782.2.2.2.2.2.2.2.2.1,r225782.2.2.2.2.2.2.2.2.2.1,()) false).bind fun r225789=>
     rec r225789.2.2.1 r225789.2.2.2.1 r225789.1 r225789.2.1 r225789.2.2.2.2.1 (r225782.2.2.2.2.2.2.2.2.2.2.2.2.2.2.2.1.1,r225782.2.2.2.2.2.2.2.2.2.2.2.2.2.2.2.1.2.1,()) (y0 .i64 (r225782.2.2.2.2.2.2.2.2.2.2.2.2.2.2.2.2.1+1)))
     ((q08 F r225785.2.2.1 r225785.2.2.2.1 r225785.1 r225785.2.1 r225785.2.2.2.2.1 (false,r225782.2.2.2.2.2.2.2.2.2.2.1,r225782.2.2.2.2.2.2.2.2.2.2.2.1,r225782.2.2.2.2.2.2.2.2.2.2.2.2.1,r225782.2.2.2.2.2.2.2.2.2.2.2.2.2.1,r225782.2.2.2.2.2.2.2.2.2.2.2.2.2.2.1,()) true).bind fun r225793=>
     rec r225793.2.2.1 r225793.2.2.2.1 r225793.1 r225793.2.1 r225793.2.2.2.2.1 (r225782.2.2.2.2.2.2.2.2.2.2.2.2.2.2.2.1.1,r225782.2.2.2.2.2.2.2.2.2.2.2.2.2.2.2.1.2.1,()) (y0 .i64 (r225782.2.2.2.2.2.2.2.2.2.2.2.2.2.2.2.2.1+1))))
     none))
  (some (x0,x1,x2,x3,x4,()))
def q07(F:Nat):Nat→LI→LI→Int→LI→Int→(Bool×Bool×Unit)→Int→Option (LI×LI×Int×LI×Int×Unit)
 |0,_,_,_,_,_,_,_=>none
 |k+1,x0,x1,x2,x3,x4,x5,x6=>q1m F (q07 F k) x0 x1 x2 x3 x4 x5 x6
def q19(F:Nat)(a0:LI)(a1:LI)(a2:Int)(a3:LI)(a4:Int):Option (Int×LI×LI×LI×Int×Unit):=
 (q07 F F a0 a1 a2 a3 a4 (false,true,()) 0).bind fun r225797=>
 some (r225797.2.2.1,r225797.2.2.2.1,r225797.1,r225797.2.1,r225797.2.2.2.2.1,())
def q3f(F:Nat)(rec:Int→Int→Int→LI→Int→Option (Int×Unit))(x0:Int)(x1:Int)(x2:Int)(x3:LI)(x4:Int):Option (Int×Unit):=
 cond (decide (x4<16))
  (cond ((decide (0≤x4))&&(decide (x4<16)))
   (let b225928:Bool:=((decide (0≤x0))&&(decide (x0<4)))
   cond b225928
    (let v225931:Int:=(y0 .i64 ((y7 (y8 4 (y9 ((y6 x4)*4) x3)) (y6 x0) 0)-x1))
    cond b225928
     (rec x0 x1 (y0 .i64 (x2+(y0 .i64 (v225931*v225931)))) x3 (y0 .i64 (x4+1)))
      none)
     none)
    none)
  (some (x2,()))
def q18(F:Nat):Nat→Int→Int→Int→LI→Int→Option (Int×Unit)
 |0,_,_,_,_,_=>none
 |k+1,x0,x1,x2,x3,x4=>q3f F (q18 F k) x0 x1 x2 x3 x4
def q2e(F:Nat)(a0:Int)(a1:Int)(a2:LI)(a3:LI)(a4:Int)(a5:LI)(a6:Int)(a7:Int):Option (Int×Unit):=
 (q0z F a0 5).bind fun r225905=>
 (q30 F (y0 .i64 (r225905.1+a1)) 255).bind fun r225907=>
 (q18 F F a7 r225907.1 0 a5 0).bind fun r225935=>
 some (r225935.1,())
def q5l(F:Nat)(rec:Int→Int→LI→LI→Int→LI→Int→Int→Int→Int→Option (Int×Unit))(x0:Int)(x1:Int)(x2:LI)(x3:LI)(x4:Int)(x5:LI)(x6:Int)(x7:Int)(x8:Int)(x9:Int):Option (Int×Unit):=
 cond (decide (x9<x0))
  ((q2e F x9 x1 x2 x3 x4 x5 x6 x7).bind fun r225975=>
  (q2e F x8 x1 x2 x3 x4 x5 x6 x7).bind fun r225976=>
  cond (decide (r225975.1<r225976.1))
   (rec x0 x1 x2 x3 x4 x5 x6 x7 x9 (y0 .i64 (x9+1)))
   (rec x0 x1 x2 x3 x4 x5 x6 x7 x8 (y0 .i64 (x9+1))))
  (some (x8,()))
def q0q(F:Nat):Nat→Int→Int→LI→LI→Int→LI→Int→Int→Int→Int→Option (Int×Unit)
 |0,_,_,_,_,_,_,_,_,_,_=>none
 |k+1,x0,x1,x2,x3,x4,x5,x6,x7,x8,x9=>q5l F (q0q F k) x0 x1 x2 x3 x4 x5 x6 x7 x8 x9
def q28(F:Nat)(a0:Int)(a1:Int)(a2:LI)(a3:LI)(a4:Int)(a5:LI)(a6:Int)(a7:Int):Option (Int×Unit):=
 (q0q F F a0 a1 a2 a3 a4 a5 a6 a7 0 1).bind fun r225980=>
 some (r225980.1,())
def q4l(F:Nat)(rec:LI→LI→Int→LI→Int→Int→Int→Int→LI→LI→LI→LI→Int→LI→Int→Int→Option (LI×LI×Int×LI×Int×Int×Int×LI×LI×LI×LI×Int×LI×Int×Unit))(x0:LI)(x1:LI)(x2:Int)(x3:LI)(x4:Int)(x5:Int)(x6:Int)(x7:Int)(x8:LI)(x9:LI)(x10:LI)(x11:LI)(x12:Int)(x13:LI)(x14:Int)(x15:Int):Option (LI×LI×Int×LI×Int×Int×Int×LI×LI×LI×LI×Int×LI×Int×Unit):=
 cond (decide (x15<16))
  (cond ((decide (0≤x15))&&(decide (x15<16)))
   (rec x0 x1 x2 x3 x4 x5 x6 x7 x8 x9 x10 (yx x11 (y6 x15) x6) x12 x13 x14 (y0 .i64 (x15+1)))
    none)
  (some (x0,x1,x2,x3,x4,x5,x7,x8,x9,x10,x11,x12,x13,x14,()))
def q1e(F:Nat):Nat→LI→LI→Int→LI→Int→Int→Int→Int→LI→LI→LI→LI→Int→LI→Int→Int→Option (LI×LI×Int×LI×Int×Int×Int×LI×LI×LI×LI×Int×LI×Int×Unit)
 |0,_,_,_,_,_,_,_,_,_,_,_,_,_,_,_,_=>none
 |k+1,x0,x1,x2,x3,x4,x5,x6,x7,x8,x9,x10,x11,x12,x13,x14,x15=>q4l F (q1e F k) x0 x1 x2 x3 x4 x5 x6 x7 x8 x9 x10 x11 x12 x13 x14 x15
def q4m(F:Nat)(rec:LI→LI→Int→LI→Int→Int→Int→LI→LI→LI→LI→Int→LI→Int→Int→Option (LI×LI×Int×LI×Int×Int×LI×LI×LI×LI×Int×LI×Int×Unit))(x0:LI)(x1:LI)(x2:Int)(x3:LI)(x4:Int)(x5:Int)(x6:Int)(x7:LI)(x8:LI)(x9:LI)(x10:LI)(x11:Int)(x12:LI)(x13:Int)(x14:Int):Option (LI×LI×Int×LI×Int×Int×LI×LI×LI×LI×Int×LI×Int×Unit):=
 cond (decide (x14<3))
  ((q28 F 32 x6 x0 x1 x2 x3 x4 x14).bind fun r226718=>
  cond ((decide (0≤x14))&&(decide (x14<3)))
   (rec x0 x1 x2 x3 x4 x5 x6 (yx x7 (y6 x14) r226718.1) x8 x9 x10 x11 x12 x13 (y0 .i64 (x14+1)))
    none)
  (some (x0,x1,x2,x3,x4,x5,x7,x8,x9,x10,x11,x12,x13,()))
def q1f(F:Nat):Nat→LI→LI→Int→LI→Int→Int→Int→LI→LI→LI→LI→Int→LI→Int→Int→Option (LI×LI×Int×LI×Int×Int×LI×LI×LI×LI×Int×LI×Int×Unit)
 |0,_,_,_,_,_,_,_,_,_,_,_,_,_,_,_=>none
 |k+1,x0,x1,x2,x3,x4,x5,x6,x7,x8,x9,x10,x11,x12,x13,x14=>q4m F (q1f F k) x0 x1 x2 x3 x4 x5 x6 x7 x8 x9 x10 x11 x12 x13 x14
def q4n(F:Nat)(rec:LI→LI→Int→LI→Int→Int→Int→LI→Int→Option (LI×LI×Int×LI×Int×Int×Unit))(x0:LI)(x1:LI)(x2:Int)(x3:LI)(x4:Int)(x5:Int)(x6:Int)(x7:LI)(x8:Int):Option (LI×LI×Int×LI×Int×Int×Unit):=
 cond (decide (x8<4))
  (cond ((decide (0≤x8))&&(decide (x8<4)))
   ((q1e F F x0 x1 x2 x3 x4 x5 x8 (y7 x7 (y6 x8) 0) [0,0,0] [0,0,0] [x5,x5] q01 x6 x7 x8 0).bind fun r226704=>
   (q1f F F r226704.1 r226704.2.1 r226704.2.2.1 r226704.2.2.2.1 r226704.2.2.2.2.1 r226704.2.2.2.2.2.1 r226704.2.2.2.2.2.2.1 r226704.2.2.2.2.2.2.2.1 r226704.2.2.2.2.2.2.2.2.1 r226704.2.2.2.2.2.2.2.2.2.1 r226704.2.2.2.2.2.2.2.2.2.2.1 r226704.2.2.2.2.2.2.2.2.2.2.2.1 r226704.2.2.2.2.2.2.2.2.2.2.2.2.1 r226704.2.2.2.2.2.2.2.2.2.2.2.2.2.1 0).bind fun r226723=>
   (qb5 F (true,false,r226723.2.2.2.2.2.2.1,r226723.2.2.2.2.2.2.2.1,r226723.2.2.2.2.2.2.2.2.1,r226723.2.2.2.2.2.2.2.2.2.1,())).bind fun r226726=>
   (q25 F r226723.1 r226723.2.1 r226723.2.2.1 r226723.2.2.2.1 r226723.2.2.2.2.1 r226726.1).bind fun r226728=>
   rec r226728.2.2.1 r226728.2.2.2.1 r226728.1 r226728.2.1 r226728.2.2.2.2.1 r226723.2.2.2.2.2.1 r226723.2.2.2.2.2.2.2.2.2.2.1 r226723.2.2.2.2.2.2.2.2.2.2.2.1 (y0 .i64 (r226723.2.2.2.2.2.2.2.2.2.2.2.2.1+1)))
    none)
  (some (x0,x1,x2,x3,x4,x6,()))
def q1g(F:Nat):Nat→LI→LI→Int→LI→Int→Int→Int→LI→Int→Option (LI×LI×Int×LI×Int×Int×Unit)
 |0,_,_,_,_,_,_,_,_,_=>none
 |k+1,x0,x1,x2,x3,x4,x5,x6,x7,x8=>q4n F (q1g F k) x0 x1 x2 x3 x4 x5 x6 x7 x8
def q4o(F:Nat)(rec:LI→LI→Int→LI→Int→Int→Option (LI×LI×Int×LI×Int×Unit))(x0:LI)(x1:LI)(x2:Int)(x3:LI)(x4:Int)(x5:Int):Option (LI×LI×Int×LI×Int×Unit):=
 cond (decide (x5<8))
  ((qbg F x5).bind fun r226637=>
  (q1g F F x0 x1 x2 x3 x4 x5 x5 r226637.1 0).bind fun r226732=>
  rec r226732.1 r226732.2.1 r226732.2.2.1 r226732.2.2.2.1 r226732.2.2.2.2.1 (y0 .i64 (r226732.2.2.2.2.2.1+1)))
  (some (x0,x1,x2,x3,x4,()))
def q2f(F:Nat):Nat→LI→LI→Int→LI→Int→Int→Option (LI×LI×Int×LI×Int×Unit)
 |0,_,_,_,_,_,_=>none
 |k+1,x0,x1,x2,x3,x4,x5=>q4o F (q2f F k) x0 x1 x2 x3 x4 x5
def q3i(F:Nat)(a0:LI)(a1:LI)(a2:Int)(a3:LI)(a4:Int):Option (Int×LI×LI×LI×Int×Unit):=
 (q2f F F a0 a1 a2 a3 a4 0).bind fun r226736=>
 some (r226736.2.2.1,r226736.2.2.2.1,r226736.1,r226736.2.1,r226736.2.2.2.2.1,())
def q57:LI:=[0,0,0,0,0,0,0,0,0]
def q46(F:Nat)(rec:LI→LI→Int→LI→Int→LI→Int→Int→Int→LI→Int→LI→Int→Option (LI×LI×Int×LI×Int×LI×LI×Int×Unit))(x0:LI)(x1:LI)(x2:Int)(x3:LI)(x4:Int)(x5:LI)(x6:Int)(x7:Int)(x8:Int)(x9:LI)(x10:Int)(x11:LI)(x12:Int):Option (LI×LI×Int×LI×Int×LI×LI×Int×Unit):=
 cond (decide (x12<3))
  (let b227250:Bool:=((decide (0≤x12))&&(decide (x12<3)))
  cond b227250
   (let v227251:Int:=(y7 x11 (y6 x12) 0)
   cond ((decide (0≤v227251))&&(decide (v227251<16)))
    (cond ((decide (0≤x6))&&(decide (x6<4)))
     ((q30 F (y0 .i64 (x8+(y0 .i64 (yw (y0 .i64 ((y0 .i64 ((y7 x3 (((y6 v227251)*4)+(y6 x6)) 0)-x8))*4)) 3)))) 255).bind fun r227261=>
     (q9m F r227261.1 x7).bind fun r227262=>
     cond b227250
      (cond ((decide (0≤x6))&&(decide (x6<3)))
       (rec x0 x1 x2 x3 x4 (yx x5 (((y6 x12)*3)+(y6 x6)) r227262.1) x6 x7 x8 x9 x10 x11 (y0 .i64 (x12+1)))
        none)
       none)
      none)
     none)
    none)
  (some (x0,x1,x2,x3,x4,x5,x9,x10,()))
def q10(F:Nat):Nat→LI→LI→Int→LI→Int→LI→Int→Int→Int→LI→Int→LI→Int→Option (LI×LI×Int×LI×Int×LI×LI×Int×Unit)
 |0,_,_,_,_,_,_,_,_,_,_,_,_,_=>none
 |k+1,x0,x1,x2,x3,x4,x5,x6,x7,x8,x9,x10,x11,x12=>q46 F (q10 F k) x0 x1 x2 x3 x4 x5 x6 x7 x8 x9 x10 x11 x12
def q47(F:Nat)(rec:LI→LI→Int→LI→Int→LI→LI→Int→Option (LI×LI×Int×LI×Int×LI×Unit))(x0:LI)(x1:LI)(x2:Int)(x3:LI)(x4:Int)(x5:LI)(x6:LI)(x7:Int):Option (LI×LI×Int×LI×Int×LI×Unit):=
 cond (decide (x7<3))
  (cond ((decide (0≤x7))&&(decide (x7<3)))
   (cond ((decide (0≤x7))&&(decide (x7<4)))
    ((q10 F F x0 x1 x2 x3 x4 x5 x7 (y7 x6 (y6 x7) 0) (y7 x3 (y6 x7) 0) x6 x7 [0,3,12] 0).bind fun r227268=>
    rec r227268.1 r227268.2.1 r227268.2.2.1 r227268.2.2.2.1 r227268.2.2.2.2.1 r227268.2.2.2.2.2.1 r227268.2.2.2.2.2.2.1 (y0 .i64 (r227268.2.2.2.2.2.2.2.1+1)))
     none)
    none)
  (some (x0,x1,x2,x3,x4,x5,()))
def q20(F:Nat):Nat→LI→LI→Int→LI→Int→LI→LI→Int→Option (LI×LI×Int×LI×Int×LI×Unit)
 |0,_,_,_,_,_,_,_,_=>none
 |k+1,x0,x1,x2,x3,x4,x5,x6,x7=>q47 F (q20 F k) x0 x1 x2 x3 x4 x5 x6 x7
def q39(F:Nat)(a0:LI)(a1:LI)(a2:Int)(a3:LI)(a4:Int):Option (Int×LI×LI×LI×Int×Unit):=
 cond (a2==7)
  (some (a2,a3,a0,a1,a4,()))
  ((q20 F F a0 a1 a2 a3 a4 q57 [6,7,6] 0).bind fun r227272=>
  (qhm F (y8 3 r227272.2.2.2.2.2.1) (y8 3 (y9 3 r227272.2.2.2.2.2.1)) (y8 3 (y9 6 r227272.2.2.2.2.2.1))).bind fun r227278=>
  (q25 F r227272.1 r227272.2.1 r227272.2.2.1 r227272.2.2.2.1 r227272.2.2.2.2.1 r227278.1).bind fun r227280=>
  some (r227280.1,r227280.2.1,r227280.2.2.1,r227280.2.2.2.1,r227280.2.2.2.2.1,()))
def q0k(F:Nat)(rec:Int→Int→LI→LI→LI→Int→LI→Int→LI→Int→Option (LI×LI×Int×LI×Int×Unit))(x0:Int)(x1:Int)(x2:LI)(x3:LI)(x4:LI)(x5:Int)(x6:LI)(x7:Int)(x8:LI)(x9:Int):Option (LI×LI×Int×LI×Int×Unit):=
 cond (decide (x9≤x1))
  (let b227459:Bool:=(x0==11)
  cond b227459
   ((q99 F x8 0 true x9).bind fun r227460=>
   (q44 F x3 x4 x5 x6 x7 r227460.1).bind fun r227462=>
   rec x0 x1 x2 r227462.2.2.1 r227462.2.2.2.1 r227462.1 r227462.2.1 r227462.2.2.2.2.1 x8 (y0 .i64 (x9+1)))
   (let b227466:Bool:=(x0==12)
   cond b227466
    ((q99 F x8 0 true x9).bind fun r227467=>
    let n227468:Nat:=(ya r227467.1)
    (q99 F x8 1 true x9).bind fun r227469=>
    let n227470:Nat:=(ya r227469.1)
    cond ((decide ((n227468+n227470)≤1099511627776))&&true)
     ((q44 F x3 x4 x5 x6 x7 (r227467.1++r227469.1)).bind fun r227474=>
     rec x0 x1 x2 r227474.2.2.1 r227474.2.2.2.1 r227474.1 r227474.2.1 r227474.2.2.2.2.1 x8 (y0 .i64 (x9+1)))
      none)
    (cond (x0==10)
     ((q99 F x2 3 false x9).bind fun r227479=>
     cond (x9==2)
      ((q19 F r227479.1 x4 x5 x6 x7).bind fun r227482=>
      (q3i F r227482.2.2.1 r227482.2.2.2.1 r227482.1 r227482.2.1 r227482.2.2.2.2.1).bind fun r227485=>
      (q39 F r227485.2.2.1 r227485.2.2.2.1 r227485.1 r227485.2.1 r227485.2.2.2.2.1).bind fun r227488=>
      rec x0 x1 x2 r227488.2.2.1 r227488.2.2.2.1 r227488.1 r227488.2.1 r227488.2.2.2.2.1 x8 (y0 .i64 (x9+1)))
      ((q19 F r227479.1 x4 x5 x6 x7).bind fun r227492=>
      rec x0 x1 x2 r227492.2.2.1 r227492.2.2.2.1 r227492.1 r227492.2.1 r227492.2.2.2.2.1 x8 (y0 .i64 (x9+1))))
     (cond (x9==2)
      ((q19 F x3 x4 x5 x6 x7).bind fun r227497=>
      (q3i F r227497.2.2.1 r227497.2.2.2.1 r227497.1 r227497.2.1 r227497.2.2.2.2.1).bind fun r227500=>
      (q39 F r227500.2.2.1 r227500.2.2.2.1 r227500.1 r227500.2.1 r227500.2.2.2.2.1).bind fun r227503=>
      rec x0 x1 x2 r227503.2.2.1 r227503.2.2.2.1 r227503.1 r227503.2.1 r227503.2.2.2.2.1 x8 (y0 .i64 (x9+1)))
      ((q19 F x3 x4 x5 x6 x7).bind fun r227507=>
      rec x0 x1 x2 r227507.2.2.1 r227507.2.2.2.1 r227507.1 r227507.2.1 r227507.2.2.2.2.1 x8 (y0 .i64 (x9+1)))))))
  (some (x3,x4,x5,x6,x7,()))
def q11(F:Nat):Nat→Int→Int→LI→LI→LI→Int→LI→Int→LI→Int→Option (LI×LI×Int×LI×Int×Unit)
 |0,_,_,_,_,_,_,_,_,_,_=>none
 |k+1,x0,x1,x2,x3,x4,x5,x6,x7,x8,x9=>q0k F (q11 F k) x0 x1 x2 x3 x4 x5 x6 x7 x8 x9
def q1n(F:Nat)(a0:Int)(a1:LI)(a2:Int):Option (LI×Int×Int×Unit):=
 cond (decide (a0<7))
  (some ([],0,5,()))
  (cond (decide (12<a0))
   (some ([],0,5,()))
   ((qtt F a0 a1).bind fun r227366=>
   cond (r227366.2.1 !=0)
    (some ([],0,1,()))
    (cond (decide (a2<0))
     (some ([],0,1,()))
     (cond (decide (2<a2))
      (some ([],0,1,()))
      ((q98 F a0 r227366.1 a1).bind fun r227371=>
      (qbj F a0 a1).bind fun r227372=>
      (q11 F F a0 a2 a1 [] r227366.1 a0 a1 r227371.1 r227372.1 1).bind fun r227511=>
      some (r227511.2.1,r227511.2.2.2.2.1,0,()))))))
def qi6(F:Nat):Option (Bool×Unit):=
 (qhp F [10,20,5] 3 2).bind fun r223017=>
 (q1n F 7 r223017.1 2).bind fun r227514=>
 (q1n F 7 r223017.1 0).bind fun r227516=>
 (q1n F 1 r223017.1 1).bind fun r227518=>
 cond ((((ya r227514.1):Nat):Int)==8)
  (cond (r227514.2.1==0)
   (cond (r227514.2.2.1==0)
    (cond (decide (0<r227516.2.1))
     (cond (r227516.2.2.1==0)
      (some ((r227518.2.2.1==5),()))
      (some (false,())))
     (some (false,())))
    (some (false,())))
   (some (false,())))
  (some (false,()))
def q7n(F:Nat)(rec:Bool→LI→LI→Int→LI→Int→Int→Bool→Option (Unit⊕(Bool×LI×LI×Int×Int×Bool×Unit)))(x0:Bool)(x1:LI)(x2:LI)(x3:Int)(x4:LI)(x5:Int)(x6:Int)(x7:Bool):Option (Unit⊕(Bool×LI×LI×Int×Int×Bool×Unit)):=
 cond (decide (x5<16))
  (let b227677:Bool:=((decide (0≤x5))&&(decide (x5<16)))
  cond b227677
   (let n227678:Nat:=((y6 x5)*4)
   let v227679:Int:=(y7 x4 n227678 0)
   cond b227677
    (let v227680:Int:=(y7 x2 n227678 0)
    let v227681:Int:=(y0 .i64 (v227680-16))
    cond (decide (v227679<v227681))
     (some (.inl ()))
     (cond b227677
      (cond b227677
       (let v227683:Int:=(y0 .i64 (v227680+16))
       cond (decide (v227683<v227679))
        (some (.inl ()))
        (rec x0 x1 x2 x3 x4 (y0 .i64 (x5+1)) x6 x7))
        none)
       none))
     none)
    none)
  (some (.inr (x0,x1,x2,x3,x6,x7,())))
def q33(F:Nat):Nat→Bool→LI→LI→Int→LI→Int→Int→Bool→Option (Unit⊕(Bool×LI×LI×Int×Int×Bool×Unit))
 |0,_,_,_,_,_,_,_,_=>none
 |k+1,x0,x1,x2,x3,x4,x5,x6,x7=>q7n F (q33 F k) x0 x1 x2 x3 x4 x5 x6 x7
def q7o(F:Nat)(rec:Bool→LI→LI→Int→Option (Unit⊕(Bool×Unit)))(x0:Bool)(x1:LI)(x2:LI)(x3:Int):Option (Unit⊕(Bool×Unit)):=
 cond (decide (x3≤2))
  ((q1n F 11 x1 x3).bind fun r227661=>
  (qjn F 11 r227661.1).bind fun r227663=>
  cond (r227661.2.2.1 !=0)
   (some (.inl ()))
   (let b227665:Bool:=(r227663.2.1 !=0)
   cond b227665
    (some (.inl ()))
    ((q33 F F x0 x1 x2 x3 r227663.1 0 r227663.2.1 b227665).bind fun r227686=>match r227686 with
     | .inl r227686=>(some (.inl ()))
     | .inr r227686=>(rec r227686.1 r227686.2.1 r227686.2.2.1 (y0 .i64 (r227686.2.2.2.1+1))))))
  (some (.inr (x0,())))
def q0r(F:Nat):Nat→Bool→LI→LI→Int→Option (Unit⊕(Bool×Unit))
 |0,_,_,_,_=>none
 |k+1,x0,x1,x2,x3=>q7o F (q0r F k) x0 x1 x2 x3
def qi7(F:Nat)(a0:Int):Option (Bool×Unit):=
 (qi6 F).bind fun r227595=>
 cond (decide (a0<0))
  (some (r227595.1,()))
  (cond (decide (255<a0))
   (some (r227595.1,()))
   ((qi4 F [a0,0,0,0]).bind fun r227598=>
   (qnd F 11 r227598.1).bind fun r227599=>
   (q0r F F r227595.1 r227598.1 r227599.1 1).bind fun r227688=>match r227688 with
    | .inl r227688=>(some (false,()))
    | .inr r227688=>(some (r227688.1,()))))
end Go.AE.Gn

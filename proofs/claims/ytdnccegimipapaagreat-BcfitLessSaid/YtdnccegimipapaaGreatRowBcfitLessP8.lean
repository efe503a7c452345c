/- A part of the proof, put together of my texts: Pure09c, Pure09d, Pure09e, Pure09f, Pure09g, PureY, Z15a, Z15b, Z15c. -/
import Derived.Test.YtdnccegimipapaaGreatRowBcfitLessP7
set_option linter.unusedVariables false
set_option linter.unusedSimpArgs false
open Option renaming bind_some → y5, getD_some → wc
open Int renaming lt_irrefl → yt, natCast_nonneg → yc, toNat_natCast → yb, natCast_zero → yq, toNat → y6, cast_ofNat_Int → yp, tdiv → yv, tmod → yu, natCast_pow → wg, eq_ofNat_of_zero_le → yh
open Bool renaming and_self → yd, false_eq_true → yn, and_eq_true → yl
open Nat renaming add_assoc → we, le_refl → wa
open Go.IntKind renaming wrap → y0
open List renaming range → yy, set → yw, getD → y7, take → y8, drop → y9, getD_eq_getElem?_getD → ye, getElem?_eq_none → w9, getElem?_eq_getElem → yj, getElem?_append_left → yg, getElem?_append_right → yz, mem_cons → yr, mem_append → yk, length_append → yo, length → ya
namespace Go.AE.Gn
open Go Go.AE
theorem lv_one(b:LI)(a:Nat):lv b a 1=q38 b a:=by
 simp[lv,qf5]
theorem z7d(b:LI){i:Nat}(h:i<8):q38 b i=bitL (b.getD 0 0) i:=by
 unfold q38
 rw[show i/8=0 by omega,show i%8=i by omega]
theorem j38{b:LI}(hb:Bytes b)(hl:b.length=16):∀(d i k:Nat),i+d=q9b (b.getD 0 0)→d<k→q63 600 k b (i:Int)=some (if q9b (b.getD 0 0)=8 then .inr ()else .inl ((q9b (b.getD 0 0):Int),())):=by
 obtain⟨_,h8,hz,h1⟩:=qm4 (hb.getD 0)
 intro d
 induction d with
 |zero=>
  intro i k e hk
  obtain⟨k,rfl⟩:∃k',k=k' +1:=⟨k-1,by omega⟩
  obtain rfl:i=q9b (b.getD 0 0):=by omega
  unfold q63 qgc
  by_cases h:q9b (b.getD 0 0)=8
  ·rw[h]
   have:¬((8:Nat):Int)<8:=by omega
   simp only[this,dF,cF,if_true]
  ·have i1:((q9b (b.getD 0 0):Nat):Int)<8:=by omega
   have r:q2m 600 b ((q9b (b.getD 0 0):Nat):Int) (1:Int)=_:=jcv (n:=1) hb hl (by omega) (by omega)
   rw[lv_one,z7d b (by omega),h1 (by omega)]at r
   simp only[i1,dT,cT,r,y5,beqT,h,if_false]
 |succ d ih=>
  intro i k e hk
  obtain⟨k,rfl⟩:∃k',k=k' +1:=⟨k-1,by omega⟩
  unfold q63 qgc
  have i1:(i:Int)<8:=by omega
  have r:q2m 600 b (i:Int) (1:Int)=_:=jcv (n:=1) hb hl (by omega) (by omega)
  rw[lv_one,z7d b (by omega),hz i (by omega)]at r
  have z1:((0:Int)==1)=false:=rfl
  simp only[i1,dT,cT,r,y5,z1,cF]
  rw[q08 (by omega)]
  exact ih (i+1) k (by omega) (by omega)
theorem rMode_is{b:LI}(hb:Bytes b)(hl:b.length=16):z06 600 b=some ((q9b (b.getD 0 0):Int),()):=by
 have h:=qm4 (hb.getD 0)
 have hn:(((b.length:Nat):Int) !=16)=false:=by rw[hl];rfl
 unfold z06
 rw[hn]
 simp only[cF]
 have r:q63 600 600 b (0:Int)=_:=j38 hb hl (q9b (b.getD 0 0)) 0 600 (by omega) (by omega)
 rw[r]
 by_cases h8:q9b (b.getD 0 0)=8
 ·rw[iP h8,h8]
  rfl
 ·rw[iN h8]
  rfl
theorem rl2_all{b:LI}(hb:Bytes b)(hl:b.length=16)(x0:LI)(x1:LI)(x2:Int)(x3:Int)(x4:Int)(x5:Int)(x6:Int)(x7:Int)(x8:Int)(x9:Int)(x10:Int)(x11:Int)(x14:Int)(x15:Int)(x16:Int){E n c a:Nat}(g:Nat→Int)(hn:n≤16)(hc:c<4)(hE:E≤100)(ha:a+E*n≤128):
  ∀(d i k:Nat),i+d=E→d<k→q3p 600 k x0 x1 x2 x3 x4 x5 x6 x7 x8 x9 x10 x11 b (((a+i*n:Nat):Int)) x14 x15 x16 (tab (E*4) (colG b a n c i g)) ((c:Int)) ((n:Int)) ((i:Int))=some (x0,x1,x2,x3,x4,x5,x6,x7,x8,x9,x10,x11,b,((a+E*n:Nat):Int),x14,x15,x16,tab (E*4) (colG b a n c E g),(c:Int),()):=by
 intro d
 induction d with
 |zero=>
  intro i k h1 h2
  obtain⟨k,rfl⟩:∃k',k=k' +1:=⟨k-1,by omega⟩
  obtain rfl:i=E:=by omega
  have i2:(i*4)/4=i:=by omega
  unfold q3p qbv
  simp only[q0f,i2,yt,dF,cF]
 |succ d ih=>
  intro i k h1 h2
  obtain⟨k,rfl⟩:∃k',k=k' +1:=⟨k-1,by omega⟩
  have hi:i<E:=by omega
  have hm:=mulS (n:=n) hi
  have e1:(i+1)*n=i*n+n:=Nat.succ_mul i n
  unfold q3p qbv
  have i1:(i:Int)<(E:Int):=by omega
  have i2:(E*4)/4=E:=by omega
  have i4:(c:Int)<4:=by omega
  simp only[q0f,i2,i1,i4,dT,cT,yc,yd,yb,y5]
  rw[zc9 hb hl hn (by omega)]
  simp only[y5]
  rw[j2y b a n c i g hc,q08 (by omega),we,←e1]
  exact ih (i+1) k (by omega) (by omega)
theorem zgx{b:LI}(hb:Bytes b)(hl:b.length=16)(x0:LI)(x1:LI)(x2:Int)(x3:Int)(x4:Int)(x5:Int)(x8:Int)(x9:Int)(x10:Int)(x11:Int)(x14:Int)(x15:Int)(x16:Int){C A E n c a:Nat}(g:Nat→Int)(hn:n≤16)(hc:c<4)(hE:E≤100)(ha:a+E*n≤128)(hd:n=if c=3 then A else C)(k:Nat):
  q2p 600 (k+1) x0 x1 x2 x3 x4 x5 ((C:Int)) ((A:Int)) x8 x9 x10 x11 b ((a:Int)) x14 x15 x16 (tab (E*4) g) ((c:Int))=q2p 600 k x0 x1 x2 x3 x4 x5 ((C:Int)) ((A:Int)) x8 x9 x10 x11 b (((a+E*n:Nat):Int)) x14 x15 x16 (tab (E*4) (colG b a n c E g)) (((c+1:Nat):Int)):=by
 have i4:(c:Int)<4:=by omega
 have h:=rl2_all hb hl x0 x1 x2 x3 x4 x5 (C:Int) (A:Int) x8 x9 x10 x11 x14 x15 x16 (c:=c) (a:=a) g hn hc hE ha E 0 600 (by omega) (by omega)
 simp only[j30,Nat.zero_mul,Nat.add_zero,yq]at h
 conv=>lhs;unfold q2p qbw
 by_cases h3:c=3
 ·rw[iP h3]at hd
  subst hd
  simp only[i4,dT,cT,beqT (show((c:Nat):Int)=3 by omega),h,y5]
  rw[q08 (by omega)]
 ·rw[iN h3]at hd
  subst hd
  simp only[i4,dT,cT,beqF (show((c:Nat):Int)≠3 by omega),cF,h,y5]
  rw[q08 (by omega)]
theorem rl0_all{b:LI}(hb:Bytes b)(hl:b.length=16)(x0:LI)(x1:LI)(x2:Int)(x3:Int)(x4:Int)(x5:Int)(x8:Int)(x9:Int)(x10:Int)(x11:Int)(x14:Int)(x15:Int)(x16:Int){m:BM}(ok:m.Ok){p0:Nat}(hp:p0+6*m.P*m.C+2*m.P*m.A≤128)(k:Nat):
  q2p 600 (k+5) x0 x1 x2 x3 x4 x5 ((m.C:Int)) ((m.A:Int)) x8 x9 x10 x11 b ((p0:Int)) x14 x15 x16 (tab (2*m.P*4) fun _=>0) ((0:Int))=some (x0,x1,x2,x3,x4,x5,(m.C:Int),(m.A:Int),x8,x9,x10,x11,b,((p0+6*m.P*m.C+2*m.P*m.A:Nat):Int),x14,x15,x16,tab (2*m.P*4) (e0 b m p0),()):=by
 have e6:6*m.P*m.C=2*m.P*m.C+2*m.P*m.C+2*m.P*m.C:=by
  rw[←Nat.add_mul,←Nat.add_mul]
  congr 1
  omega
 have hC:=ok.C7
 have hA:=ok.A8
 have hP:=ok.P3
 have s0:=zgx hb hl x0 x1 x2 x3 x4 x5 x8 x9 x10 x11 x14 x15 x16 (C:=m.C) (A:=m.A) (E:=2*m.P) (n:=m.C) (c:=0) (a:=p0) (fun _=>0) (by omega) (by omega) (by omega) (by omega) (by simp) (k+4)
 have s1:=zgx hb hl x0 x1 x2 x3 x4 x5 x8 x9 x10 x11 x14 x15 x16 (C:=m.C) (A:=m.A) (E:=2*m.P) (n:=m.C) (c:=1) (a:=p0+2*m.P*m.C) (colG b p0 m.C 0 (2*m.P) fun _=>0) (by omega) (by omega) (by omega) (by omega) (by simp) (k+3)
 have s2:=zgx hb hl x0 x1 x2 x3 x4 x5 x8 x9 x10 x11 x14 x15 x16 (C:=m.C) (A:=m.A) (E:=2*m.P) (n:=m.C) (c:=2) (a:=p0+2*m.P*m.C+2*m.P*m.C) (colG b (p0+2*m.P*m.C) m.C 1 (2*m.P) (colG b p0 m.C 0 (2*m.P) fun _=>0)) (by omega) (by omega) (by omega) (by omega) (by simp) (k+2)
 have s3:=zgx hb hl x0 x1 x2 x3 x4 x5 x8 x9 x10 x11 x14 x15 x16 (C:=m.C) (A:=m.A) (E:=2*m.P) (n:=m.A) (c:=3) (a:=p0+2*m.P*m.C+2*m.P*m.C+2*m.P*m.C) (colG b (p0+2*m.P*m.C+2*m.P*m.C) m.C 2 (2*m.P) (colG b (p0+2*m.P*m.C) m.C 1 (2*m.P) (colG b p0 m.C 0 (2*m.P) fun _=>0))) (by omega) (by omega) (by omega) (by omega) (by simp) (k+1)
 refine s0.trans (s1.trans (s2.trans (s3.trans ?_)))
 unfold q2p qbw
 have i4:¬(((3+1:Nat):Int)<4):=by omega
 simp only[i4,dF,cF]
 rw[q02 fun j hj=>j2z m p0 j hj,show p0+6*m.P*m.C+2*m.P*m.A=p0+2*m.P*m.C+2*m.P*m.C+2*m.P*m.C+2*m.P*m.A by omega]
theorem wrap2{x v:Int}(hx:0≤x∧x<1000)(hv:0≤v∧v≤1):y0 .i64 (y0 .i64 (2*x)+v)=2*x+v:=by
 rw[w64 (x:=2*x) (by omega) (by omega),w64 (by omega) (by omega)]
theorem rl6_all(x0:LI)(x1:LI)(x2:Int)(x3:Int)(x4:Int)(x5:Int)(x6:Int)(x7:Int)(x8:Int)(x9:Int)(x10:Int)(x11:Int)(x12:LI)(x13:Int)(x14:Int)(x15:Int)(x16:Int){E i:Nat}(g:Nat→Int)(v:Int)(hg:∀j,0≤g j∧g j<1000)(hv:0≤v∧v≤1)(hi:i<E)(hE:E≤100):
  ∀(d c k:Nat),c+d=4→d<k→q3q 600 k x0 x1 x2 x3 x4 x5 x6 x7 x8 x9 x10 x11 x12 x13 x14 x15 x16 (tab (E*4) fun j=>if j/4=i∧j%4<c then 2*g j+v else g j) ((i:Int)) v ((c:Int))=some (x0,x1,x2,x3,x4,x5,x6,x7,x8,x9,x10,x11,x12,x13,x14,x15,x16,tab (E*4) fun j=>if j/4=i then 2*g j+v else g j,(i:Int),()):=by
 intro d
 induction d with
 |zero=>
  intro c k h1 h2
  obtain⟨k,rfl⟩:∃k',k=k' +1:=⟨k-1,by omega⟩
  obtain rfl:c=4:=by omega
  unfold q3q qbx
  have i4:¬(((4:Nat):Int)<4):=by omega
  simp only[i4,dF,cF]
  rw[q02 fun j hj=>show(if j/4=i∧j%4<4 then 2*g j+v else g j)=if j/4=i then 2*g j+v else g j by
   have:j%4<4:=Nat.mod_lt _ (by decide)
   simp only[this,and_true]]
 |succ d ih=>
  intro c k h1 h2
  obtain⟨k,rfl⟩:∃k',k=k' +1:=⟨k-1,by omega⟩
  have hc:c<4:=by omega
  have i1:(c:Int)<4:=by omega
  have i2:(E*4)/4=E:=by omega
  have i3:(i:Int)<(E:Int):=by omega
  unfold q3q qbx
  simp only[q0f,i2,i1,i3,dT,cT,yc,yd,yb,q0g (show i*4+c<E*4 by omega),(mul4 i c hc).1,(mul4 i c hc).2,Nat.lt_irrefl,and_false,if_false,wrap2 (x:=g (i*4+c)) (v:=v) (by have:=hg (i*4+c);omega) hv]
  rw[q08 (by omega),q5g]
  rw[q02 fun j hj=>show(if j=i*4+c then 2*g (i*4+c)+v else if j/4=i∧j%4<c then 2*g j+v else g j)=if j/4=i∧j%4<c+1 then 2*g j+v else g j by
   by_cases h:j=i*4+c
   ·rw[iP h,iP (by omega),h]
   ·rw[iN h]
    by_cases h5:j/4=i∧j%4<c
    ·rw[iP h5,iP (by omega)]
    ·rw[iN h5,iN (by omega)]]
  exact ih (c+1) k (by omega) (by omega)
def bG(b:LI)(m:BM)(p0 p1 i j:Nat):Int:=if j/4<i then 2*e0 b m p0 j+bitV b m p1 (j/4)else e0 b m p0 j
theorem rl4_all{b:LI}(hb:Bytes b)(hl:b.length=16)(x0:LI)(x1:LI)(x2:Int)(x3:Int)(x4:Int)(x5:Int)(x6:Int)(x7:Int)(x8:Int)(x9:Int)(x10:Int)(x11:Int)(x14:Int)(x15:Int)(x16:Int){m:BM}(ok:m.Ok)(he:m.e=1)(p0 p1:Nat)(hp:p1+2*m.P≤128):
  ∀(d i k:Nat),i+d=2*m.P→d<k→q56 600 k x0 x1 x2 x3 x4 x5 x6 x7 x8 x9 x10 x11 b (((p1+i:Nat):Int)) x14 x15 x16 (tab (2*m.P*4) (bG b m p0 p1 i)) ((i:Int))=some (x0,x1,x2,x3,x4,x5,x6,x7,x8,x9,x10,x11,b,((p1+2*m.P:Nat):Int),x14,x15,x16,tab (2*m.P*4) (bG b m p0 p1 (2*m.P)),()):=by
 intro d
 induction d with
 |zero=>
  intro i k h1 h2
  obtain⟨k,rfl⟩:∃k',k=k' +1:=⟨k-1,by omega⟩
  obtain rfl:i=2*m.P:=by omega
  have i2:(2*m.P*4)/4=2*m.P:=by omega
  unfold q56 qby
  simp only[q0f,i2,yt,dF,cF]
 |succ d ih=>
  intro i k h1 h2
  obtain⟨k,rfl⟩:∃k',k=k' +1:=⟨k-1,by omega⟩
  have hP3:=ok.P3
  have i2:(2*m.P*4)/4=2*m.P:=by omega
  have i1:(i:Int)<((2*m.P:Nat):Int):=by omega
  have r:q0q 600 b ((p1+i:Nat):Int) (1:Int)=_:=zc9 (n:=1) hb hl (by omega) (by omega)
  have hv:lv b (p1+i) 1=bitV b m p1 i:=by
   unfold bitV
   rw[iP he]
  rw[hv]at r
  have hg:∀j,0≤bG b m p0 p1 i j∧bG b m p0 p1 i j<1000:=fun j=>by
   have h1:=zgw b ok p0 j
   have h2:=zav b m p1 (j/4)
   unfold bG
   split<;>omega
  have h6:=rl6_all x0 x1 x2 x3 x4 x5 x6 x7 x8 x9 x10 x11 b (((p1+i+1:Nat)):Int) x14 x15 x16 (E:=2*m.P) (i:=i) (bG b m p0 p1 i) (bitV b m p1 i) hg (zav b m p1 i) (by omega) (by omega) 4 0 600 (by omega) (by omega)
  simp only[Nat.not_lt_zero,and_false,if_false,yq]at h6
  change q3q 600 600 x0 x1 x2 x3 x4 x5 x6 x7 x8 x9 x10 x11 b (((p1+i+1:Nat):Int)) x14 x15 x16 (tab (2*m.P*4) (bG b m p0 p1 i)) ((i:Int)) (bitV b m p1 i) 0=_ at h6
  unfold q56 qby
  simp only[q0f,i2,i1,dT,cT,r,y5,h6]
  rw[q08 (by omega),q02 fun j hj=>show(if j/4=i then 2*bG b m p0 p1 i j+bitV b m p1 i else bG b m p0 p1 i j)=bG b m p0 p1 (i+1) j by
   unfold bG
   by_cases h:j/4=i
   ·rw[iP h,iN (by omega),iP (by omega),h]
   ·rw[iN h]
    by_cases h2:j/4<i
    ·rw[iP h2,iP (by omega)]
    ·rw[iN h2,iN (by omega)]]
  exact ih (i+1) k (by omega) (by omega)
theorem rl10_all(x0:LI)(x1:LI)(x2:Int)(x3:Int)(x4:Int)(x5:Int)(x6:Int)(x7:Int)(x8:Int)(x9:Int)(x10:Int)(x11:Int)(x12:LI)(x13:Int)(x14:Int)(x15:Int)(x16:Int){E i:Nat}(g:Nat→Int)(v:Int)(hg:∀j,0≤g j∧g j<1000)(hv:0≤v∧v≤1)(hi:i+1<E)(hE:E≤100):
  ∀(d c k:Nat),c+d=4→d<k→q2x 600 k x0 x1 x2 x3 x4 x5 x6 x7 x8 x9 x10 x11 x12 x13 x14 x15 x16 (tab (E*4) fun j=>if(j/4=i∨j/4=i+1)∧j%4<c then 2*g j+v else g j) ((i:Int)) v ((c:Int))=some (x0,x1,x2,x3,x4,x5,x6,x7,x8,x9,x10,x11,x12,x13,x14,x15,x16,tab (E*4) fun j=>if j/4=i∨j/4=i+1 then 2*g j+v else g j,(i:Int),()):=by
 intro d
 induction d with
 |zero=>
  intro c k h1 h2
  obtain⟨k,rfl⟩:∃k',k=k' +1:=⟨k-1,by omega⟩
  obtain rfl:c=4:=by omega
  unfold q2x qaf
  have i4:¬(((4:Nat):Int)<4):=by omega
  simp only[i4,dF,cF]
  rw[q02 fun j hj=>show(if(j/4=i∨j/4=i+1)∧j%4<4 then 2*g j+v else g j)=if j/4=i∨j/4=i+1 then 2*g j+v else g j by
   have:j%4<4:=Nat.mod_lt _ (by decide)
   simp only[this,and_true]]
 |succ d ih=>
  intro c k h1 h2
  obtain⟨k,rfl⟩:∃k',k=k' +1:=⟨k-1,by omega⟩
  have hc:c<4:=by omega
  have i1:(c:Int)<4:=by omega
  have i2:(E*4)/4=E:=by omega
  have i3:(i:Int)<(E:Int):=by omega
  have i4:((i+1:Nat):Int)<(E:Int):=by omega
  have e1:y0 .i64 ((i:Int)+1)=((i+1:Nat):Int):=q08 (by omega)
  have e2:y0 .i64 ((c:Int)+1)=((c+1:Nat):Int):=q08 (by omega)
  have n1:¬(i+1)*4+c=i*4+c:=by omega
  have n2:¬(((i*4+c)/4=i∨(i*4+c)/4=i+1)∧(i*4+c)%4<c):=by omega
  have n3:¬((((i+1)*4+c)/4=i∨((i+1)*4+c)/4=i+1)∧((i+1)*4+c)%4<c):=by omega
  unfold q2x qaf
  simp only[q0f,i2,i1,i3,e1,e2,i4,dT,cT,yc,yd,yb,q0g (show i*4+c<E*4 by omega),q5g,q0g (show(i+1)*4+c<E*4 by omega),n1,n2,n3,if_false,wrap2 (x:=g (i*4+c)) (v:=v) (by have:=hg (i*4+c);omega) hv,wrap2 (x:=g ((i+1)*4+c)) (v:=v) (by have:=hg ((i+1)*4+c);omega) hv]
  rw[q02 fun j hj=>show(if j=(i+1)*4+c then 2*g ((i+1)*4+c)+v else if j=i*4+c then 2*g (i*4+c)+v else if(j/4=i∨j/4=i+1)∧j%4<c then 2*g j+v else g j)=if(j/4=i∨j/4=i+1)∧j%4<c+1 then 2*g j+v else g j by
   by_cases h0:j=(i+1)*4+c
   ·rw[iP h0,iP (by omega),h0]
   ·rw[iN h0]
    by_cases h:j=i*4+c
    ·rw[iP h,iP (by omega),h]
    ·rw[iN h]
     by_cases h5:(j/4=i∨j/4=i+1)∧j%4<c
     ·rw[iP h5,iP (by omega)]
     ·rw[iN h5,iN (by omega)]]
  exact ih (c+1) k (by omega) (by omega)
theorem rl8_all{b:LI}(hb:Bytes b)(hl:b.length=16)(x0:LI)(x1:LI)(x2:Int)(x3:Int)(x4:Int)(x5:Int)(x6:Int)(x7:Int)(x8:Int)(x9:Int)(x10:Int)(x11:Int)(x14:Int)(x15:Int)(x16:Int){m:BM}(ok:m.Ok)(ho:m.o=1)(p0 p1:Nat)(hp:p1+m.P≤128):
  ∀(d t k:Nat),t+d=m.P→d<k→q3r 600 k x0 x1 x2 x3 x4 x5 x6 x7 x8 x9 x10 x11 b (((p1+t:Nat):Int)) x14 x15 x16 (tab (2*m.P*4) (bG b m p0 p1 (2*t))) (((2*t:Nat):Int))=some (x0,x1,x2,x3,x4,x5,x6,x7,x8,x9,x10,x11,b,((p1+m.P:Nat):Int),x14,x15,x16,tab (2*m.P*4) (bG b m p0 p1 (2*m.P)),()):=by
 intro d
 induction d with
 |zero=>
  intro t k h1 h2
  obtain⟨k,rfl⟩:∃k',k=k' +1:=⟨k-1,by omega⟩
  obtain rfl:t=m.P:=by omega
  have i2:(2*m.P*4)/4=2*m.P:=by omega
  unfold q3r qbz
  simp only[q0f,i2,yt,dF,cF]
 |succ d ih=>
  intro t k h1 h2
  obtain⟨k,rfl⟩:∃k',k=k' +1:=⟨k-1,by omega⟩
  have hP3:=ok.P3
  have heo:=ok.eo
  have i2:(2*m.P*4)/4=2*m.P:=by omega
  have i1:((2*t:Nat):Int)<((2*m.P:Nat):Int):=by omega
  have r:q0q 600 b ((p1+t:Nat):Int) (1:Int)=_:=zc9 (n:=1) hb hl (by omega) (by omega)
  have hv:lv b (p1+t) 1=bitV b m p1 (2*t):=by
   unfold bitV
   rw[iN (by omega),iP ho,show 2*t/2=t by omega]
  have hv2:bitV b m p1 (2*t+1)=bitV b m p1 (2*t):=by
   unfold bitV
   rw[iN (by omega),iP ho,iN (by omega),iP ho,show(2*t+1)/2=2*t/2 by omega]
  rw[hv]at r
  have hg:∀j,0≤bG b m p0 p1 (2*t) j∧bG b m p0 p1 (2*t) j<1000:=fun j=>by
   have h1:=zgw b ok p0 j
   have h2:=zav b m p1 (j/4)
   unfold bG
   split<;>omega
  have h6:=rl10_all x0 x1 x2 x3 x4 x5 x6 x7 x8 x9 x10 x11 b (((p1+t+1:Nat)):Int) x14 x15 x16 (E:=2*m.P) (i:=2*t) (bG b m p0 p1 (2*t)) (bitV b m p1 (2*t)) hg (zav b m p1 (2*t)) (by omega) (by omega) 4 0 600 (by omega) (by omega)
  simp only[Nat.not_lt_zero,and_false,if_false,show((0:Nat):Int)=0 from rfl]at h6
  change q2x 600 600 x0 x1 x2 x3 x4 x5 x6 x7 x8 x9 x10 x11 b (((p1+t+1:Nat):Int)) x14 x15 x16 (tab (2*m.P*4) (bG b m p0 p1 (2*t))) (((2*t:Nat):Int)) (bitV b m p1 (2*t)) 0=_ at h6
  have e2:y0 .i64 (((2*t:Nat):Int)+2)=((2*(t+1):Nat):Int):=by rw[w64 (by omega) (by omega)];omega
  unfold q3r qbz
  simp only[q0f,i2,i1,dT,cT,r,y5,h6,e2]
  rw[q02 fun j hj=>show(if j/4=2*t∨j/4=2*t+1 then 2*bG b m p0 p1 (2*t) j+bitV b m p1 (2*t)else bG b m p0 p1 (2*t) j)=bG b m p0 p1 (2*(t+1)) j by
   unfold bG
   by_cases h:j/4=2*t∨j/4=2*t+1
   ·rw[iP h,iN (by omega),iP (by omega)]
    rcases h with h|h
    ·rw[h]
    ·rw[h,hv2]
   ·rw[iN h]
    by_cases h2:j/4<2*t
    ·rw[iP h2,iP (by omega)]
    ·rw[iN h2,iN (by omega)]]
  exact ih (t+1) k (by omega) (by omega)
def g1(b:LI)(m:BM)(p0 p1 j:Nat):Int:=2^(m.e+m.o)*e0 b m p0 j+bitV b m p1 (j/4)
theorem j83(b:LI){m:BM}(ok:m.Ok)(p0 p1 j:Nat):0≤g1 b m p0 p1 j∧g1 b m p0 p1 j<1000:=by
 have h1:=zgw b ok p0 j
 have h2:=zav b m p1 (j/4)
 have h3:=ok.eo
 unfold g1
 rcases(by omega:m.e+m.o=0∨m.e+m.o=1)with h|h<;>rw[h]<;>omega
def vG(b:LI)(m:BM)(p0 p1 i j:Nat):Int:=if j/4<i then eF b m p0 p1 j else g1 b m p0 p1 j
theorem rl14_all(b:LI)(x0:LI)(x1:LI)(x2:Int)(x3:Int)(x4:Int)(x5:Int)(x7:Int)(x8:Int)(x9:Int)(x10:Int)(x11:Int)(x12:LI)(x13:Int)(x14:Int)(x15:Int)(x16:Int){m:BM}(ok:m.Ok)(p0 p1:Nat){i:Nat}(hi:i<2*m.P):
  ∀(d c k:Nat),c+d=3→d<k→q2y 600 k x0 x1 x2 x3 x4 x5 ((m.C:Int)) x7 x8 x9 x10 x11 x12 x13 x14 x15 x16 (tab (2*m.P*4) fun j=>if j/4=i∧j%4<c then eF b m p0 p1 j else vG b m p0 p1 i j) (((m.e+m.o:Nat):Int)) ((i:Int)) ((c:Int))=some (x0,x1,x2,x3,x4,x5,(m.C:Int),x7,x8,x9,x10,x11,x12,x13,x14,x15,x16,tab (2*m.P*4) fun j=>if j/4=i∧j%4<3 then eF b m p0 p1 j else vG b m p0 p1 i j,((m.e+m.o:Nat):Int),(i:Int),()):=by
 intro d
 induction d with
 |zero=>
  intro c k h1 h2
  obtain⟨k,rfl⟩:∃k',k=k' +1:=⟨k-1,by omega⟩
  obtain rfl:c=3:=by omega
  unfold q2y qag
  have i4:¬(((3:Nat):Int)<3):=by omega
  simp only[i4,dF,cF]
 |succ d ih=>
  intro c k h1 h2
  obtain⟨k,rfl⟩:∃k',k=k' +1:=⟨k-1,by omega⟩
  have hc:c<4:=by omega
  have hP3:=ok.P3
  have hC1:=ok.C1
  have hCe:=ok.Ce
  have hb1:=j83 b ok p0 p1 (i*4+c)
  have i1:(c:Int)<3:=by omega
  have i1' :(c:Int)<4:=by omega
  have i2:(2*m.P*4)/4=2*m.P:=by omega
  have i3:(i:Int)<((2*m.P:Nat):Int):=by omega
  have ew:y0 .i64 ((m.C:Int)+((m.e+m.o:Nat):Int))=((m.C+(m.e+m.o):Nat):Int):=by rw[w64 (by omega) (by omega)];omega
  have ev:(if(i*4+c)/4=i∧(i*4+c)%4<c then eF b m p0 p1 (i*4+c)else vG b m p0 p1 i (i*4+c))=g1 b m p0 p1 (i*4+c):=by
   rw[iN (by omega)]
   unfold vG
   rw[iN (by omega)]
  have ee:q51 (m.C+(m.e+m.o)) (g1 b m p0 p1 (i*4+c))=eF b m p0 p1 (i*4+c):=by
   unfold eF g1
   rw[iN (by omega)]
  unfold q2y qag
  simp only[q0f,i2,i1,i1',i3,dT,cT,yc,yd,yb,q0g (show i*4+c<2*m.P*4 by omega),ev,ew]
  rw[qnw (by omega) (by omega) (by omega),ee]
  simp only[y5]
  rw[q08 (by omega),q5g]
  rw[q02 fun j hj=>show(if j=i*4+c then eF b m p0 p1 (i*4+c)else if j/4=i∧j%4<c then eF b m p0 p1 j else vG b m p0 p1 i j)=if j/4=i∧j%4<c+1 then eF b m p0 p1 j else vG b m p0 p1 i j by
   by_cases h:j=i*4+c
   ·rw[iP h,iP (by omega),h]
   ·rw[iN h]
    by_cases h5:j/4=i∧j%4<c
    ·rw[iP h5,iP (by omega)]
    ·rw[iN h5,iN (by omega)]]
  exact ih (c+1) k (by omega) (by omega)
theorem rl12_all(b:LI)(x0:LI)(x1:LI)(x2:Int)(x3:Int)(x4:Int)(x5:Int)(x8:Int)(x9:Int)(x10:Int)(x11:Int)(x12:LI)(x13:Int)(x14:Int)(x15:Int)(x16:Int){m:BM}(ok:m.Ok)(p0 p1:Nat):
  ∀(d i k:Nat),i+d=2*m.P→d<k→q1w 600 k x0 x1 x2 x3 x4 x5 ((m.C:Int)) ((m.A:Int)) x8 x9 x10 x11 x12 x13 x14 x15 x16 (tab (2*m.P*4) (vG b m p0 p1 i)) (((m.e+m.o:Nat):Int)) ((i:Int))=some (x0,x1,x2,x3,x4,x5,(m.C:Int),(m.A:Int),x8,x9,x10,x11,x12,x13,x14,x15,x16,tab (2*m.P*4) (eF b m p0 p1),()):=by
 intro d
 induction d with
 |zero=>
  intro i k h1 h2
  obtain⟨k,rfl⟩:∃k',k=k' +1:=⟨k-1,by omega⟩
  obtain rfl:i=2*m.P:=by omega
  have i2:(2*m.P*4)/4=2*m.P:=by omega
  unfold q1w qah
  simp only[q0f,i2,yt,dF,cF]
  rw[q02 fun j hj=>show vG b m p0 p1 (2*m.P) j=eF b m p0 p1 j by
   unfold vG
   rw[iP (by omega)]]
 |succ d ih=>
  intro i k h1 h2
  obtain⟨k,rfl⟩:∃k',k=k' +1:=⟨k-1,by omega⟩
  have hi:i<2*m.P:=by omega
  have hP3:=ok.P3
  have hA8:=ok.A8
  have hAe:=ok.Ae
  have i2:(2*m.P*4)/4=2*m.P:=by omega
  have i3:(i:Int)<((2*m.P:Nat):Int):=by omega
  have h14:=rl14_all b x0 x1 x2 x3 x4 x5 (m.A:Int) x8 x9 x10 x11 x12 x13 x14 x15 x16 ok p0 p1 hi 3 0 600 (by omega) (by omega)
  simp only[Nat.not_lt_zero,and_false,if_false,yq]at h14
  change q2y 600 600 x0 x1 x2 x3 x4 x5 ((m.C:Int)) ((m.A:Int)) x8 x9 x10 x11 x12 x13 x14 x15 x16 (tab (2*m.P*4) (vG b m p0 p1 i)) (((m.e+m.o:Nat):Int)) ((i:Int)) 0=_ at h14
  unfold q1w qah
  simp only[q0f,i2,i3,dT,cT,yc,yd,yb,y5,h14]
  by_cases hA:m.A=0
  ·simp only[beqT (show((m.A:Nat):Int)=0 by omega),cT,q5g]
   rw[q08 (by omega),q02 fun j hj=>show(if j=3+i*4 then 255 else if j/4=i∧j%4<3 then eF b m p0 p1 j else vG b m p0 p1 i j)=vG b m p0 p1 (i+1) j by
    unfold vG
    by_cases h3:j=3+i*4
    ·rw[iP h3,iP (by omega)]
     unfold eF
     rw[iP (by omega),iP hA]
    ·rw[iN h3]
     by_cases h:j/4=i∧j%4<3
     ·rw[iP h,iP (by omega)]
     ·rw[iN h]
      by_cases h2:j/4<i
      ·rw[iP h2,iP (by omega)]
      ·rw[iN h2,iN (by omega)]]
   exact ih (i+1) k (by omega) (by omega)
  ·have hb1:=j83 b ok p0 p1 (3+i*4)
   have ew:y0 .i64 ((m.A:Int)+((m.e+m.o:Nat):Int))=((m.A+(m.e+m.o):Nat):Int):=by rw[w64 (by omega) (by omega)];omega
   have ev:(if(3+i*4)/4=i∧(3+i*4)%4<3 then eF b m p0 p1 (3+i*4)else vG b m p0 p1 i (3+i*4))=g1 b m p0 p1 (3+i*4):=by
    rw[iN (by omega)]
    unfold vG
    rw[iN (by omega)]
   have ee:q51 (m.A+(m.e+m.o)) (g1 b m p0 p1 (3+i*4))=eF b m p0 p1 (3+i*4):=by
    unfold eF g1
    rw[iP (by omega),iN hA]
   simp only[beqF (show((m.A:Nat):Int)≠0 by omega),cF,q0g (show 3+i*4<2*m.P*4 by omega),ev,ew]
   rw[qnw (by omega) (by omega) (by omega),ee]
   simp only[y5]
   rw[q08 (by omega),q5g,q02 fun j hj=>show(if j=3+i*4 then eF b m p0 p1 (3+i*4)else if j/4=i∧j%4<3 then eF b m p0 p1 j else vG b m p0 p1 i j)=vG b m p0 p1 (i+1) j by
    unfold vG
    by_cases h3:j=3+i*4
    ·rw[iP h3,iP (by omega),h3]
    ·rw[iN h3]
     by_cases h:j/4=i∧j%4<3
     ·rw[iP h,iP (by omega)]
     ·rw[iN h]
      by_cases h2:j/4<i
      ·rw[iP h2,iP (by omega)]
      ·rw[iN h2,iN (by omega)]]
   exact ih (i+1) k (by omega) (by omega)
theorem rl18_all(x0:LI)(x1:LI)(x3:Int)(x4:Int)(x5:Int)(x6:Int)(x7:Int)(x8:Int)(x9:Int)(x10:Int)(x11:Int)(x12:LI)(x13:Int)(x15:Int)(x16:Int)(x17:LI)(x18:LI)(x19:LI){P w i:Nat}(h3:P≤3)(hw:w<64):
  ∀(d p k:Nat),p+d=P→1≤p→d<k→q1x 600 k x0 x1 ((P:Int)) x3 x4 x5 x6 x7 x8 x9 x10 x11 x12 x13 ((w:Int)) x15 x16 x17 x18 x19 ((i:Int)) (if z4k P w i p then 1 else 0) ((p:Int))=some (x0,x1,(P:Int),x3,x4,x5,x6,x7,x8,x9,x10,x11,x12,x13,(w:Int),x15,x16,x17,x18,x19,(i:Int),if z4k P w i P then 1 else 0,()):=by
 intro d
 induction d with
 |zero=>
  intro p k h1 hp h2
  obtain⟨k,rfl⟩:∃k',k=k' +1:=⟨k-1,by omega⟩
  obtain rfl:p=P:=by omega
  unfold q1x qai
  simp only[yt,dF,cF]
 |succ d ih=>
  intro p k h1 hp h2
  obtain⟨k,rfl⟩:∃k',k=k' +1:=⟨k-1,by omega⟩
  have i1:(p:Int)<(P:Int):=by omega
  have fin:=ih (p+1) k (by omega) (by omega) (by omega)
  rw[ztn hp]at fin
  unfold q1x qai
  simp only[i1,dT,cT]
  rw[q08 (by omega),(anch9 h3 hw hp (by omega)).2]
  simp only[y5,beqN]
  cases h:(zsk P w p==i)
  ·rw[h,Bool.or_false]at fin
   simp only[cF]
   exact fin
  ·rw[h,Bool.or_true]at fin
   simp only[cT]
   exact fin
theorem jcz(P w i:Nat):(if z4k P w i P then(1:Int)else 0)=(qk4 P w i:Int):=by
 unfold qk4 ancB
 rw[show((i==0)||((yy P).any fun p=>decide (1≤p)&&(zsk P w p==i)))=z4k P w i P from rfl]
 cases z4k P w i P<;>rfl
theorem rl16_all{b:LI}(hb:Bytes b)(hl:b.length=16)(x0:LI)(x1:LI)(x3:Int)(x4:Int)(x5:Int)(x6:Int)(x7:Int)(x8:Int)(x9:Int)(x11:Int)(x15:Int)(x16:Int)(x17:LI)(x19:LI){P w f p2:Nat}(hP1:1≤P)(h3:P≤3)(hw:w<64)(hf:2≤f∧f≤4)(hp:posF P w f p2 16≤128):
  ∀(d i k:Nat),i+d=16→d<k→q1y 600 k x0 x1 ((P:Int)) x3 x4 x5 x6 x7 x8 x9 ((f:Int)) x11 b (((posF P w f p2 i:Nat):Int)) ((w:Int)) x15 x16 x17 (tab 16 (upT i (qj0 b P w f p2))) x19 ((i:Int))=some (x0,x1,(P:Int),x3,x4,x5,x6,x7,x8,x9,(f:Int),x11,b,((posF P w f p2 16:Nat):Int),(w:Int),x15,x16,x17,tab 16 (qj0 b P w f p2),x19,()):=by
 intro d
 induction d with
 |zero=>
  intro i k h1 h2
  obtain⟨k,rfl⟩:∃k',k=k' +1:=⟨k-1,by omega⟩
  obtain rfl:i=16:=by omega
  unfold q1y qaj
  have:¬(((16:Nat):Int)<16):=by omega
  simp only[this,dF,cF,qio]
 |succ d ih=>
  intro i k h1 h2
  obtain⟨k,rfl⟩:∃k',k=k' +1:=⟨k-1,by omega⟩
  have i1:(i:Int)<16:=by omega
  have hm:=j2x P w f p2 (show i+1≤16 by omega)
  have hle:=j7y P w i
  have en:y0 .i64 ((f:Int)-(qk4 P w i:Int))=((f-qk4 P w i:Nat):Int):=by
   rw[w64 (by omega) (by omega)]
   omega
  have e1:posF P w f p2 (i+1)=posF P w f p2 i+(f-qk4 P w i):=rfl
  have r:=zc9 hb hl (a:=posF P w f p2 i) (n:=f-qk4 P w i) (by omega) (by omega)
  rw[←e1,show lv b (posF P w f p2 i) (f-qk4 P w i)=qj0 b P w f p2 i from rfl]at r
  have h18:=rl18_all x0 x1 x3 x4 x5 x6 x7 x8 x9 ((f:Int)) x11 b (((posF P w f p2 i:Nat):Int)) x15 x16 x17 (tab 16 (upT i (qj0 b P w f p2))) x19 (i:=i) h3 hw (P-1) 1 600 (by omega) (by omega) (by omega)
  rw[j34,jcz]at h18
  have fin:=ih (i+1) k (by omega) (by omega)
  unfold q1y qaj
  by_cases h0:i=0
  ·subst h0
   have h18' :q1x 600 600 x0 x1 ((P:Int)) x3 x4 x5 x6 x7 x8 x9 ((f:Int)) x11 b (((posF P w f p2 0:Nat):Int)) ((w:Int)) x15 x16 x17 (tab 16 (upT 0 (qj0 b P w f p2))) x19 (((0:Nat):Int)) 1 1=some (x0,x1,(P:Int),x3,x4,x5,x6,x7,x8,x9,(f:Int),x11,b,((posF P w f p2 0:Nat):Int),(w:Int),x15,x16,x17,tab 16 (upT 0 (qj0 b P w f p2)),x19,((0:Nat):Int),(qk4 P w 0:Int),()):=h18
   simp only[i1,dT,cT,beqT (show((0:Nat):Int)=0 from rfl),yc,yd,yb,h18',y5,en,r]
   rw[q08 (by omega),qfx]
   exact fin
  ·have h18' :q1x 600 600 x0 x1 ((P:Int)) x3 x4 x5 x6 x7 x8 x9 ((f:Int)) x11 b (((posF P w f p2 i:Nat):Int)) ((w:Int)) x15 x16 x17 (tab 16 (upT i (qj0 b P w f p2))) x19 (((i:Nat):Int)) 0 1=some (x0,x1,(P:Int),x3,x4,x5,x6,x7,x8,x9,(f:Int),x11,b,((posF P w f p2 i:Nat):Int),(w:Int),x15,x16,x17,tab 16 (upT i (qj0 b P w f p2)),x19,((i:Nat):Int),(qk4 P w i:Int),()):=by
    have hz:(i==0)=false:=by simp[h0]
    rw[hz]at h18
    exact h18
   simp only[i1,dT,cT,beqF (show((i:Nat):Int)≠0 by omega),cF,yc,yd,yb,h18',y5,en,r]
   rw[q08 (by omega),qfx]
   exact fin
theorem jd0(x0:LI)(x1:LI)(x2:Int)(x3:Int)(x4:Int)(x5:Int)(x6:Int)(x7:Int)(x8:Int)(x9:Int)(x10:Int)(x12:LI)(x13:Int)(x14:Int)(x15:Int)(x16:Int)(x17:LI)(x18:LI)(x19:LI)(k:Nat):q10 600 (k+1) x0 x1 x2 x3 x4 x5 x6 x7 x8 x9 x10 (((0:Nat):Int)) x12 x13 x14 x15 x16 x17 x18 x19 0=some (x0,x1,x2,x3,x4,x5,x6,x7,x8,x9,x10,((0:Nat):Int),x14,x15,x16,x17,x18,x19,()):=by
 unfold q10 q71
 have:¬(0:Int)<((0:Nat):Int):=by omega
 simp only[this,dF,cF]
 cases decide ((0:Int)<16)<;>rfl
theorem rl20_all{b:LI}(hb:Bytes b)(hl:b.length=16)(x0:LI)(x1:LI)(x2:Int)(x3:Int)(x4:Int)(x5:Int)(x6:Int)(x7:Int)(x8:Int)(x9:Int)(x10:Int)(x14:Int)(x15:Int)(x16:Int)(x17:LI)(x18:LI){s p3:Nat}(hs:2≤s∧s≤3)(hp:p3+(16*s-1)≤128):
  ∀(d i k:Nat),i+d=16→d<k→q10 600 k x0 x1 x2 x3 x4 x5 x6 x7 x8 x9 x10 ((s:Int)) b (((posS s p3 i:Nat):Int)) x14 x15 x16 x17 x18 (tab 16 (upT i (secV b s p3))) ((i:Int))=some (x0,x1,x2,x3,x4,x5,x6,x7,x8,x9,x10,(s:Int),x14,x15,x16,x17,x18,tab 16 (secV b s p3),()):=by
 intro d
 induction d with
 |zero=>
  intro i k h1 h2
  obtain⟨k,rfl⟩:∃k',k=k' +1:=⟨k-1,by omega⟩
  obtain rfl:i=16:=by omega
  unfold q10 q71
  have:¬(((16:Nat):Int)<16):=by omega
  simp only[this,dF,cF,qio]
 |succ d ih=>
  intro i k h1 h2
  obtain⟨k,rfl⟩:∃k',k=k' +1:=⟨k-1,by omega⟩
  have i1:(i:Int)<16:=by omega
  have hle:(if i=0 then 1 else 0:Nat)≤1:=by split<;>omega
  have e1:=j36 (p3:=p3) (i:=i) hs.1
  have hm:posS s p3 (i+1)≤128:=by
   unfold posS
   rw[iN (by omega)]
   have:=Nat.mul_le_mul_right s (show i+1≤16 by omega)
   omega
  have es:secV b s p3 i=lv b (posS s p3 i) (s-(if i=0 then 1 else 0)):=by
   unfold secV
   exact iN (by omega)
  have r:=zc9 hb hl (a:=posS s p3 i) (n:=s-(if i=0 then 1 else 0)) (by omega) (by omega)
  rw[←e1,←es]at r
  have is:(0:Int)<(s:Int):=by omega
  have fin:=ih (i+1) k (by omega) (by omega)
  unfold q10 q71
  by_cases h0:i=0
  ·subst h0
   have ew:y0 .i64 ((s:Int)-1)=((s-1:Nat):Int):=by rw[w64 (by omega) (by omega)];omega
   rw[iP rfl]at r
   simp only[i1,is,dT,cT,beqT (show((0:Nat):Int)=0 from rfl),yc,yd,yb,ew,r,y5]
   rw[q08 (by omega),qfx]
   exact fin
  ·have ew:y0 .i64 ((s:Int)-0)=((s-0:Nat):Int):=by rw[w64 (by omega) (by omega)];omega
   rw[iN h0]at r
   simp only[i1,is,dT,cT,beqF (show((i:Nat):Int)≠0 by omega),cF,yc,yd,yb,ew,r,y5]
   rw[q08 (by omega),qfx]
   exact fin
theorem zz8(x0:LI)(x2:Int)(x3:Int)(x4:Int)(x5:Int)(x6:Int)(x7:Int)(x8:Int)(x9:Int)(x10:Int)(x11:Int)(x12:Int)(x13:Int)(x14:Int)(x15:LI)(x16:LI)(x17:LI)(x23:Int)(x24:Int){a z g q:Nat→Int}{p:Int}{n i:Nat}(hi:i<16)(hg:∀c,c<3→q70 600 (a c) (z c) p (n:Int)=some (g c,())):
  ∀(d c k:Nat),c+d=3→d<k→q11 600 k x0 (tab 64 fun j=>if j/4=i∧j%4<c then g (j%4)else q j) x2 x3 x4 x5 x6 x7 x8 x9 x10 x11 x12 x13 x14 x15 x16 x17 ((i:Int)) (tab 4 a) (tab 4 z) p ((n:Int)) x23 x24 ((c:Int))=some (x0,tab 64 fun j=>if j/4=i∧j%4<3 then g (j%4)else q j,x2,x3,x4,x5,x6,x7,x8,x9,x10,x11,x12,x13,x14,x15,x16,x17,(i:Int),tab 4 a,tab 4 z,x23,x24,()):=by
 intro d
 induction d with
 |zero=>
  intro c k h1 h2
  obtain⟨k,rfl⟩:∃k',k=k' +1:=⟨k-1,by omega⟩
  obtain rfl:c=3:=by omega
  unfold q11 qak
  have:¬(((3:Nat):Int)<3):=by omega
  simp only[this,dF,cF]
 |succ d ih=>
  intro c k h1 h2
  obtain⟨k,rfl⟩:∃k',k=k' +1:=⟨k-1,by omega⟩
  have i1:(c:Int)<3:=by omega
  have i2:(c:Int)<4:=by omega
  have i3:(i:Int)<16:=by omega
  unfold q11 qak
  simp only[i1,i2,i3,dT,cT,yc,yd,yb,q0g (show c<4 by omega),hg c (by omega),y5,q5g]
  rw[q08 (by omega),q02 fun j hj=>show(if j=i*4+c then g c else if j/4=i∧j%4<c then g (j%4)else q j)=if j/4=i∧j%4<c+1 then g (j%4)else q j by
   by_cases h:j=i*4+c
   ·rw[iP h,iP (by omega),show j%4=c by omega]
   ·rw[iN h]
    by_cases h5:j/4=i∧j%4<c
    ·rw[iP h5,iP (by omega)]
    ·rw[iN h5,iN (by omega)]]
  exact ih (c+1) k (by omega) (by omega)
theorem out3{q:Nat→Int}(g:Nat→Int){i:Nat}(hi:i<16):(tab 64 fun j=>if j/4=i∧j%4<3 then g (j%4)else q j).set (3+i*4) (g 3)=tab 64 fun j=>if j/4=i then g (j%4)else q j:=by
 rw[q5g]
 refine q02 fun j hj=> ?_
 by_cases h3:j=3+i*4
 ·rw[iP h3,iP (by omega),show j%4=3 by omega]
 ·rw[iN h3]
  by_cases h:j/4=i∧j%4<3
  ·rw[iP h,iP h.1]
  ·rw[iN h,iN (by omega)]
theorem zz9{q:Nat→Int}(g:Nat→Int){i:Nat}(hi:i<16){t:Int}(ht:0≤t∧t<4)(h:0<t):
  yw (yw (tab 64 fun j=>if j/4=i then g (j%4)else q j) (3+i*4) (y7 (tab 64 fun j=>if j/4=i then g (j%4)else q j) (i*4+(t-1).toNat) 0)) (i*4+(t-1).toNat) (y7 (tab 64 fun j=>if j/4=i then g (j%4)else q j) (3+i*4) 0)
   =tab 64 fun j=>if j/4=i then z7c t g (j%4)else q j:=by
 have e:(t-1).toNat=t.toNat-1:=by omega
 have ht3:t.toNat-1<3:=by omega
 rw[e,q0g (by omega),q0g (by omega),q5g,q5g]
 refine q02 fun j hj=> ?_
 rw[show(i*4+(t.toNat-1))%4=t.toNat-1 by omega,show(3+i*4)%4=3 by omega,show(i*4+(t.toNat-1))/4=i by omega,show(3+i*4)/4=i by omega,iP rfl,iP rfl]
 unfold z7c
 rw[iP h]
 by_cases h1:j/4=i
 ·rw[iP h1,iP h1]
  by_cases h2:j=i*4+(t.toNat-1)
  ·rw[iP h2,iP (by omega)]
  ·rw[iN h2]
   by_cases h3:j=3+i*4
   ·rw[iP h3,iN (by omega),iP (by omega)]
   ·rw[iN h3,iN (by omega),iN (by omega)]
 ·rw[iN h1,iN h1,iN (by omega),iN (by omega)]
theorem z0d(b:LI)(m:BM){i:Nat}(hi:i<16):(tab 64 fun j=>if j/4=i then texV b m i (j%4)else upT (i*4) (decF b m) j)=tab 64 (upT ((i+1)*4) (decF b m)):=by
 refine q02 fun j hj=> ?_
 unfold upT decF
 by_cases h:j/4=i
 ·rw[iP h,iP (by omega),h]
 ·rw[iN h]
  by_cases h2:j<i*4
  ·rw[iP h2,iP (by omega)]
  ·rw[iN h2,iN (by omega)]
theorem rl22_all(b:LI){m:BM}(ok:m.Ok)(x0:LI):
  ∀(d i k:Nat),i+d=16→d<k→q1z 600 k x0 (tab 64 (upT (i*4) (decF b m))) ((m.P:Int)) ((m.W:Int)) ((m.T:Int)) ((m.H:Int)) ((m.C:Int)) ((m.A:Int)) ((m.e:Int)) ((m.o:Int)) ((m.f:Int)) ((m.s:Int)) ((wN b m:Int)) (tN b m) (cN b m) (tab (2*m.P*4) (endF b m)) (tab 16 (firF b m)) (tab 16 (secF b m)) ((i:Int))=some (x0,tab 64 (decF b m),()):=by
 intro d
 induction d with
 |zero=>
  intro i k h1 h2
  obtain⟨k,rfl⟩:∃k',k=k' +1:=⟨k-1,by omega⟩
  obtain rfl:i=16:=by omega
  unfold q1z qal
  have:¬(((16:Nat):Int)<16):=by omega
  simp only[this,dF,cF]
  rw[show 16*4=64 from rfl,qio]
 |succ d ih=>
  intro i k h1 h2
  obtain⟨k,rfl⟩:∃k',k=k' +1:=⟨k-1,by omega⟩
  have hi:i<16:=by omega
  have fin:=ih (i+1) k (by omega) (by omega)
  obtain⟨_,q2,q3⟩:=part9 ok.P1 ok.P3 (jcw b ok).2 hi
  have hP3:=ok.P3
  have ht:=j82 b ok
  have hcol:=j5m b ok i
  have halp:=j5n b ok i
  have i2:(2*m.P*4)/4=2*m.P:=by omega
  have e1:y0 .i64 (2*((q5h m.P (wN b m) i:Nat):Int))=((2*q5h m.P (wN b m) i:Nat):Int):=by rw[w64 (by omega) (by omega)];omega
  have e2:y0 .i64 (((2*q5h m.P (wN b m) i:Nat):Int)+1)=((2*q5h m.P (wN b m) i+1:Nat):Int):=q08 (by omega)
  have i3:((2*q5h m.P (wN b m) i:Nat):Int)<((2*m.P:Nat):Int):=by omega
  have i4:((2*q5h m.P (wN b m) i+1:Nat):Int)<((2*m.P:Nat):Int):=by omega
  have i5:(i:Int)<16:=by omega
  have r1:y8 4 (y9 (2*q5h m.P (wN b m) i*4) (tab (2*m.P*4) (endF b m)))=tab 4 (aF b m i):=qca (by omega)
  have r2:y8 4 (y9 ((2*q5h m.P (wN b m) i+1)*4) (tab (2*m.P*4) (endF b m)))=tab 4 (z9F b m i):=qca (by omega)
  unfold q1z qal
  simp only[q2,y5,q0f,i2,e1,e2,i3,i4,i5,r1,r2,dT,cT,yc,yd,yb,q0g hi]
  by_cases hs:m.s=0
  ·have g1:¬(0:Int)<(m.s:Int):=by omega
   have hc1:colP b m i=(firF b m i,m.f):=iN (by omega)
   have ha1:alpP b m i=(firF b m i,m.f):=iN (by omega)
   rw[hc1]at hcol
   rw[ha1]at halp
   have g2:=beqF (show cN b m≠1 by
    have:=q4j b (m.base+m.W+m.T) m.H
    rw[ok.Hs hs]at this
    unfold cN
    rw[ok.Hs hs]
    omega)
   have h24:=zz8 x0 ((m.P:Int)) ((m.W:Int)) ((m.T:Int)) ((m.H:Int)) ((m.C:Int)) ((m.A:Int)) ((m.e:Int)) ((m.o:Int)) ((m.f:Int)) ((m.s:Int)) ((wN b m:Int)) (tN b m) (cN b m) (tab (2*m.P*4) (endF b m)) (tab 16 (firF b m)) (tab 16 (secF b m)) (firF b m i) ((m.f:Int)) (a:=aF b m i) (z:=z9F b m i) (g:=preV b m i) (q:=upT (i*4) (decF b m)) (p:=firF b m i) (n:=m.f) hi (fun c hc=>by
    have:=(mix9 (q0s b ok (2*q5h m.P (wN b m) i*4+c)) (q0s b ok ((2*q5h m.P (wN b m) i+1)*4+c)) hcol.1 hcol.2).2
    unfold preV
    rw[iN (by omega),hc1]
    exact this) 3 0 600 (by omega) (by omega)
   have m3:=(mix9 (q0s b ok (2*q5h m.P (wN b m) i*4+3)) (q0s b ok ((2*q5h m.P (wN b m) i+1)*4+3)) halp.1 halp.2).2
   have p3:mx (aF b m i 3) (z9F b m i 3) (firF b m i) (m.f)=preV b m i 3:=by
    unfold preV
    rw[iP rfl,ha1]
   change q70 600 (aF b m i 3) (z9F b m i 3) (firF b m i) (m.f:Int)=some (mx (aF b m i 3) (z9F b m i 3) (firF b m i) (m.f),())at m3
   rw[p3]at m3
   simp only[Nat.not_lt_zero,and_false,if_false,show((0:Nat):Int)=0 from rfl]at h24
   change q11 600 600 x0 (tab 64 (upT (i*4) (decF b m))) ((m.P:Int)) ((m.W:Int)) ((m.T:Int)) ((m.H:Int)) ((m.C:Int)) ((m.A:Int)) ((m.e:Int)) ((m.o:Int)) ((m.f:Int)) ((m.s:Int)) ((wN b m:Int)) (tN b m) (cN b m) (tab (2*m.P*4) (endF b m)) (tab 16 (firF b m)) (tab 16 (secF b m)) ((i:Int)) (tab 4 (aF b m i)) (tab 4 (z9F b m i)) (firF b m i) ((m.f:Int)) (firF b m i) ((m.f:Int)) 0=_ at h24
   simp only[g1,g2,i5,dT,dF,cT,cF,yc,yd,h24,y5,q0g (show 3<4 by omega),m3,yb,out3 (preV b m i) hi]
   by_cases h:0<tN b m
   ·have ew:y0 .i64 (tN b m-1)=tN b m-1:=w64 (by omega) (by omega)
    have j1:(0:Int)≤tN b m-1:=by omega
    have j2:tN b m-1<4:=by omega
    simp only[h,dT,cT,ew,j1,j2,yd]
    rw[zz9 (preV b m i) hi ht h,q08 (by omega),show(tab 64 fun j=>if j/4=i then z7c (tN b m) (preV b m i) (j%4)else upT (i*4) (decF b m) j)=tab 64 (upT ((i+1)*4) (decF b m))from z0d b m hi]
    exact fin
   ·simp only[h,dF,cF]
    rw[q08 (by omega),q02 fun j hj=>show(if j/4=i then preV b m i (j%4)else upT (i*4) (decF b m) j)=if j/4=i then texV b m i (j%4)else upT (i*4) (decF b m) j by
     unfold texV z7c
     rw[iN h],z0d b m hi]
    exact fin
  ·have g1:(0:Int)<(m.s:Int):=by omega
   by_cases hch:cN b m=1
   ·have g2:=beqT hch
    have hc1:colP b m i=(secF b m i,m.s):=iP ⟨hs,hch⟩
    have ha1:alpP b m i=(firF b m i,m.f):=iN (fun h=>h.2 hch)
    rw[hc1]at hcol
    rw[ha1]at halp
    have h24:=zz8 x0 ((m.P:Int)) ((m.W:Int)) ((m.T:Int)) ((m.H:Int)) ((m.C:Int)) ((m.A:Int)) ((m.e:Int)) ((m.o:Int)) ((m.f:Int)) ((m.s:Int)) ((wN b m:Int)) (tN b m) (cN b m) (tab (2*m.P*4) (endF b m)) (tab 16 (firF b m)) (tab 16 (secF b m)) (firF b m i) ((m.f:Int)) (a:=aF b m i) (z:=z9F b m i) (g:=preV b m i) (q:=upT (i*4) (decF b m)) (p:=secF b m i) (n:=m.s) hi (fun c hc=>by
     have:=(mix9 (q0s b ok (2*q5h m.P (wN b m) i*4+c)) (q0s b ok ((2*q5h m.P (wN b m) i+1)*4+c)) hcol.1 hcol.2).2
     unfold preV
     rw[iN (by omega),hc1]
     exact this) 3 0 600 (by omega) (by omega)
    have m3:=(mix9 (q0s b ok (2*q5h m.P (wN b m) i*4+3)) (q0s b ok ((2*q5h m.P (wN b m) i+1)*4+3)) halp.1 halp.2).2
    have p3:mx (aF b m i 3) (z9F b m i 3) (firF b m i) (m.f)=preV b m i 3:=by
     unfold preV
     rw[iP rfl,ha1]
    change q70 600 (aF b m i 3) (z9F b m i 3) (firF b m i) (m.f:Int)=some (mx (aF b m i 3) (z9F b m i 3) (firF b m i) (m.f),())at m3
    rw[p3]at m3
    simp only[Nat.not_lt_zero,and_false,if_false,show((0:Nat):Int)=0 from rfl]at h24
    change q11 600 600 x0 (tab 64 (upT (i*4) (decF b m))) ((m.P:Int)) ((m.W:Int)) ((m.T:Int)) ((m.H:Int)) ((m.C:Int)) ((m.A:Int)) ((m.e:Int)) ((m.o:Int)) ((m.f:Int)) ((m.s:Int)) ((wN b m:Int)) (tN b m) (cN b m) (tab (2*m.P*4) (endF b m)) (tab 16 (firF b m)) (tab 16 (secF b m)) ((i:Int)) (tab 4 (aF b m i)) (tab 4 (z9F b m i)) (secF b m i) ((m.s:Int)) (firF b m i) ((m.f:Int)) 0=_ at h24
    simp only[g1,g2,i5,dT,dF,cT,cF,yc,yd,h24,y5,q0g (show 3<4 by omega),m3,yb,out3 (preV b m i) hi]
    by_cases h:0<tN b m
    ·have ew:y0 .i64 (tN b m-1)=tN b m-1:=w64 (by omega) (by omega)
     have j1:(0:Int)≤tN b m-1:=by omega
     have j2:tN b m-1<4:=by omega
     simp only[h,dT,cT,ew,j1,j2,yd]
     rw[zz9 (preV b m i) hi ht h,q08 (by omega),show(tab 64 fun j=>if j/4=i then z7c (tN b m) (preV b m i) (j%4)else upT (i*4) (decF b m) j)=tab 64 (upT ((i+1)*4) (decF b m))from z0d b m hi]
     exact fin
    ·simp only[h,dF,cF]
     rw[q08 (by omega),q02 fun j hj=>show(if j/4=i then preV b m i (j%4)else upT (i*4) (decF b m) j)=if j/4=i then texV b m i (j%4)else upT (i*4) (decF b m) j by
      unfold texV z7c
      rw[iN h],z0d b m hi]
     exact fin
   ·have g2:=beqF hch
    have hc1:colP b m i=(firF b m i,m.f):=iN (fun h=>hch h.2)
    have ha1:alpP b m i=(secF b m i,m.s):=iP ⟨hs,hch⟩
    rw[hc1]at hcol
    rw[ha1]at halp
    have h24:=zz8 x0 ((m.P:Int)) ((m.W:Int)) ((m.T:Int)) ((m.H:Int)) ((m.C:Int)) ((m.A:Int)) ((m.e:Int)) ((m.o:Int)) ((m.f:Int)) ((m.s:Int)) ((wN b m:Int)) (tN b m) (cN b m) (tab (2*m.P*4) (endF b m)) (tab 16 (firF b m)) (tab 16 (secF b m)) (secF b m i) ((m.s:Int)) (a:=aF b m i) (z:=z9F b m i) (g:=preV b m i) (q:=upT (i*4) (decF b m)) (p:=firF b m i) (n:=m.f) hi (fun c hc=>by
     have:=(mix9 (q0s b ok (2*q5h m.P (wN b m) i*4+c)) (q0s b ok ((2*q5h m.P (wN b m) i+1)*4+c)) hcol.1 hcol.2).2
     unfold preV
     rw[iN (by omega),hc1]
     exact this) 3 0 600 (by omega) (by omega)
    have m3:=(mix9 (q0s b ok (2*q5h m.P (wN b m) i*4+3)) (q0s b ok ((2*q5h m.P (wN b m) i+1)*4+3)) halp.1 halp.2).2
    have p3:mx (aF b m i 3) (z9F b m i 3) (secF b m i) (m.s)=preV b m i 3:=by
     unfold preV
     rw[iP rfl,ha1]
    change q70 600 (aF b m i 3) (z9F b m i 3) (secF b m i) (m.s:Int)=some (mx (aF b m i 3) (z9F b m i 3) (secF b m i) (m.s),())at m3
    rw[p3]at m3
    simp only[Nat.not_lt_zero,and_false,if_false,show((0:Nat):Int)=0 from rfl]at h24
    change q11 600 600 x0 (tab 64 (upT (i*4) (decF b m))) ((m.P:Int)) ((m.W:Int)) ((m.T:Int)) ((m.H:Int)) ((m.C:Int)) ((m.A:Int)) ((m.e:Int)) ((m.o:Int)) ((m.f:Int)) ((m.s:Int)) ((wN b m:Int)) (tN b m) (cN b m) (tab (2*m.P*4) (endF b m)) (tab 16 (firF b m)) (tab 16 (secF b m)) ((i:Int)) (tab 4 (aF b m i)) (tab 4 (z9F b m i)) (firF b m i) ((m.f:Int)) (secF b m i) ((m.s:Int)) 0=_ at h24
    simp only[g1,g2,i5,dT,dF,cT,cF,yc,yd,h24,y5,q0g (show 3<4 by omega),m3,yb,out3 (preV b m i) hi]
    by_cases h:0<tN b m
    ·have ew:y0 .i64 (tN b m-1)=tN b m-1:=w64 (by omega) (by omega)
     have j1:(0:Int)≤tN b m-1:=by omega
     have j2:tN b m-1<4:=by omega
     simp only[h,dT,cT,ew,j1,j2,yd]
     rw[zz9 (preV b m i) hi ht h,q08 (by omega),show(tab 64 fun j=>if j/4=i then z7c (tN b m) (preV b m i) (j%4)else upT (i*4) (decF b m) j)=tab 64 (upT ((i+1)*4) (decF b m))from z0d b m hi]
     exact fin
    ·simp only[h,dF,cF]
     rw[q08 (by omega),q02 fun j hj=>show(if j/4=i then preV b m i (j%4)else upT (i*4) (decF b m) j)=if j/4=i then texV b m i (j%4)else upT (i*4) (decF b m) j by
      unfold texV z7c
      rw[iN h],z0d b m hi]
     exact fin
def g1' (b:LI)(m:BM)(j:Nat):Int:=g1 b m (bp0 m) (bp1 m) j
theorem j9t{b:LI}(hb:Bytes b)(hl:b.length=16):qhe 600 b=some (qbn b,0,()):=by
 have hmd:=qm4 (hb.getD 0)
 have hn:(((b.length:Nat):Int) !=16)=false:=by rw[hl];rfl
 unfold qhe qbn
 rw[hn,rMode_is hb hl]
 simp only[cF,y5]
 by_cases h8:q9b (b.getD 0 0)=8
 ·rw[h8,iP rfl]
  rfl
 rw[iN h8,beqF (by omega)]
 have hk:q9b (b.getD 0 0)<8:=by omega
 generalize q9b (b.getD 0 0)=k at hk
 have ok:=bm_ok hk
 have hbase:(bmOf k).base=k+1:=rfl
 have hrow:=row_is hk
 generalize bmOf k=m at ok hbase hrow
 obtain⟨hP1,hP3,hW6,hT2,hH1,hC1,hC7,hA8,he1,ho1,heo,hCe,hAe,hf2,hf4,hs3,hs0,hHs,hb8,hall⟩:=ok
 have ok:m.Ok:=⟨hP1,hP3,hW6,hT2,hH1,hC1,hC7,hA8,he1,ho1,heo,hCe,hAe,hf2,hf4,hs3,hs0,hHs,hb8,hall⟩
 obtain⟨hw,hw64⟩:=jcw b ok
 obtain⟨h3e,h3⟩:=bp3_le b ok
 have n8:bctable_ModesT298.length/10=8:=rfl
 have i1:(k:Int)<((8:Nat):Int):=by omega
 have g0:(qmb m).getD 0 0=(m.P:Int):=rfl
 have g1:(qmb m).getD 1 0=(m.W:Int):=rfl
 have g2:(qmb m).getD 2 0=(m.T:Int):=rfl
 have g3:(qmb m).getD 3 0=(m.H:Int):=rfl
 have g4:(qmb m).getD 4 0=(m.C:Int):=rfl
 have g5:(qmb m).getD 5 0=(m.A:Int):=rfl
 have g6:(qmb m).getD 6 0=(m.e:Int):=rfl
 have g7:(qmb m).getD 7 0=(m.o:Int):=rfl
 have g8:(qmb m).getD 8 0=(m.f:Int):=rfl
 have g9:(qmb m).getD 9 0=(m.s:Int):=rfl
 have e2:y0 .i64 (2*(m.P:Int))=((2*m.P:Nat):Int):=by rw[w64 (by omega) (by omega)];omega
 have r1:=zc9 hb hl (a:=m.base) (n:=m.W) (by omega) (by omega)
 have r2:=zc9 hb hl (a:=m.base+m.W) (n:=m.T) (by omega) (by omega)
 have r3:=zc9 hb hl (a:=m.base+m.W+m.T) (n:=m.H) (by omega) (by omega)
 rw[hw]at r1
 rw[show lv b (m.base+m.W) m.T=tN b m from rfl]at r2
 rw[show lv b (m.base+m.W+m.T) m.H=cN b m from rfl,show m.base+m.W+m.T+m.H=bp0 m from rfl]at r3
 have i2:((2*m.P:Nat):Int)≤1099511627776:=by omega
 have l0:=rl0_all hb hl q00 q00 ((m.P:Int)) ((m.W:Int)) ((m.T:Int)) ((m.H:Int)) ((m.e:Int)) ((m.o:Int)) ((m.f:Int)) ((m.s:Int)) ((wN b m:Int)) (tN b m) (cN b m) ok (p0:=bp0 m) (by unfold bp0;omega) 595
 rw[show(595+5:Nat)=600 from rfl,show bp0 m+6*m.P*m.C+2*m.P*m.A=bp1 m from rfl]at l0
 have l12:=rl12_all b q00 q00 ((m.P:Int)) ((m.W:Int)) ((m.T:Int)) ((m.H:Int)) ((m.e:Int)) ((m.o:Int)) ((m.f:Int)) ((m.s:Int)) b (((bp2 m:Nat):Int)) ((wN b m:Int)) (tN b m) (cN b m) ok (bp0 m) (bp1 m) (2*m.P) 0 600 (by omega) (by omega)
 rw[show tab (2*m.P*4) (vG b m (bp0 m) (bp1 m) 0)=tab (2*m.P*4) (g1' b m)from q02 fun j hj=>iN (by omega),show((0:Nat):Int)=0 from rfl,show tab (2*m.P*4) (eF b m (bp0 m) (bp1 m))=tab (2*m.P*4) (endF b m)from rfl]at l12
 have l16:=rl16_all hb hl q00 q00 ((m.W:Int)) ((m.T:Int)) ((m.H:Int)) ((m.C:Int)) ((m.A:Int)) ((m.e:Int)) ((m.o:Int)) ((m.s:Int)) (tN b m) (cN b m) (tab (2*m.P*4) (endF b m)) q06 (P:=m.P) (w:=wN b m) (f:=m.f) (p2:=bp2 m) hP1 hP3 hw64 ⟨hf2,hf4⟩ (by have:=h3;unfold bp3 at this;omega) 16 0 600 (by omega) (by omega)
 rw[q9a,←sq0,show posF m.P (wN b m) m.f (bp2 m) 0=bp2 m from rfl,show((0:Nat):Int)=0 from rfl,show tab 16 (qj0 b m.P (wN b m) m.f (bp2 m))=tab 16 (firF b m)from rfl]at l16
 have l20:q10 600 600 q00 q00 ((m.P:Int)) ((m.W:Int)) ((m.T:Int)) ((m.H:Int)) ((m.C:Int)) ((m.A:Int)) ((m.e:Int)) ((m.o:Int)) ((m.f:Int)) ((m.s:Int)) b (((posF m.P (wN b m) m.f (bp2 m) 16:Nat):Int)) ((wN b m:Int)) (tN b m) (cN b m) (tab (2*m.P*4) (endF b m)) (tab 16 (firF b m)) q06 0=some (q00,q00,(m.P:Int),(m.W:Int),(m.T:Int),(m.H:Int),(m.C:Int),(m.A:Int),(m.e:Int),(m.o:Int),(m.f:Int),(m.s:Int),(wN b m:Int),tN b m,cN b m,tab (2*m.P*4) (endF b m),tab 16 (firF b m),tab 16 (secF b m),()):=by
  by_cases hs:m.s=0
  ·have q:q06=tab 16 (secF b m):=sq0.trans (q02 fun j hj=>by
    unfold secF secV
    rw[iP hs])
   rw[←q,hs]
   exact jd0 q00 q00 ((m.P:Int)) ((m.W:Int)) ((m.T:Int)) ((m.H:Int)) ((m.C:Int)) ((m.A:Int)) ((m.e:Int)) ((m.o:Int)) ((m.f:Int)) b (((posF m.P (wN b m) m.f (bp2 m) 16:Nat):Int)) ((wN b m:Int)) (tN b m) (cN b m) (tab (2*m.P*4) (endF b m)) (tab 16 (firF b m)) q06 599
  ·have l:=rl20_all hb hl q00 q00 ((m.P:Int)) ((m.W:Int)) ((m.T:Int)) ((m.H:Int)) ((m.C:Int)) ((m.A:Int)) ((m.e:Int)) ((m.o:Int)) ((m.f:Int)) ((wN b m:Int)) (tN b m) (cN b m) (tab (2*m.P*4) (endF b m)) (tab 16 (firF b m)) (s:=m.s) (p3:=bp3 b m) (by omega) (by rw[iN hs]at h3;exact h3) 16 0 600 (by omega) (by omega)
   rw[q9a,←sq0,show posS m.s (bp3 b m) 0=posF m.P (wN b m) m.f (bp2 m) 16 from rfl,show((0:Nat):Int)=0 from rfl]at l
   exact l
 have l22:=rl22_all b ok q00 16 0 600 (by omega) (by omega)
 rw[Nat.zero_mul,q9a,←j37,show((0:Nat):Int)=0 from rfl]at l22
 unfold z3s
 simp only[cF,n8,i1,dT,cT,yc,yd,yb,y5,hrow,g0,g1,g2,g3,g4,g5,g6,g7,g8,g9]
 rw[q08 (by omega),←hbase]
 simp only[r1,r2,r3,y5,e2,i2,dT,yc,yd,cT,yb,jcp,l0]
 by_cases he:m.e=1
 ·have ho:m.o=0:=by omega
  have l4:=rl4_all hb hl q00 q00 ((m.P:Int)) ((m.W:Int)) ((m.T:Int)) ((m.H:Int)) ((m.C:Int)) ((m.A:Int)) ((m.e:Int)) ((m.o:Int)) ((m.f:Int)) ((m.s:Int)) ((wN b m:Int)) (tN b m) (cN b m) ok he (bp0 m) (bp1 m) (by have:=h3;unfold bp2 at h3e;rw[he,Nat.mul_one]at h3e;omega) (2*m.P) 0 600 (by omega) (by omega)
  rw[show tab (2*m.P*4) (bG b m (bp0 m) (bp1 m) 0)=tab (2*m.P*4) (e0 b m (bp0 m))from q02 fun j hj=>iN (by omega),show((0:Nat):Int)=0 from rfl,Nat.add_zero,
   show tab (2*m.P*4) (bG b m (bp0 m) (bp1 m) (2*m.P))=tab (2*m.P*4) (g1' b m)from q02 fun j hj=>by
    unfold bG g1' Gn.g1
    rw[iP (by omega),he,ho]
    rfl,show bp1 m+2*m.P=bp2 m by unfold bp2;rw[he,ho];omega]at l4
  rw[show((m.e+m.o:Nat):Int)=1 by omega]at l12
  simp only[beqT (show((m.e:Nat):Int)=1 by omega),beqF (show((m.o:Nat):Int)≠1 by omega),cT,cF,l4,l12,l16,l20,l22,y5]
 ·by_cases ho:m.o=1
  ·have he0:m.e=0:=by omega
   have l8:=rl8_all hb hl q00 q00 ((m.P:Int)) ((m.W:Int)) ((m.T:Int)) ((m.H:Int)) ((m.C:Int)) ((m.A:Int)) ((m.e:Int)) ((m.o:Int)) ((m.f:Int)) ((m.s:Int)) ((wN b m:Int)) (tN b m) (cN b m) ok ho (bp0 m) (bp1 m) (by have:=h3;unfold bp2 at h3e;rw[ho,Nat.mul_one]at h3e;omega) m.P 0 600 (by omega) (by omega)
   rw[Nat.mul_zero,show tab (2*m.P*4) (bG b m (bp0 m) (bp1 m) 0)=tab (2*m.P*4) (e0 b m (bp0 m))from q02 fun j hj=>iN (by omega),show((0:Nat):Int)=0 from rfl,Nat.add_zero,
    show tab (2*m.P*4) (bG b m (bp0 m) (bp1 m) (2*m.P))=tab (2*m.P*4) (g1' b m)from q02 fun j hj=>by
     unfold bG g1' Gn.g1
     rw[iP (by omega),he0,ho]
     rfl,show bp1 m+m.P=bp2 m by unfold bp2;rw[he0,ho];omega]at l8
   rw[show((m.e+m.o:Nat):Int)=1 by omega]at l12
   simp only[beqF (show((m.e:Nat):Int)≠1 by omega),beqT (show((m.o:Nat):Int)=1 by omega),cT,cF,l8,l12,l16,l20,l22,y5]
  ·have he0:m.e=0:=by omega
   have ho0:m.o=0:=by omega
   have hg:tab (2*m.P*4) (e0 b m (bp0 m))=tab (2*m.P*4) (g1' b m):=q02 fun j hj=>by
    unfold g1' Gn.g1 bitV
    rw[iN he,iN ho,he0,ho0]
    omega
   rw[show((m.e+m.o:Nat):Int)=0 by omega,←hg,show bp2 m=bp1 m by unfold bp2;rw[he0,ho0];omega]at l12
   rw[show bp2 m=bp1 m by unfold bp2;rw[he0,ho0];omega]at l16 l20
   simp only[beqF (show((m.e:Nat):Int)≠1 by omega),beqF (show((m.o:Nat):Int)≠1 by omega),cT,cF,l12,l16,l20,l22,y5]
theorem jd1:((yy 256).all fun x=>decide ((math_bits_TrailingZeros8T292.getD x 0).toNat≤8))=true:=by decide+kernel
theorem j9u(b:LI){j:Nat}(hj:j<64):0≤(qbn b).getD j 0∧(qbn b).getD j 0≤255:=by
 unfold qbn
 split
 ·rw[j37,q0g hj]
  omega
 ·rename_i h
  rw[q0g hj]
  by_cases hk:q9b (b.getD 0 0)<8
  ·exact j9s b (bm_ok hk) _ _
  ·exfalso
   have:∀x:Int,q9b x≤8:=fun x=>by
    unfold q9b
    by_cases h2:x.toNat<256
    ·have:=List.all_eq_true.1 jd1 x.toNat (by simpa using h2)
     simpa using this
    ·have h3:math_bits_TrailingZeros8T292.length=256:=by decide+kernel
     rw[ye,w9 (by omega)]
     decide
   have:=this (b.getD 0 0)
   omega
theorem jd2{b c:LI}(hb:Bytes b)(hc:Bytes c)(hl:b.length=16)(hcl:c.length=16){k:Nat}(hk:q9b (b.getD 0 0)=k)(h8:k<8)(h:∀q,q≤k→q38 c q=q38 b q):q9b (c.getD 0 0)=k:=by
 obtain⟨_,b8,bz,b1⟩:=qm4 (hb.getD 0)
 obtain⟨_,c8,cz,c1⟩:=qm4 (hc.getD 0)
 rw[hk]at b8 bz b1
 generalize q9b (c.getD 0 0)=q at c8 cz c1
 have g:∀q,q≤k→bitL (c.getD 0 0) q=bitL (b.getD 0 0) q:=fun q hq=>by
  have:=h q hq
  rw[z7d c (by omega),z7d b (by omega)]at this
  exact this
 by_cases h1:q<k
 ·have e1:=c1 (by omega)
  rw[g q (by omega),bz q h1]at e1
  omega
 ·by_cases h2:k<q
  ·have e1:=cz k h2
   rw[g k (by omega),b1 h8]at e1
   omega
  ·omega
def endV(ends more:LI)(j:Nat):Int:=2*(ends.getD j 0%128)+more.getD (j/4) 0%2
theorem qr7(ends more:LI)(j:Nat):0≤endV ends more j∧endV ends more j≤255:=by
 unfold endV
 omega
theorem and127(x:Int):iand .i64 x 127=x%128:=z77 (b:=7) (by omega)
theorem and1(x:Int):iand .i64 x 1=x%2:=z77 (b:=1) (by omega)
theorem jd3(x y:Int):ior .i64 (ishl .i64 (iand .i64 x 127) 1) (iand .i64 y 1)=2*(x%128)+y%2:=by
 rw[and127,and1]
 have:=orbit (n:=x%128) (v:=y%2) (x:=1) (by omega) (by omega) (by omega) (by omega)
 rw[show((1:Nat):Int)=1 from rfl]at this
 rw[this]
 omega
theorem zero8:qam=tab 8 fun _=>0:=by decide+kernel
theorem j5p(ends more x1 x4:LI)(x5:Int){i:Nat}(hi:i<2):∀(d c k:Nat),c+d=4→d<k→
  q3s 600 k more x1 (tab 8 (upR i c (endV ends more))) (i:Int) x4 x5 (tab 4 fun c=>ends.getD (i*4+c) 0) (c:Int)=some (more,x1,tab 8 (upR (i+1) 0 (endV ends more)),x4,x5,()):=by
 intro d
 induction d with
 |zero=>
  intro c k h1 h2
  obtain⟨k,rfl⟩:∃k',k=k' +1:=⟨k-1,by omega⟩
  obtain rfl:c=4:=by omega
  unfold q3s qc0
  have:¬(((4:Nat):Int)<4):=by omega
  simp only[this,dF,cF,zyy]
 |succ d ih=>
  intro c k h1 h2
  obtain⟨k,rfl⟩:∃k',k=k' +1:=⟨k-1,by omega⟩
  have hc:c<4:=by omega
  have i1:(c:Int)<4:=by omega
  have i2:(i:Int)<2:=by omega
  have e:2*(ends.getD (i*4+c) 0%128)+more.getD i 0%2=endV ends more (i*4+c):=by
   unfold endV
   rw[(mul4 i c hc).1]
  unfold q3s qc0
  simp only[i1,i2,dT,cT,yc,yd,yb,q0g hc,jd3,e,j5e]
  rw[q08 (by omega)]
  exact ih (c+1) k (by omega) (by omega)
theorem row8(ends:LI)(hl:ends.length=8){i:Nat}(hi:i<2):y8 4 (y9 (i*4) ends)=tab 4 fun c=>ends.getD (i*4+c) 0:=by
 conv=>lhs;rw[qzl hl]
 exact qca (by omega)
theorem j5q(ends more x1:LI)(hl:ends.length=8):∀(d i k:Nat),i+d=2→d<k→
  q57 600 k more x1 (tab 8 (upR i 0 (endV ends more))) ends (i:Int)=some (x1,tab 8 (endV ends more),()):=by
 intro d
 induction d with
 |zero=>
  intro i k h1 h2
  obtain⟨k,rfl⟩:∃k',k=k' +1:=⟨k-1,by omega⟩
  obtain rfl:i=2:=by omega
  unfold q57 qc1
  have:¬(((2:Nat):Int)<2):=by omega
  simp only[this,dF,cF,j5f (i:=2) (endV ends more) (show 8≤2*4 by omega)]
 |succ d ih=>
  intro i k h1 h2
  obtain⟨k,rfl⟩:∃k',k=k' +1:=⟨k-1,by omega⟩
  have hi:i<2:=by omega
  have i2:(i:Int)<2:=by omega
  have l2:q3s 600 600 more x1 (tab 8 (upR i 0 (endV ends more))) (i:Int) ends (i:Int) (tab 4 fun c=>ends.getD (i*4+c) 0) (0:Int)=_:=j5p ends more x1 ends (i:Int) hi 4 0 600 (by omega) (by omega)
  unfold q57 qc1
  simp only[i2,dT,cT,yc,yd,yb,row8 ends hl hi,l2,y5]
  rw[q08 (by omega)]
  exact ih (i+1) k (by omega) (by omega)
theorem Ends_is(ends more:LI)(hl:ends.length=8):qhf 600 ends more=some (tab 8 (endV ends more),()):=by
 unfold qhf
 have h:=j5q ends more qam hl 2 0 600 (by omega) (by omega)
 rw[zyz,←zero8,show((0:Nat):Int)=0 from rfl]at h
 rw[h]
 rfl
def qzo(a z:Nat→Int)(j:Nat):Int:=mx (a (j%4)) (z (j%4)) ((j/4:Nat):Int) 4
theorem j5r{a z:Nat→Int}(ha:∀c,0≤a c∧a c≤255)(hz:∀c,0≤z c∧z c≤255)(x2:LI)(x5:Int){i:Nat}(hi:i<16):∀(d c k:Nat),c+d=4→d<k→
  q58 600 k (tab 4 a) (tab 4 z) x2 (tab 64 (upR i c (qzo a z))) (i:Int) x5 (c:Int)=some (tab 4 a,tab 4 z,x2,tab 64 (upR (i+1) 0 (qzo a z)),x5,())∧
  qdp 600 k (tab 4 a) (tab 4 z) x2 (tab 64 (upR i c (qzo a z))) (i:Int) (c:Int)=some (tab 4 a,tab 4 z,x2,tab 64 (upR (i+1) 0 (qzo a z)),(i:Int),()):=by
 intro d
 induction d with
 |zero=>
  intro c k h1 h2
  obtain⟨k,rfl⟩:∃k',k=k' +1:=⟨k-1,by omega⟩
  obtain rfl:c=4:=by omega
  unfold q58 qc2 qdp qo9
  have:¬(((4:Nat):Int)<4):=by omega
  simp only[this,dF,cF,zyy,and_self]
 |succ d ih=>
  intro c k h1 h2
  obtain⟨k,rfl⟩:∃k',k=k' +1:=⟨k-1,by omega⟩
  have hc:c<4:=by omega
  have i1:(c:Int)<4:=by omega
  have i2:(i:Int)<16:=by omega
  obtain⟨m1,m2⟩:=mix9 (p:=(i:Int)) (n:=4) (ha c) (hz c) (by omega) (by omega)
  rw[show((4:Nat):Int)=4 from rfl]at m1 m2
  have e:mx (a c) (z c) (i:Int) 4=qzo a z (i*4+c):=by
   unfold qzo
   rw[(mul4 i c hc).1,(mul4 i c hc).2]
  unfold q58 qc2 qdp qo9
  simp only[i1,i2,dT,cT,yc,yd,yb,q0g hc,m1,m2,y5,e,j5e]
  rw[q08 (by omega)]
  exact ih (c+1) k (by omega) (by omega)
theorem j5s{a z:Nat→Int}(ha:∀c,0≤a c∧a c≤255)(hz:∀c,0≤z c∧z c≤255)(x2:LI):∀(d i k:Nat),i+d=16→d<k→
  q59 600 k (tab 4 a) (tab 4 z) x2 (tab 64 (upR i 0 (qzo a z))) (i:Int)=some (x2,tab 64 (qzo a z),())∧
  qdq 600 k (tab 4 a) (tab 4 z) x2 (tab 64 (upR i 0 (qzo a z))) (i:Int)=some (x2,tab 64 (qzo a z),()):=by
 intro d
 induction d with
 |zero=>
  intro i k h1 h2
  obtain⟨k,rfl⟩:∃k',k=k' +1:=⟨k-1,by omega⟩
  obtain rfl:i=16:=by omega
  unfold q59 qc3 qdq qoa
  have:¬(((16:Nat):Int)<16):=by omega
  simp only[this,dF,cF,j5f (i:=16) (qzo a z) (show 64≤16*4 by omega),and_self]
 |succ d ih=>
  intro i k h1 h2
  obtain⟨k,rfl⟩:∃k',k=k' +1:=⟨k-1,by omega⟩
  have hi:i<16:=by omega
  have i2:(i:Int)<16:=by omega
  obtain⟨l1,l2⟩:=j5r ha hz x2 (i:Int) hi 4 0 600 (by omega) (by omega)
  rw[show((0:Nat):Int)=0 from rfl]at l1 l2
  unfold q59 qc3 qdq qoa
  simp only[i2,dT,cT,l1,l2,y5]
  rw[q08 (by omega)]
  exact ih (i+1) k (by omega) (by omega)
theorem Ramp9_is{a z:Nat→Int}(ha:∀c,0≤a c∧a c≤255)(hz:∀c,0≤z c∧z c≤255):qcp 600 (tab 4 a) (tab 4 z)=some (tab 64 (qzo a z),())∧zta 600 (tab 4 a) (tab 4 z)=some (tab 64 (qzo a z),()):=by
 unfold qcp zta
 obtain⟨h1,h2⟩:=j5s ha hz q00 16 0 600 (by omega) (by omega)
 rw[zyz,←j37,show((0:Nat):Int)=0 from rfl]at h1 h2
 rw[h1,h2]
 exact⟨rfl,rfl⟩
def okV(n:Nat)(v:Int):Bool:=decide (0≤v∧v<2^n)
theorem wrapU(v:Int)(h: -9223372036854775808≤v∧v≤9223372036854775807):(0≤y0 .u64 v∧y0 .u64 v≤18446744073709551615)∧(0≤v→y0 .u64 v=v)∧(v<0→9223372036854775808≤y0 .u64 v):=by
 by_cases h0:0≤v
 ·rw[wu64 h0 (by omega)]
  omega
 ·have:y0 .u64 v=v+18446744073709551616:=by
   simp only[y0]
   simp[IntKind.signed,IntKind.bits]
   omega
  rw[this]
  omega
theorem lay9_is{l:LI}(hb:Bytes l)(hl:l.length=16){a n:Nat}(hn:n≤7)(h:a+n≤128){v:Int}(hv: -9223372036854775808≤v∧v≤9223372036854775807)(fine:Bool):
  q3g 600 v (n:Int) l (a:Int) fine=some (if fine&&okV n v then(lset l a n v,((a+n:Nat):Int),true,())else(l,(a:Int),false,())):=by
 obtain⟨hu,hp,hneg⟩:=wrapU v hv
 have hchk:chk l.length a n=0:=j7r (by omega) (by omega)
 have ew:y0 .i64 ((a:Int)+(n:Int))=((a+n:Nat):Int):=by rw[w64 (by omega) (by omega),Int.natCast_add]
 have h2n:(2:Int)^n≤2^7:=qb9 hn
 have h2p:=qd3 n
 unfold q3g
 by_cases hok:0≤v∧v<2^n
 ·rw[hp hok.1,zns (by omega) hb (by omega) (by omega) (by omega) hok]
  have:okV n v=true:=by simpa[okV]using hok
  cases fine<;>simp only[y5,cT,cF,beq_self_eq_true,ew,this,Bool.and_true,Bool.true_and,Bool.false_and,if_true,yn,if_false]
 ·rw[j2i (by omega) hb (by omega) (by omega) hu]
  have:okV n v=false:=by simpa[okV]using hok
  have hf:z1b l.length a n (y0 .u64 v)=10:=by
   unfold z1b
   rw[iP hchk,iP]
   refine⟨by omega,fun he=> ?_⟩
   rw[yb]at he
   have hge:2^n≤y0 .u64 v:=by
    by_cases h0:0≤v
    ·rw[hp h0]
     omega
    ·have:=hneg (by omega)
     omega
   have:(1:Int)≤y0 .u64 v/2^n:=(Int.le_ediv_iff_mul_le h2p).2 (by omega)
   omega
  have z:((10:Int)==0)=false:=rfl
  cases fine<;>simp only[y5,hf,z,cT,cF,this,Bool.and_false,yn,if_false]
def sN(t:Nat):Nat:=if t<8 then 7 else if t<10 then 1 else if t=10 then 3 else 4
def sA:Nat→Nat
 |0=>7
 |t+1=>sA t+sN t
def sV(ends more which:LI)(t:Nat):Int:=if t<8 then ends.getD (t%2*4+t/2) 0 else if t<10 then more.getD (t-8) 0 else which.getD (t-10) 0
def okS(ends more which:LI)(t:Nat):Bool:=okV (sN t) (sV ends more which t)
def sS(ends more which:LI):Nat→LI×Nat×Bool
 |0=>(ref09_SixT5836,7,true)
 |t+1=>let s:=sS ends more which t
  if s.2.2&&okS ends more which t then(lset s.1 s.2.1 (sN t) (sV ends more which t),s.2.1+sN t,true)else(s.1,s.2.1,false)
theorem jd4:((yy 27).all fun t=>decide (sA t≤128))=true:=by decide+kernel
theorem jd5{t:Nat}(h:t≤26):sA t≤128:=by simpa using List.all_eq_true.1 jd4 t (List.mem_range.2 (by omega))
theorem sN_le(t:Nat):sN t≤7:=by
 unfold sN
 split
 ·omega
 ·split
  ·omega
  ·split<;>omega
theorem sA_mono:∀{s t:Nat},s≤t→sA s≤sA t:=by
 intro s t h
 induction h with
 |refl=>exact wa _
 |step h ih=>exact Nat.le_trans ih (by simp only[sA];omega)
theorem j84(ends more which:LI):∀t,Bytes (sS ends more which t).1∧(sS ends more which t).1.length=16∧(sS ends more which t).2.1≤sA t∧((sS ends more which t).2.2=true→(sS ends more which t).2.1=sA t)
 |0=>by
  refine⟨?_,rfl,wa _,fun _=>rfl⟩
  have:(ref09_SixT5836.all fun x=>decide (0≤x∧x≤255))=true:=by decide+kernel
  intro x hx
  simpa using List.all_eq_true.1 this x hx
 |t+1=>by
  obtain⟨h1,h2,h3,h4⟩:=j84 ends more which t
  simp only[sS]
  by_cases h:((sS ends more which t).2.2&&okS ends more which t)=true
  ·rw[iP h]
   have:=h4 (Bool.and_eq_true_iff.1 h).1
   exact⟨qfu h1 _ _ _,by rw[qnv];exact h2,by simp only[sA];omega,fun _=>by simp only[sA];omega⟩
  ·rw[iN h]
   exact⟨h1,h2,by simp only[sA];omega,fun e=>by cases e⟩
theorem z7e(ends more which:LI)(hV:∀t,t<26→-9223372036854775808≤sV ends more which t∧sV ends more which t≤9223372036854775807){t:Nat}(ht:t<26):
  q3g 600 (sV ends more which t) (sN t:Int) (sS ends more which t).1 ((sS ends more which t).2.1:Int) (sS ends more which t).2.2=some ((sS ends more which (t+1)).1,((sS ends more which (t+1)).2.1:Int),(sS ends more which (t+1)).2.2,()):=by
 obtain⟨h1,h2,h3,h4⟩:=j84 ends more which t
 have h5:=jd5 (show t+1≤26 by omega)
 simp only[sA]at h5
 rw[lay9_is h1 h2 (sN_le t) (by omega) (hV t ht),show okV (sN t) (sV ends more which t)=okS ends more which t from rfl]
 simp only[sS]
 by_cases h:((sS ends more which t).2.2&&okS ends more which t)=true
 ·rw[iP h,iP h]
 ·rw[iN h,iN h]
theorem j9v(ends more which:LI)(hV:∀t,t<26→-9223372036854775808≤sV ends more which t∧sV ends more which t≤9223372036854775807):∀(d c k:Nat),c+d=4→d<k→
  q4p 600 k ends more which (sS ends more which (2*c)).1 (sS ends more which (2*c)).2.2 ((sS ends more which (2*c)).2.1:Int) (c:Int)=some (more,which,(sS ends more which 8).1,(sS ends more which 8).2.2,((sS ends more which 8).2.1:Int),()):=by
 intro d
 induction d with
 |zero=>
  intro c k h1 h2
  obtain⟨k,rfl⟩:∃k',k=k' +1:=⟨k-1,by omega⟩
  obtain rfl:c=4:=by omega
  unfold q4p qdn
  have:¬(((4:Nat):Int)<4):=by omega
  simp only[this,dF,cF]
 |succ d ih=>
  intro c k h1 h2
  obtain⟨k,rfl⟩:∃k',k=k' +1:=⟨k-1,by omega⟩
  have hc:c<4:=by omega
  have i1:(c:Int)<4:=by omega
  have s1:=z7e ends more which hV (t:=2*c) (by omega)
  have s2:=z7e ends more which hV (t:=2*c+1) (by omega)
  have n1:sN (2*c)=7:=iP (by omega)
  have n2:sN (2*c+1)=7:=iP (by omega)
  have v1:sV ends more which (2*c)=ends.getD c 0:=by
   unfold sV
   rw[iP (by omega)]
   congr 1
   omega
  have v2:sV ends more which (2*c+1)=ends.getD (4+c) 0:=by
   unfold sV
   rw[iP (by omega)]
   congr 1
   omega
  rw[n1,v1,show((7:Nat):Int)=7 from rfl]at s1
  rw[n2,v2,show((7:Nat):Int)=7 from rfl]at s2
  unfold q4p qdn
  simp only[i1,dT,cT,yc,yd,yb,s1,s2,y5]
  rw[q08 (by omega)]
  exact ih (c+1) k (by omega) (by omega)
theorem j9w(ends more which:LI)(hV:∀t,t<26→-9223372036854775808≤sV ends more which t∧sV ends more which t≤9223372036854775807):∀(d i k:Nat),i+d=16→d<k→
  q4q 600 k (sS ends more which (10+i)).1 (sS ends more which (10+i)).2.2 ((sS ends more which (10+i)).2.1:Int) which (i:Int)=some ((sS ends more which 26).1,(sS ends more which 26).2.2,()):=by
 intro d
 induction d with
 |zero=>
  intro i k h1 h2
  obtain⟨k,rfl⟩:∃k',k=k' +1:=⟨k-1,by omega⟩
  obtain rfl:i=16:=by omega
  unfold q4q qdo
  have:¬(((16:Nat):Int)<16):=by omega
  simp only[this,dF,cF]
 |succ d ih=>
  intro i k h1 h2
  obtain⟨k,rfl⟩:∃k',k=k' +1:=⟨k-1,by omega⟩
  have i1:(i:Int)<16:=by omega
  have hz:(!(((i+1:Nat):Int)==0))=true:=by
   rw[beqF (by omega)]
   rfl
  have s1:=z7e ends more which hV (t:=10+i) (by omega)
  have v1:sV ends more which (10+i)=which.getD i 0:=by
   unfold sV
   rw[iN (by omega),iN (by omega)]
   congr 1
   omega
  have hle:(if i=0 then 1 else 0:Nat)≤1:=by split<;>omega
  have ew:y0 .i64 (((if i=0 then 1 else 0:Nat):Int))=((if i=0 then 1 else 0:Nat):Int):=w64 (by omega) (by omega)
  have en:y0 .i64 (4-((if i=0 then 1 else 0:Nat):Int))=((sN (10+i):Nat):Int):=by
   by_cases h:i=0
   ·subst h
    rfl
   ·have:sN (10+i)=4:=by
     unfold sN
     rw[iN (by omega),iN (by omega),iN (by omega)]
    rw[this]
    simp only[h,if_false]
    rfl
  rw[v1]at s1
  unfold q4q qdo
  simp only[i1,dT,cT,yc,yd,yb]
  rw[q08 (by omega)]
  simp only[hz,cT,j81,ew,en,s1,y5]
  exact ih (i+1) k (by omega) (by omega)
theorem six_base:q7j 600 q06 6 1 1=some (ref09_SixT5836,0,()):=by kernel_rfl
theorem Six_is(ends more which:LI)(hV:∀t,t<26→-9223372036854775808≤sV ends more which t∧sV ends more which t≤9223372036854775807):
  q52 600 ends more which=some (if(sS ends more which 26).2.2 then((sS ends more which 26).1,0,())else([],1,())):=by
 have l0:q4p 600 600 ends more which ref09_SixT5836 true (7:Int) (0:Int)=_:=j9v ends more which hV 4 0 600 (by omega) (by omega)
 have s8:=z7e ends more which hV (t:=8) (by omega)
 have s9:=z7e ends more which hV (t:=9) (by omega)
 have v8:sV ends more which 8=more.getD 0 0:=rfl
 have v9:sV ends more which 9=more.getD 1 0:=rfl
 rw[v8,show((sN 8:Nat):Int)=1 from rfl]at s8
 rw[v9,show((sN 9:Nat):Int)=1 from rfl]at s9
 have l2:q4q 600 600 (sS ends more which 10).1 (sS ends more which 10).2.2 ((sS ends more which 10).2.1:Int) which (0:Int)=_:=j9w ends more which hV 16 0 600 (by omega) (by omega)
 unfold q52
 rw[six_base]
 simp only[y5,l0,s8,s9,l2]
 cases(sS ends more which 26).2.2<;>rfl
def okU(ends more which:LI)(t:Nat):Bool:=(yy t).all (okS ends more which)
theorem z7f(ends more which:LI)(t:Nat):okU ends more which (t+1)=(okU ends more which t&&okS ends more which t):=by
 unfold okU
 rw[List.range_succ,List.all_append]
 simp
theorem sS_ok(ends more which:LI):∀t,(sS ends more which t).2.2=okU ends more which t∧(okU ends more which t=true→(sS ends more which t).1=z1c sA sN (sV ends more which) ref09_SixT5836 t)
 |0=>⟨rfl,fun _=>rfl⟩
 |t+1=>by
  obtain⟨h1,h2⟩:=sS_ok ends more which t
  have h3:=(j84 ends more which t).2.2.2
  rw[z7f]
  simp only[sS]
  by_cases h:((sS ends more which t).2.2&&okS ends more which t)=true
  ·rw[iP h]
   rw[h1]at h
   rw[h]
   have h4:=(Bool.and_eq_true_iff.1 h).1
   exact⟨rfl,fun _=>by rw[h2 h4,h3 (by rw[h1];exact h4)];rfl⟩
  ·rw[iN h]
   rw[h1,Bool.not_eq_true]at h
   rw[h]
   exact⟨rfl,fun e=>by cases e⟩
theorem jd6(ends more which:LI){s t:Nat}(h:s≤t)(ht:okU ends more which t=true):okU ends more which s=true:=by
 unfold okU at*
 rw[List.all_eq_true]at*
 intro x hx
 exact ht x (List.mem_range.2 (by have:=List.mem_range.1 hx;omega))
theorem ztq(ends more which:LI){s t:Nat}(h:s<t)(ht:okU ends more which t=true):okS ends more which s=true:=by
 unfold okU at ht
 rw[List.all_eq_true]at ht
 exact ht s (List.mem_range.2 h)
abbrev sL(ends more which:LI)(t:Nat):LI:=z1c sA sN (sV ends more which) ref09_SixT5836 t
theorem qbo:Bytes ref09_SixT5836:=(j84 [] [] [] 0).1
theorem z7g(ends more which:LI){t:Nat}(ht:t<26)(hv:0≤sV ends more which t∧sV ends more which t<2^sN t):
  q34 600 (sL ends more which t) (sA t:Int) (sN t:Int) false (y0 .u64 (sV ends more which t))=some (sL ends more which (t+1),0,()):=by
 have h5:=jd5 (show t+1≤26 by omega)
 simp only[sA]at h5
 have h2n:(2:Int)^sN t≤2^7:=qb9 (sN_le t)
 have hlen:(z1c sA sN (sV ends more which) ref09_SixT5836 t).length=16:=by rw[qhu];rfl
 rw[wu64 hv.1 (by omega),zth (by omega) (q4e _ _ _ qbo t) (by omega) (by have:=sN_le t;omega) (by omega) hv]
 rfl
theorem j5t(ends more which:LI){c:Nat}(hc:c<4):∀(d i k:Nat),i+d=2→d<k→okU ends more which (2*c+i)=true→
  q7a 600 k ends more which (sL ends more which (2*c+i)) (sA (2*c+i):Int) (c:Int) (i:Int)=some (if okU ends more which (2*(c+1))then .inr (ends,more,which,sL ends more which (2*(c+1)),(sA (2*(c+1)):Int),(c:Int),())else .inl ()):=by
 intro d
 induction d with
 |zero=>
  intro i k h1 h2 h3
  obtain⟨k,rfl⟩:∃k',k=k' +1:=⟨k-1,by omega⟩
  obtain rfl:i=2:=by omega
  unfold q7a qjf
  have:¬(((2:Nat):Int)<2):=by omega
  rw[show 2*(c+1)=2*c+2 by omega]
  simp only[this,dF,cF,h3,if_true]
 |succ d ih=>
  intro i k h1 h2 h3
  obtain⟨k,rfl⟩:∃k',k=k' +1:=⟨k-1,by omega⟩
  have i1:(i:Int)<2:=by omega
  have i2:(c:Int)<4:=by omega
  have n1:sN (2*c+i)=7:=iP (by omega)
  have v1:sV ends more which (2*c+i)=ends.getD (i*4+c) 0:=by
   unfold sV
   rw[iP (by omega),show(2*c+i)%2=i by omega,show(2*c+i)/2=c by omega]
  have bad:okS ends more which (2*c+i)=false→okU ends more which (2*(c+1))=false:=fun h=>by
   rw[←Bool.not_eq_true]
   intro e
   rw[ztq ends more which (show 2*c+i<2*(c+1) by omega) e]at h
   cases h
  unfold q7a qjf
  simp only[i1,i2,dT,cT,yc,yd,yb]
  by_cases hlo:ends.getD (i*4+c) 0<0
  ·simp only[hlo,dT,cT]
   rw[bad (by
    unfold okS okV
    rw[v1]
    simp only[decide_eq_false_iff_not]
    omega)]
   rfl
  ·by_cases hhi:127<ends.getD (i*4+c) 0
   ·simp only[hlo,hhi,dT,dF,cT,cF]
    rw[bad (by
     unfold okS okV
     rw[v1,n1]
     simp only[decide_eq_false_iff_not]
     omega)]
    rfl
   ·have hok:0≤sV ends more which (2*c+i)∧sV ends more which (2*c+i)<2^sN (2*c+i):=by
     rw[v1,n1]
     omega
    have s1:=z7g ends more which (t:=2*c+i) (by omega) hok
    rw[v1,n1,show((7:Nat):Int)=7 from rfl]at s1
    have ha:=jd5 (show 2*c+i≤26 by omega)
    have e7:y0 .i64 ((sA (2*c+i):Int)+7)=((sA (2*c+(i+1)):Nat):Int):=by
     rw[w64 (by omega) (by omega),show 2*c+(i+1)=(2*c+i)+1 from rfl]
     simp only[sA,n1]
     omega
    simp only[hlo,hhi,dF,cF,s1,y5,e7]
    rw[q08 (by omega)]
    exact ih (i+1) k (by omega) (by omega) (by
     rw[show 2*c+(i+1)=(2*c+i)+1 from rfl,z7f,h3]
     unfold okS okV
     simpa using hok)
theorem j5u(ends more which:LI):∀(d c k:Nat),c+d=4→d<k→okU ends more which (2*c)=true→
  q7b 600 k ends more which (sL ends more which (2*c)) (sA (2*c):Int) (c:Int)=some (if okU ends more which 8 then .inr (more,which,sL ends more which 8,(sA 8:Int),())else .inl ()):=by
 intro d
 induction d with
 |zero=>
  intro c k h1 h2 h3
  obtain⟨k,rfl⟩:∃k',k=k' +1:=⟨k-1,by omega⟩
  obtain rfl:c=4:=by omega
  unfold q7b qjg
  have:¬(((4:Nat):Int)<4):=by omega
  have h3' :okU ends more which 8=true:=h3
  simp only[this,dF,cF,h3',if_true]
 |succ d ih=>
  intro c k h1 h2 h3
  obtain⟨k,rfl⟩:∃k',k=k' +1:=⟨k-1,by omega⟩
  have hc:c<4:=by omega
  have i1:(c:Int)<4:=by omega
  have l2:q7a 600 600 ends more which (sL ends more which (2*c)) (sA (2*c):Int) (c:Int) (0:Int)=_:=j5t ends more which hc 2 0 600 (by omega) (by omega) h3
  unfold q7b qjg
  simp only[i1,dT,cT,l2,y5]
  by_cases h:okU ends more which (2*(c+1))=true
  ·simp only[h,if_true]
   rw[q08 (by omega)]
   exact ih (c+1) k (by omega) (by omega) h
  ·have h8:¬okU ends more which 8=true:=fun e=>h (jd6 ends more which (by omega) e)
   simp only[h,h8,yn,if_false]
theorem j5v(ends more which:LI):∀(d i k:Nat),i+d=2→d<k→okU ends more which (8+i)=true→
  q7c 600 k more which (sL ends more which (8+i)) (sA (8+i):Int) (i:Int)=some (if okU ends more which 10 then .inr (which,sL ends more which 10,(sA 10:Int),())else .inl ()):=by
 intro d
 induction d with
 |zero=>
  intro i k h1 h2 h3
  obtain⟨k,rfl⟩:∃k',k=k' +1:=⟨k-1,by omega⟩
  obtain rfl:i=2:=by omega
  unfold q7c qjh
  have:¬(((2:Nat):Int)<2):=by omega
  have h3' :okU ends more which 10=true:=h3
  simp only[this,dF,cF,h3',if_true]
 |succ d ih=>
  intro i k h1 h2 h3
  obtain⟨k,rfl⟩:∃k',k=k' +1:=⟨k-1,by omega⟩
  have i1:(i:Int)<2:=by omega
  have n1:sN (8+i)=1:=by
   unfold sN
   rw[iN (by omega),iP (by omega)]
  have v1:sV ends more which (8+i)=more.getD i 0:=by
   unfold sV
   rw[iN (by omega),iP (by omega)]
   congr 1
   omega
  have bad:okS ends more which (8+i)=false→okU ends more which 10=false:=fun h=>by
   rw[←Bool.not_eq_true]
   intro e
   rw[ztq ends more which (show 8+i<10 by omega) e]at h
   cases h
  unfold q7c qjh
  simp only[i1,dT,cT,yc,yd,yb]
  by_cases hlo:more.getD i 0<0
  ·simp only[hlo,dT,cT]
   rw[bad (by
    unfold okS okV
    rw[v1]
    simp only[decide_eq_false_iff_not]
    omega)]
   rfl
  ·by_cases hhi:1<more.getD i 0
   ·simp only[hlo,hhi,dT,dF,cT,cF]
    rw[bad (by
     unfold okS okV
     rw[v1,n1]
     simp only[decide_eq_false_iff_not]
     omega)]
    rfl
   ·have hok:0≤sV ends more which (8+i)∧sV ends more which (8+i)<2^sN (8+i):=by
     rw[v1,n1]
     omega
    have s1:=z7g ends more which (t:=8+i) (by omega) hok
    rw[v1,n1,show((1:Nat):Int)=1 from rfl]at s1
    have ha:=jd5 (show 8+i≤26 by omega)
    have e7:y0 .i64 ((sA (8+i):Int)+1)=((sA (8+(i+1)):Nat):Int):=by
     rw[w64 (by omega) (by omega),show 8+(i+1)=(8+i)+1 from rfl]
     simp only[sA,n1]
     omega
    simp only[hlo,hhi,dF,cF,s1,y5,e7]
    rw[q08 (by omega)]
    exact ih (i+1) k (by omega) (by omega) (by
     rw[show 8+(i+1)=(8+i)+1 from rfl,z7f,h3]
     unfold okS okV
     simpa using hok)
theorem j5w(ends more which:LI):∀(d i k:Nat),i+d=16→d<k→okU ends more which (10+i)=true→
  q7d 600 k which (sL ends more which (10+i)) (sA (10+i):Int) (i:Int)=some (if okU ends more which 26 then .inr (sL ends more which 26,())else .inl ()):=by
 intro d
 induction d with
 |zero=>
  intro i k h1 h2 h3
  obtain⟨k,rfl⟩:∃k',k=k' +1:=⟨k-1,by omega⟩
  obtain rfl:i=16:=by omega
  unfold q7d qji
  have:¬(((16:Nat):Int)<16):=by omega
  have h3' :okU ends more which 26=true:=h3
  simp only[this,dF,cF,h3',if_true]
 |succ d ih=>
  intro i k h1 h2 h3
  obtain⟨k,rfl⟩:∃k',k=k' +1:=⟨k-1,by omega⟩
  have i1:(i:Int)<16:=by omega
  have v1:sV ends more which (10+i)=which.getD i 0:=by
   unfold sV
   rw[iN (by omega),iN (by omega)]
   congr 1
   omega
  have bad:okS ends more which (10+i)=false→okU ends more which 26=false:=fun h=>by
   rw[←Bool.not_eq_true]
   intro e
   rw[ztq ends more which (show 10+i<26 by omega) e]at h
   cases h
  have ha:=jd5 (show 10+i≤26 by omega)
  have lo:which.getD i 0<0→okU ends more which 26=false:=fun h=>bad (by
   unfold okS okV
   rw[v1]
   simp only[decide_eq_false_iff_not]
   omega)
  unfold q7d qji
  by_cases h0:i=0
  ·subst h0
   have n1:sN (10+0)=3:=rfl
   simp only[i1,dT,cT,beqT (show((0:Nat):Int)=0 from rfl),yc,yd,yb]
   by_cases hlo:which.getD 0 0<0
   ·simp only[hlo,dT,cT]
    rw[lo hlo]
    rfl
   ·by_cases hhi:7<which.getD 0 0
    ·simp only[hlo,hhi,dT,dF,cT,cF]
     rw[bad (by
      unfold okS okV
      rw[v1,n1]
      simp only[decide_eq_false_iff_not]
      omega)]
     rfl
    ·have hok:0≤sV ends more which (10+0)∧sV ends more which (10+0)<2^sN (10+0):=by
      rw[v1,n1]
      omega
     have s1:=z7g ends more which (t:=10+0) (by omega) hok
     rw[v1,n1,show((3:Nat):Int)=3 from rfl]at s1
     have e7:y0 .i64 ((sA (10+0):Int)+3)=((sA (10+(0+1)):Nat):Int):=by
      rw[w64 (by omega) (by omega)]
      rfl
     simp only[hlo,hhi,dF,cF,s1,y5,e7]
     rw[q08 (by omega)]
     exact ih (0+1) k (by omega) (by omega) (by
      rw[show 10+(0+1)=(10+0)+1 from rfl,z7f,h3]
      unfold okS okV
      simpa using hok)
  ·have n1:sN (10+i)=4:=by
    unfold sN
    rw[iN (by omega),iN (by omega),iN (by omega)]
   simp only[i1,dT,cT,beqF (show((i:Nat):Int)≠0 by omega),cF,yc,yd,yb]
   by_cases hlo:which.getD i 0<0
   ·simp only[hlo,dT,cT]
    rw[lo hlo]
    rfl
   ·by_cases hhi:15<which.getD i 0
    ·simp only[hlo,hhi,dT,dF,cT,cF]
     rw[bad (by
      unfold okS okV
      rw[v1,n1]
      simp only[decide_eq_false_iff_not]
      omega)]
     rfl
    ·have hok:0≤sV ends more which (10+i)∧sV ends more which (10+i)<2^sN (10+i):=by
      rw[v1,n1]
      omega
     have s1:=z7g ends more which (t:=10+i) (by omega) hok
     rw[v1,n1,show((4:Nat):Int)=4 from rfl]at s1
     have e7:y0 .i64 ((sA (10+i):Int)+4)=((sA (10+(i+1)):Nat):Int):=by
      rw[w64 (by omega) (by omega),show 10+(i+1)=(10+i)+1 from rfl]
      simp only[sA,n1]
      omega
     simp only[hlo,hhi,dF,cF,s1,y5,e7]
     rw[q08 (by omega)]
     exact ih (i+1) k (by omega) (by omega) (by
      rw[show 10+(i+1)=(10+i)+1 from rfl,z7f,h3]
      unfold okS okV
      simpa using hok)
theorem rSix_is(ends more which:LI):qx5 600 ends more which=some (if okU ends more which 26 then(sL ends more which 26,0,())else([],1,())):=by
 have l0:q7b 600 600 ends more which ref09_SixT5836 (7:Int) (0:Int)=_:=j5u ends more which 4 0 600 (by omega) (by omega) rfl
 unfold qx5
 rw[l0]
 by_cases h8:okU ends more which 8=true
 ·have l4:q7c 600 600 more which (sL ends more which 8) (sA 8:Int) (0:Int)=_:=j5v ends more which 2 0 600 (by omega) (by omega) h8
  simp only[h8,if_true,y5,l4]
  by_cases h10:okU ends more which 10=true
  ·have l6:q7d 600 600 which (sL ends more which 10) (sA 10:Int) (0:Int)=_:=j5w ends more which 16 0 600 (by omega) (by omega) h10
   simp only[h10,if_true,y5,l6]
   by_cases h26:okU ends more which 26=true
   ·simp only[h26,if_true]
   ·simp only[h26,yn,if_false]
  ·have h26:¬okU ends more which 26=true:=fun e=>h10 (jd6 ends more which (by omega) e)
   simp only[h10,h26,yn,if_false,y5]
 ·have h26:¬okU ends more which 26=true:=fun e=>h8 (jd6 ends more which (by omega) e)
  simp only[h8,h26,yn,if_false,y5]
theorem jd7{l:LI}(h:∀x∈l,IntKind.i64.has x)(i:Nat): -9223372036854775808≤l.getD i 0∧l.getD i 0≤9223372036854775807:=by
 rw[ye]
 by_cases hi:i<l.length
 ·rw[yj hi]
  exact has_iff.1 (h _ (List.getElem_mem hi))
 ·rw[w9 (by omega)]
  simp
theorem sV_has{ends more which:LI}(he:∀x∈ends,IntKind.i64.has x)(hm:∀x∈more,IntKind.i64.has x)(hw:∀x∈which,IntKind.i64.has x)(t:Nat): -9223372036854775808≤sV ends more which t∧sV ends more which t≤9223372036854775807:=by
 unfold sV
 split
 ·exact jd7 he _
 ·split
  ·exact jd7 hm _
  ·exact jd7 hw _
theorem j85{ends more which:LI}(he:∀x∈ends,IntKind.i64.has x)(hm:∀x∈more,IntKind.i64.has x)(hw:∀x∈which,IntKind.i64.has x):
  q52 600 ends more which=some (if okU ends more which 26 then(sL ends more which 26,0,())else([],1,())):=by
 rw[Six_is ends more which fun t _=>sV_has he hm hw t]
 obtain⟨h1,h2⟩:=sS_ok ends more which 26
 rw[h1]
 by_cases h:okU ends more which 26=true
 ·rw[iP h,iP h,h2 h]
 ·rw[iN h,iN h]
theorem ztr(ends more which:LI):(sL ends more which 26).length=16:=by rw[qhu];rfl
theorem rows8(ends more:LI):y8 4 (tab 8 (endV ends more))=tab 4 (endV ends more)∧y8 4 (y9 4 (tab 8 (endV ends more)))=tab 4 fun c=>endV ends more (4+c):=by
 have h1:=qca (N:=8) (i:=0) (m:=4) (g:=endV ends more) (by omega)
 have h2:=qca (N:=8) (i:=1) (m:=4) (g:=endV ends more) (by omega)
 rw[Nat.zero_mul,List.drop_zero]at h1
 rw[Nat.one_mul]at h2
 refine⟨h1.trans (q02 fun j hj=>by rw[Nat.zero_add]),h2⟩
theorem zsl:bmOf 6=⟨1,0,0,0,7,7,1,0,4,0,7⟩:=by kernel_rfl
theorem zza:((yy 26).all fun i=>decide (sA i+sN i≤128)&&(yy 26).all fun j=>decide (i=j)||decide (sA i+sN i≤sA j∨sA j+sN j≤sA i))=true:=by decide+kernel
theorem sL_lv{ends more which:LI}(h:okU ends more which 26=true){t:Nat}(ht:t<26):lv (sL ends more which 26) (sA t) (sN t)=sV ends more which t:=by
 have hr:∀i,i<26→sA i+sN i≤8*ref09_SixT5836.length:=fun i hi=>by
  have:=List.all_eq_true.1 zza i (List.mem_range.2 hi)
  have:=(Bool.and_eq_true_iff.1 this).1
  have h128:sA i+sN i≤128:=by simpa using this
  exact h128
 have hd:∀i j,i<26→j<26→i≠j→sA i+sN i≤sA j∨sA j+sN j≤sA i:=fun i j hi hj hij=>by
  have:=List.all_eq_true.1 zza i (List.mem_range.2 hi)
  have:=List.all_eq_true.1 (Bool.and_eq_true_iff.1 this).2 j (List.mem_range.2 hj)
  simpa[hij]using this
 have hok:0≤sV ends more which t∧sV ends more which t<2^sN t:=by
  have:=ztq ends more which ht h
  simpa[okS,okV]using this
 refine zam hok fun q h1 h2=> ?_
 exact znt qbo hr hd ht h1 h2 26 ht (wa _)
theorem sL_mode(ends more which:LI):q9b ((sL ends more which 26).getD 0 0)=6:=by
 have hr:∀i,i<26→sA i+sN i≤8*ref09_SixT5836.length:=fun i hi=>by
  have:=List.all_eq_true.1 zza i (List.mem_range.2 hi)
  have:=(Bool.and_eq_true_iff.1 this).1
  have h128:sA i+sN i≤128:=by simpa using this
  exact h128
 refine jd2 qbo (q4e _ _ _ qbo 26) rfl (ztr _ _ _) (k:=6) (by decide+kernel) (by omega) fun q hq=> ?_
 refine znu qbo hr (fun i hi hc=> ?_) 26 (wa _)
 have:=sA_mono (Nat.zero_le i)
 simp only[sA]at this
 omega
theorem j39:((yy 256).all fun v=>qox 8 v==(v:Int))=true:=by decide+kernel
theorem wide8{x:Int}(h:0≤x∧x≤255):q51 8 x=x:=by
 unfold q51
 have:=List.all_eq_true.1 j39 x.toNat (List.mem_range.2 (by omega))
 rw[beq_iff_eq]at this
 rw[show x%2^8=x by omega,this]
 omega
theorem zts:((yy 8).all fun t=>sA t==7+7*t)&&((yy 16).all fun i=>posF 1 0 4 65 i==sA (10+i)&&(4-qk4 1 0 i==sN (10+i)))&&(sA 8==63&&sA 9==64)=true:=by decide+kernel
theorem sA8{t:Nat}(h:t<8):sA t=7+7*t:=by
 have:=zts
 simp only[yl]at this
 simpa using List.all_eq_true.1 this.1.1 t (List.mem_range.2 h)
theorem sA10{i:Nat}(h:i<16):posF 1 0 4 65 i=sA (10+i)∧4-qk4 1 0 i=sN (10+i):=by
 have:=zts
 simp only[yl]at this
 simpa using List.all_eq_true.1 this.1.2 i (List.mem_range.2 h)
theorem jd8{ends more which:LI}(h:okU ends more which 26=true){j:Nat}(hj:j<8):endF (sL ends more which 26) (bmOf 6) j=endV ends more j:=by
 have hl:∀t,t<8→lv (sL ends more which 26) (7+7*t) 7=sV ends more which t:=fun t ht=>by
  have:=sL_lv h (show t<26 by omega)
  rwa [sA8 ht,show sN t=7 from iP ht]at this
 have ho:∀t,t<26→0≤sV ends more which t∧sV ends more which t<2^sN t:=fun t ht=>by
  have:=ztq ends more which ht h
  simpa[okS,okV]using this
 have hv:sV ends more which (2*(j%4)+j/4)=ends.getD j 0:=by
  unfold sV
  rw[iP (by omega)]
  congr 1
  omega
 have he:e0 (sL ends more which 26) (bmOf 6) (bp0 (bmOf 6)) j=ends.getD j 0:=by
  rw[zsl]
  unfold e0 bp0
  simp only
  by_cases h3:j%4=3
  ·rw[iP h3,show 7+0+0+0+6*1*7+j/4*7=7+7*(2*(j%4)+j/4) by omega,hl _ (by omega),hv]
  ·rw[iN h3,show 7+0+0+0+j%4*(2*1*7)+j/4*7=7+7*(2*(j%4)+j/4) by omega,hl _ (by omega),hv]
 have hm:sV ends more which (8+j/4)=more.getD (j/4) 0:=by
  unfold sV
  rw[iN (by omega),iP (by omega)]
  congr 1
  omega
 have hb:bitV (sL ends more which 26) (bmOf 6) (bp1 (bmOf 6)) (j/4)=more.getD (j/4) 0:=by
  have h8:=sL_lv h (show 8+j/4<26 by omega)
  have a8:sA (8+j/4)=63+j/4:=by
   rcases(by omega:j/4=0∨j/4=1)with e|e<;>rw[e]<;>rfl
  have n8:sN (8+j/4)=1:=by
   unfold sN
   rw[iN (by omega),iP (by omega)]
  rw[a8,n8,hm]at h8
  rw[zsl]
  exact h8
 have o1:=ho (2*(j%4)+j/4) (by omega)
 rw[hv,show sN (2*(j%4)+j/4)=7 from iP (by omega)]at o1
 have o2:=ho (8+j/4) (by omega)
 rw[hm,show sN (8+j/4)=1 by unfold sN;rw[iN (by omega),iP (by omega)]]at o2
 unfold endF eF
 rw[he,hb]
 rw[zsl]
 have hx:(2:Int)^(1+0)*ends.getD j 0+more.getD (j/4) 0=endV ends more j:=by
  unfold endV
  omega
 simp only[show¬(7:Nat)=0 by decide,if_false,hx,ite_self]
 exact wide8 (qr7 ends more j)
theorem jd9{ends more which:LI}(h:okU ends more which 26=true){i:Nat}(hi:i<16):firF (sL ends more which 26) (bmOf 6) i=which.getD i 0∧0≤which.getD i 0∧which.getD i 0<16:=by
 have hv:sV ends more which (10+i)=which.getD i 0:=by
  unfold sV
  rw[iN (by omega),iN (by omega)]
  congr 1
  omega
 have hl:=sL_lv h (show 10+i<26 by omega)
 obtain⟨s1,s2⟩:=sA10 hi
 have ho:0≤sV ends more which (10+i)∧sV ends more which (10+i)<2^sN (10+i):=by
  have:=ztq ends more which (show 10+i<26 by omega) h
  simpa[okS,okV]using this
 have h4:(2:Int)^sN (10+i)≤2^4:=qb9 (by rw[←s2];omega)
 rw[hv]at ho hl
 refine⟨?_,ho.1,by omega⟩
 unfold firF qj0
 have hw:wN (sL ends more which 26) (bmOf 6)=0:=by
  rw[zsl]
  rfl
 rw[hw,zsl]
 show lv (sL ends more which 26) (posF 1 0 4 65 i) (4-qk4 1 0 i)=_
 rw[s1,s2,hl]
theorem jda{ends more which:LI}(h:okU ends more which 26=true):qbd 600 (sL ends more which 26)=some (tab 64 fun j=>mx (endV ends more (j%4)) (endV ends more (4+j%4)) (which.getD (j/4) 0) 4,0,()):=by
 rw[z0c (q4e _ _ _ qbo 26) (ztr _ _ _)]
 unfold qbn
 rw[sL_mode,iN (by omega),q02 fun j hj=>show decF (sL ends more which 26) (bmOf 6) j=mx (endV ends more (j%4)) (endV ends more (4+j%4)) (which.getD (j/4) 0) 4 by
  have ht:¬0<tN (sL ends more which 26) (bmOf 6):=by
   rw[zsl]
   exact yt 0
  have hw:wN (sL ends more which 26) (bmOf 6)=0:=by
   rw[zsl]
   rfl
  have hP:(bmOf 6).P=1:=by rw[zsl]
  have hs:(bmOf 6).s=0:=by rw[zsl]
  have hf:(bmOf 6).f=4:=by rw[zsl]
  obtain⟨_,_,hp⟩:=part9 (P:=1) (w:=0) (i:=j/4) (by omega) (by omega) (by omega) (by omega)
  have hp0:q5h 1 0 (j/4)=0:=by omega
  unfold decF texV z7c
  rw[iN ht]
  unfold preV colP alpP aF z9F
  rw[hw,hP,hp0,hs]
  simp only[ne_eq,not_true_eq_false,false_and,if_false,(jd9 h (show j/4<16 by omega)).1,hf]
  have e1:∀c,c<4→endF (sL ends more which 26) (bmOf 6) (2*0*4+c)=endV ends more c:=fun c hc=>by
   rw[show 2*0*4+c=c by omega]
   exact jd8 h (by omega)
  have e2:∀c,c<4→endF (sL ends more which 26) (bmOf 6) ((2*0+1)*4+c)=endV ends more (4+c):=fun c hc=>by
   rw[show(2*0+1)*4+c=4+c by omega]
   exact jd8 h (by omega)
  have hc:j%4<4:=Nat.mod_lt _ (by decide)
  by_cases h3:j%4=3
  ·rw[iP h3,h3,e1 3 (by omega),e2 3 (by omega)]
  ·rw[iN h3,e1 _ hc,e2 _ hc]]
theorem wL_turn:((yy 16).all fun i=>(wL 4).getD (15-i) 0==64-(wL 4).getD i 0)=true:=by decide+kernel
theorem mx_turn(a z:Int){i:Nat}(hi:i<16):mx a z (i:Int) 4=mx z a ((15-i:Nat):Int) 4:=by
 have:=List.all_eq_true.1 wL_turn i (List.mem_range.2 hi)
 rw[beq_iff_eq]at this
 unfold mx mixV
 rw[yb,yb,this]
 generalize (wL 4).getD i 0=w
 rw[show(64:Int)-(64-w)=w by omega,Int.add_comm (a*(64-w)) (z*w)]
theorem j86(a z:Int):mx a z 0 4=a:=by
 unfold mx mixV
 rw[show(wL 4).getD (y6 0) 0=0 from rfl]
 omega
theorem mx_last(a z:Int):mx a z 15 4=z:=by
 unfold mx mixV
 rw[show(wL 4).getD (y6 15) 0=64 from rfl]
 omega
end Go.AE.Gn
set_option linter.unusedSectionVars false
namespace Go.AE.Gn
open Go Go.AE
def Rg(m:Int)(l:LI):Prop:=∀j,0≤l.getD j 0∧l.getD j 0≤m
theorem qnz{l:LI}{j:Nat}(h:l.length≤j):l.getD j 0=0:=by
 rw[ye,w9 h]
 rfl
theorem qj1{m:Int}{N:Nat}{g:Nat→Int}(hm:0≤m)(h:∀j,j<N→0≤g j∧g j≤m):Rg m (tab N g):=by
 intro j
 by_cases hj:j<N
 ·rw[q0g hj]
  exact h j hj
 ·rw[qnz (by rw[q0f];omega)]
  omega
theorem q31{m m' :Int}{l:LI}(h:Rg m l)(hm:m≤m'):Rg m' l:=fun j=>⟨(h j).1,Int.le_trans (h j).2 hm⟩
theorem qew{m:Int}{a b:LI}(ha:Rg m a)(hb:Rg m b):Rg m (a++b):=by
 intro j
 simp only[ye,List.getElem?_append]
 split
 ·have:=ha j
  simpa[ye]using this
 ·have:=hb (j-a.length)
  simpa[ye]using this
theorem q42{m x:Int}{a:LI}(hx:0≤x∧x≤m)(ha:Rg m a):Rg m (x::a):=by
 intro j
 cases j with
 |zero=>simpa using hx
 |succ j=>simpa using ha j
theorem j87{m:Int}(hm:0≤m):Rg m []:=fun j=>by simp[hm]
theorem qoz(n:Int):Rg 255 (colV n):=by
 have h:=qta n
 intro j
 by_cases hj:j<4
 ·exact h.2 j hj
 ·rw[qnz (by rw[h.1];omega)]
  decide
theorem j5x{a b:LI}(ha:Rg 255 a)(hb:Rg 255 b){k o:Int}(hk:0≤k∧k≤o)(ho:1≤o):Rg 255 (betw a b k o):=by
 have h:∀c,0≤mixV (a.getD c 0) (b.getD c 0) k o 0∧mixV (a.getD c 0) (b.getD c 0) k o 0≤255:=fun c=>by
  have h1:=zo7 (a:=a.getD c 0) (b:=b.getD c 0) hk ho
  have h2:=ha c
  have h3:=hb c
  omega
 exact q42 (h 0) (q42 (h 1) (q42 (h 2) (q42 (by decide) (j87 (by decide)))))
theorem j5y(a b:Int)(four:Bool):Rg 255 (palV a b four):=by
 unfold palV
 split
 ·exact qew (qoz a) (qew (qoz b) (qew (j5x (qoz a) (qoz b) (by decide) (by decide)) (j5x (qoz a) (qoz b) (by decide) (by decide))))
 ·exact qew (qoz a) (qew (qoz b) (qew (j5x (qoz a) (qoz b) (by decide) (by decide)) (q42 (by decide) (q42 (by decide) (q42 (by decide) (q42 (by decide) (j87 (by decide))))))))
theorem zo8{p w:LI}(hp:p.length=16)(hw:∀i,i<16→okW 2 w i):(zo5 p w).length=64:=
 j5c (m:=4) _ fun i hi=>zz3 hp (by have:=hw i hi;unfold okW at this;omega)
theorem zo9{p w:LI}(hp:p.length=16)(hw:∀i,i<16→okW 2 w i){j:Nat}(hj:j<64):(zo5 p w).getD j 0=p.getD ((w.getD (j/4) 0).toNat*4+j%4) 0:=by
 have h:=jct hp hw (i:=j/4) (by omega)
 have e:(((zo5 p w).drop (j/4*4)).take 4).getD (j%4) 0=(zo5 p w).getD j 0:=by
  simp only[ye,List.getElem?_take,List.getElem?_drop]
  rw[iP (by omega)]
  congr 2
  omega
 rw[←e,h]
 unfold palE
 simp only[ye,List.getElem?_take,List.getElem?_drop]
 rw[iP (by omega)]
theorem rg_tileV{p w:LI}(hp:p.length=16)(hw:∀i,i<16→okW 2 w i)(h:Rg 255 p):Rg 255 (zo5 p w):=by
 intro j
 by_cases hj:j<64
 ·rw[zo9 hp hw hj]
  exact h _
 ·rw[qnz (by rw[zo8 hp hw];omega)]
  decide
theorem zgy{a b:Int}(ha:0≤a∧a≤255)(hb:0≤b∧b≤255):Rg 255 (q6g a b):=by
 have h:∀k o:Int,(0≤k∧k≤o)→1≤o→0≤mixV a b k o 0∧mixV a b k o 0≤255:=fun k o hk ho=>by
  have:=zo7 (a:=a) (b:=b) hk ho
  omega
 have z:Rg 255 []:=j87 (by decide)
 by_cases hab:a≤b
 ·rw[j7t hab]
  exact q42 ha (q42 hb (q42 (h 1 5 (by decide) (by decide)) (q42 (h 2 5 (by decide) (by decide)) (q42 (h 3 5 (by decide) (by decide)) (q42 (h 4 5 (by decide) (by decide)) (q42 (by decide) (q42 (by decide) z)))))))
 ·rw[j7u hab]
  exact q42 ha (q42 hb (q42 (h 1 7 (by decide) (by decide)) (q42 (h 2 7 (by decide) (by decide)) (q42 (h 3 7 (by decide) (by decide)) (q42 (h 4 7 (by decide) (by decide)) (q42 (h 5 7 (by decide) (by decide)) (q42 (h 6 7 (by decide) (by decide)) z)))))))
theorem z7h{b:LI}(hb:Bytes b):Rg 255 (qci b):=qj1 (N:=16) (by decide) fun j _=>zgy (hb.getD 0) (hb.getD 1) _
theorem rg_fours(b:LI):Rg 255 (zap b):=qj1 (N:=16) (by decide) fun j _=>q82 (by decide) _
theorem jdb(b:LI):Rg 255 (qbn b):=by
 have hl:(qbn b).length=64:=by
  unfold qbn
  split
  ·rw[j37,q0f]
  ·rw[q0f]
 intro j
 by_cases hj:j<64
 ·exact j9u b hj
 ·rw[qnz (by omega)]
  decide
def wT(c:Nat)(l t:LI):LI:=tab 64 fun j=>if j%4=c then l.getD (j/4) 0 else t.getD j 0
theorem wT_len(c:Nat)(l t:LI):(wT c l t).length=64:=q0f _ _
theorem jdc{m:Int}(hm:0≤m){c:Nat}{l t:LI}(hl:Rg m l)(ht:Rg m t):Rg m (wT c l t):=qj1 hm fun j _=>by
 split
 ·exact hl _
 ·exact ht _
def upW(c i:Nat)(l t:LI)(j:Nat):Int:=if j%4=c∧j/4<i then l.getD (j/4) 0 else t.getD j 0
theorem jdd{c i:Nat}(hc:c<4)(hi:i<16)(l t:LI):(tab 64 (upW c i l t)).set (i*4+c) (l.getD i 0)=tab 64 (upW c (i+1) l t):=by
 rw[q5g]
 refine q02 fun j hj=> ?_
 unfold upW
 by_cases h:j=i*4+c
 ·subst h
  rw[iP rfl,iP (by omega),show(i*4+c)/4=i by omega]
 ·rw[iN h]
  by_cases h2:j%4=c∧j/4<i
  ·rw[iP h2,iP (by omega)]
  ·rw[iN h2,iN (by omega)]
theorem j5z{c:Nat}(hc:c<4)(l t T:LI):∀(d i k:Nat),i+d=16→d<k→q8l 600 k c (tab 64 (upW c i l t)) T l (i:Int)=some (tab 64 (upW c 16 l t),T,()):=by
 intro d
 induction d with
 |zero=>
  intro i k h1 h2
  obtain⟨k,rfl⟩:∃k',k=k' +1:=⟨k-1,by omega⟩
  obtain rfl:i=16:=by omega
  rfl
 |succ d ih=>
  intro i k h1 h2
  obtain⟨k,rfl⟩:∃k',k=k' +1:=⟨k-1,by omega⟩
  show qdw 600 (q8l 600 k) c (tab 64 (upW c i l t)) T l i=_
  unfold qdw
  have h3:(i:Int)<16:=by omega
  have h4:(c:Int)<4:=by omega
  simp only[h3,h4,dT,cT,yc,yd,yb,jdd hc (show i<16 by omega),q08 (show i<1000000000000 by omega)]
  exact ih (i+1) k (by omega) (by omega)
theorem jde{c:Nat}(hc:c<4){l t:LI}(ht:t.length=64)(e:Int):qfi 600 t c l e=some (wT c l t,()):=by
 have h:=j5z hc l t q2z 16 0 600 (by omega) (by omega)
 have e0:tab 64 (upW c 0 l t)=t:=by
  conv=>rhs;rw[qzl ht]
  exact q02 fun j hj=>by unfold upW;rw[iN (by omega)]
 have e1:tab 64 (upW c 16 l t)=wT c l t:=q02 fun j hj=>by
  unfold upW
  by_cases h2:j%4=c
  ·rw[iP h2,iP (by omega)]
  ·rw[iN h2,iN (by omega)]
 rw[e0,e1]at h
 unfold qfi
 rw[show((0:Nat):Int)=0 from rfl]at h
 rw[h]
 rfl
def qo0(a:Int):LI:=tab 64 fun j=>if j%4=3 then a else 0
theorem z0e(a:Int):(qo0 a).length=64:=q0f _ _
theorem blank_is:q9q 600 false=some (qo0 255,())∧q9q 600 true=some (qo0 2047,()):=by constructor<;>kernel_rfl
theorem j3a{m a:Int}(h:0≤a∧a≤m):Rg m (qo0 a):=qj1 (by omega) fun j _=>by
 split<;>omega
def q29(k:Nat):Nat:=match k with|1|4|7|8|9|11=>8|_=>16
def qr8(k:Nat):Int:=match k with|1|7|8=>7|2|3|6|9|10=>15|4|11=>1|_=>3
def z39(k:Nat):Bool:=match k with|11|12=>true|_=>false
def zca(k:Nat):Int:=if z39 k then 2047 else 255
def Fmt(k:Nat):Prop:=1≤k∧k≤6
theorem qhw{p:Nat→Prop}(h1:p 1)(h2:p 2)(h3:p 3)(h4:p 4)(h5:p 5)(h6:p 6){k:Nat}(h:Fmt k):p k:=by
 obtain⟨a,b⟩:=h
 have:k=1∨k=2∨k=3∨k=4∨k=5∨k=6:=by omega
 rcases this with rfl|rfl|rfl|rfl|rfl|rfl<;>assumption
theorem zzb(F:Nat){k:Nat}(h:Fmt k):q9p F (k:Int)=some (((q29 k:Int),qr8 k,z39 k,()),0,()):=by
 refine qhw (p:=fun k=>q9p F (k:Int)=some (((q29 k:Int),qr8 k,z39 k,()),0,())) ?_ ?_ ?_ ?_ ?_ ?_ h<;>rfl
theorem Of_bad(F:Nat){f:Int}(h:¬(1≤f∧f≤12)):q9p F f=some ((0,0,false,()),5,()):=by
 have hn:∀c:Int,1≤c→c≤12→(f==c)=false:=fun c h1 h2=>beqF (by omega)
 unfold q9p
 rw[hn 1 (by decide) (by decide),hn 7 (by decide) (by decide),hn 8 (by decide) (by decide),hn 2 (by decide) (by decide),hn 3 (by decide) (by decide),hn 6 (by decide) (by decide),hn 10 (by decide) (by decide),hn 9 (by decide) (by decide),hn 4 (by decide) (by decide),hn 11 (by decide) (by decide),hn 5 (by decide) (by decide),hn 12 (by decide) (by decide)]
 rfl
def lo13(b:LI):LI:=b.take 8
def hi13(b:LI):LI:=(b.drop (b.length-8)).take 8
theorem qke{b:LI}(hb:Bytes b):Bytes (lo13 b):=fun x hx=>hb x (List.mem_of_mem_take hx)
theorem qr9{b:LI}(hb:Bytes b):Bytes (hi13 b):=fun x hx=>hb x (List.mem_of_mem_drop (List.mem_of_mem_take hx))
theorem z7i{b:LI}(h:8≤b.length):(lo13 b).length=8:=by simp[lo13];omega
theorem zgz{b:LI}(h:8≤b.length):(hi13 b).length=8:=by simp[hi13];omega
theorem lo13_8{b:LI}(h:b.length=8):lo13 b=b:=List.take_of_length_le (by omega)
theorem z0f(k:Nat):8≤q29 k∧q29 k≤16:=by
 unfold q29
 split<;>decide
def qw6(b:LI)(four:Bool):LI:=zo5 (palV (lv b 0 16) (lv b 16 16) four) (oneW b)
theorem z7j(b:LI)(four:Bool):(qw6 b four).length=64:=zo8 (qnx _ _ _) (qtb b)
theorem zzc(b:LI)(four:Bool):Rg 255 (qw6 b four):=rg_tileV (qnx _ _ _) (qtb b) (j5y _ _ _)
def qw7(k:Nat)(b:LI):LI:=match k with
 |1=>qw6 b false
 |2=>wT 3 (zap (lo13 b)) (qw6 (hi13 b) true)
 |3=>wT 3 (qci (lo13 b)) (qw6 (hi13 b) true)
 |4=>wT 0 (qci (lo13 b)) (qo0 255)
 |5=>wT 1 (qci (hi13 b)) (wT 0 (qci (lo13 b)) (qo0 255))
 |_=>qbn b
theorem z7k{b:LI}(hb:Bytes b){k:Nat}(h:Fmt k):Rg (zca k) (qw7 k b):=by
 have hlo:=qke hb
 have hhi:=qr9 hb
 refine qhw (p:=fun k=>Rg (zca k) (qw7 k b)) ?_ ?_ ?_ ?_ ?_ ?_ h
 ·exact zzc _ _
 ·exact jdc (by decide) (rg_fours _) (zzc _ _)
 ·exact jdc (by decide) (z7h hlo) (zzc _ _)
 ·exact jdc (by decide) (z7h hlo) (j3a (by decide))
 ·exact jdc (by decide) (z7h hhi) (jdc (by decide) (z7h hlo) (j3a (by decide)))
 ·exact jdb b
theorem qh5{b t:LI}(hb:Bytes b)(hl:b.length=8)(ht:t.length=64){c:Nat}(hc:c<4)(x y:Int):q20 600 t c b x y false=some (wT c (qci b) t,()):=by
 unfold q20 qi3
 simp only[cF,j9n (F:=600) (by decide) hb hl,y5,jde hc ht]
section
variable {b:LI}
theorem d13_1(hb:Bytes b)(hl:b.length=8)(x):q15 600 1 x (lo13 b) (hi13 b) b=some (qw7 1 b,0,()):=by
 have h:=zat (F:=600) (by decide) hb hl false
 unfold q15
 simp only[Int.reduceBEq,cT,cF,h,y5]
 rfl
theorem d13_2(hb:Bytes b)(hl:b.length=16)(x):q15 600 2 x (lo13 b) (hi13 b) b=some (qw7 2 b,0,()):=by
 have h1:=Fours_is (F:=600) (by decide) (qke hb) (z7i (b:=b) (by omega))
 have h2:q78 600 (hi13 b) true=some (qw6 (hi13 b) true,0,()):=zat (F:=600) (by decide) (qr9 hb) (zgz (by omega)) true
 have h3:=fun e=>jde (c:=3) (by decide) (l:=zap (lo13 b)) (z7j (hi13 b) true) e
 simp only[yp]at h3
 unfold q15
 simp only[Int.reduceBEq,cT,cF,h1,h2,h3,qcq,y5]
 rfl
theorem d13_3(hb:Bytes b)(hl:b.length=16):q15 600 3 (16,15,false,()) (lo13 b) (hi13 b) b=some (qw7 3 b,0,()):=by
 have h2:q78 600 (hi13 b) true=some (qw6 (hi13 b) true,0,()):=zat (F:=600) (by decide) (qr9 hb) (zgz (by omega)) true
 have h3:=fun x y=>qh5 (qke hb) (z7i (by omega)) (z7j (hi13 b) true) (c:=3) (by decide) x y
 simp only[yp]at h3
 unfold q15
 simp only[Int.reduceBEq,cT,cF,h2,h3,qcq,y5]
 rfl
theorem d13_4(hb:Bytes b)(hl:b.length=8):q15 600 4 (8,1,false,()) (lo13 b) (hi13 b) b=some (qw7 4 b,0,()):=by
 have h3:=fun x y=>qh5 (qke hb) (z7i (by omega)) (z0e 255) (c:=0) (by decide) x y
 simp only[yq]at h3
 unfold q15
 simp only[Int.reduceBEq,cT,cF,blank_is.1,h3,y5]
 rfl
theorem d13_5(hb:Bytes b)(hl:b.length=16):q15 600 5 (16,3,false,()) (lo13 b) (hi13 b) b=some (qw7 5 b,0,()):=by
 have h3:=fun x y=>qh5 (qke hb) (z7i (by omega)) (z0e 255) (c:=0) (by decide) x y
 have h4:=fun x y=>qh5 (qr9 hb) (zgz (by omega)) (wT_len 0 (qci (lo13 b)) (qo0 255)) (c:=1) (by decide) x y
 simp only[yq,yp]at h3 h4
 unfold q15
 simp only[Int.reduceBEq,cT,cF,blank_is.1,h3,h4,y5]
 rfl
theorem d13_6(hb:Bytes b)(hl:b.length=16)(x):q15 600 6 x (lo13 b) (hi13 b) b=some (qw7 6 b,0,()):=by
 have h:=z0c hb hl
 unfold q15
 simp only[Int.reduceBEq,cT,cF,h,y5]
 rfl
theorem decode13(hb:Bytes b){k:Nat}(h:Fmt k):b.length=q29 k→q15 600 (k:Int) ((q29 k:Int),qr8 k,z39 k,()) (lo13 b) (hi13 b) b=some (qw7 k b,0,()):=
 qhw (p:=fun k=>b.length=q29 k→q15 600 (k:Int) ((q29 k:Int),qr8 k,z39 k,()) (lo13 b) (hi13 b) b=some (qw7 k b,0,()))
  (fun hl=>d13_1 hb hl _) (fun hl=>d13_2 hb hl _) (fun hl=>d13_3 hb hl) (fun hl=>d13_4 hb hl) (fun hl=>d13_5 hb hl) (fun hl=>d13_6 hb hl _) h
theorem j60(hb:Bytes b){k:Nat}(h:Fmt k)(hl:b.length=q29 k):qjp 600 (k:Int) b=some (qw7 k b,0,()):=by
 have g:=z0f k
 unfold qjp
 rw[zzb 600 h]
 have e1:y0 .i64 ((b.length:Int)-8)=((b.length-8:Nat):Int):=by rw[w64 (by omega) (by omega)];omega
 have e2:(((b.length:Nat):Int) !=(q29 k:Int))=false:=by rw[hl];simp
 have e3:psub b.length (b.length-8)=8:=by rw[zu2];omega
 simp only[y5,bne_self_eq_false,cF,e2,show 8≤b.length by omega,dT,cT,e1,yc,yb,show b.length-8≤b.length by omega,yd,e3]
 have h3:=decode13 hb h hl
 unfold lo13 hi13 at h3
 rw[h3]
 rfl
end
def scV(x:Int):Int:=8*x+x/32
def upS(n:Nat)(t:LI)(j:Nat):Int:=if j<n then scV (t.getD j 0)else t.getD j 0
theorem jdf{t:LI}{n:Nat}(hn:n<64):(tab 64 (upS n t)).set n (scV (t.getD n 0))=tab 64 (upS (n+1) t):=by
 rw[q5g]
 refine q02 fun j hj=> ?_
 unfold upS
 by_cases h:j=n
 ·subst h;rw[iP rfl,iP (by omega)]
 ·rw[iN h]
  by_cases h2:j<n
  ·rw[iP h2,iP (by omega)]
  ·rw[iN h2,iN (by omega)]
theorem j3b{t:LI}(ht:Rg 255 t)(T:LI){i:Nat}(hi:i<16)(y:Int):∀(d c k:Nat),c+d=4→d<k→
  q72 600 k (tab 64 (upS (i*4+c) t)) T (i:Int) y (tab 4 fun c=>t.getD (i*4+c) 0) (c:Int)=some (tab 64 (upS (i*4+4) t),T,y,()):=by
 intro d
 induction d with
 |zero=>
  intro c k h1 h2
  obtain⟨k,rfl⟩:∃k',k=k' +1:=⟨k-1,by omega⟩
  obtain rfl:c=4:=by omega
  rfl
 |succ d ih=>
  intro c k h1 h2
  obtain⟨k,rfl⟩:∃k',k=k' +1:=⟨k-1,by omega⟩
  show qc5 600 (q72 600 k) (tab 64 (upS (i*4+c) t)) T i y (tab 4 fun c=>t.getD (i*4+c) 0) c=_
  unfold qc5
  have h3:(i:Int)<16:=by omega
  have h4:(c:Int)<4:=by omega
  have hv:=ht (i*4+c)
  have e:y0 .i64 (y0 .i64 (8*t.getD (i*4+c) 0)+y0 .i64 (yv (t.getD (i*4+c) 0) 32))=scV (t.getD (i*4+c) 0):=by
   rw[q2h hv.1,w64 (x:=8*t.getD (i*4+c) 0) (by omega) (by omega),w64 (x:=t.getD (i*4+c) 0/32) (by omega) (by omega),w64 (by omega) (by omega)]
   rfl
  simp only[h3,h4,dT,cT,yc,yd,yb,q0g (show c<4 by omega),e,jdf (t:=t) (show i*4+c<64 by omega),q08 (show c<1000000000000 by omega)]
  exact ih (c+1) k (by omega) (by omega)
theorem j3c{t:LI}(ht:Rg 255 t)(T:LI):∀(d i k:Nat),i+d=16→d<k→q73 600 k (tab 64 (upS (i*4) t)) T (i:Int)=some (tab 64 (upS 64 t),T,()):=by
 intro d
 induction d with
 |zero=>
  intro i k h1 h2
  obtain⟨k,rfl⟩:∃k',k=k' +1:=⟨k-1,by omega⟩
  obtain rfl:i=16:=by omega
  rfl
 |succ d ih=>
  intro i k h1 h2
  obtain⟨k,rfl⟩:∃k',k=k' +1:=⟨k-1,by omega⟩
  show qc6 600 (q73 600 k) (tab 64 (upS (i*4) t)) T i=_
  unfold qc6
  have h3:(i:Int)<16:=by omega
  have e:y8 4 (y9 (i*4) (tab 64 (upS (i*4) t)))=tab 4 fun c=>t.getD (i*4+c) 0:=by
   rw[qca (by omega)]
   exact q02 fun c hc=>by unfold upS;rw[iN (by omega)]
  have h:=j3b ht T (i:=i) (by omega) i 4 0 600 (by omega) (by omega)
  simp only[Nat.add_zero,yq]at h
  simp only[h3,dT,cT,yc,yd,yb,e,h,y5,q08 (show i<1000000000000 by omega)]
  rw[show i*4+4=(i+1)*4 by omega]
  exact ih (i+1) k (by omega) (by omega)
def scT(k:Nat)(t:LI):LI:=if z39 k then tab 64 fun j=>scV (t.getD j 0)else t
theorem scT_len{k:Nat}{t:LI}(ht:t.length=64):(scT k t).length=64:=by
 unfold scT
 split
 ·exact q0f _ _
 ·exact ht
theorem j88{k:Nat}{t:LI}(ht:Rg 255 t):Rg (zca k) (scT k t):=by
 unfold scT zca
 cases z39 k
 ·exact ht
 ·exact qj1 (by decide) fun j _=>by
   have:=ht j
   unfold scV
   simp only[if_true]
   omega
theorem j89{k:Nat}(h:Fmt k){t:LI}(hl:t.length=64)(ht:Rg 255 t):qhi 600 (k:Int) t=some (scT k t,()):=by
 unfold qhi scT
 rw[zzb 600 h]
 simp only[y5]
 cases z39 k
 ·rfl
 ·have h:=j3c ht q2z 16 0 600 (by omega) (by omega)
  have e0:tab 64 (upS (0*4) t)=t:=by
   conv=>rhs;rw[qzl hl]
   exact q02 fun j hj=>by unfold upS;rw[iN (by omega)]
  have e1:tab 64 (upS 64 t)=tab 64 fun j=>scV (t.getD j 0):=q02 fun j hj=>by unfold upS;rw[iP hj]
  rw[e0,e1,show((0:Nat):Int)=0 from rfl]at h
  simp only[Bool.not_true,cF,h,y5,if_true]
def bitM(mask:Int)(c:Nat):Bool:=mask/2^c%2==1
def errT(mask:Int)(s u:LI)(j:Nat):Int:=if bitM mask (j%4)then(s.getD j 0-u.getD j 0)*(s.getD j 0-u.getD j 0)else 0
def sumN(f:Nat→Int):Nat→Int
 |0=>0
 |n+1=>sumN f n+f n
theorem q77{f:Nat→Int}{m:Int}:∀{n:Nat},(∀i,i<n→0≤f i∧f i≤m)→0≤sumN f n∧sumN f n≤m*n
 |0,_=>by simp[sumN]
 |n+1,h=>by
  have h1:=q77 (n:=n) fun i hi=>h i (by omega)
  have h2:=h n (by omega)
  have e:m*((n+1:Nat):Int)=m*(n:Int)+m:=by
   rw[show((n+1:Nat):Int)=(n:Int)+1 by omega,Int.mul_add,Int.mul_one]
  unfold sumN
  rw[e]
  omega
theorem z0g{f g:Nat→Int}:∀{n:Nat},(∀i,i<n→f i=g i)→sumN f n=sumN g n
 |0,_=>rfl
 |n+1,h=>by unfold sumN;rw[z0g fun i hi=>h i (by omega),h n (by omega)]
theorem qm5{f:Nat→Int}:∀{n:Nat},(∀i,i<n→0≤f i)→(sumN f n=0↔∀i,i<n→f i=0)
 |0,_=>by simp[sumN]
 |n+1,h=>by
  have h1:=qm5 (n:=n) fun i hi=>h i (by omega)
  have h0:0≤sumN f n:=by
   have:∀m,m≤n→0≤sumN f m:=by
    intro m
    induction m with
    |zero=>intro _;exact Int.le_refl 0
    |succ m ih=>intro hm;unfold sumN;have:=ih (by omega);have:=h m (by omega);omega
   exact this n (wa _)
  have h2:=h n (by omega)
  unfold sumN
  constructor
  ·intro e i hi
   by_cases hin:i=n
   ·subst hin;omega
   ·exact h1.1 (by omega) i (by omega)
  ·intro e
   have:=h1.2 fun i hi=>e i (by omega)
   have:=e n (by omega)
   omega
theorem q6v{x m:Int}(h: -m≤x∧x≤m):0≤x*x∧x*x≤m*m:=by
 have hm:0≤m:=by omega
 constructor
 ·rcases Int.le_total 0 x with h1|h1
  ·exact Int.mul_nonneg h1 h1
  ·have:=Int.mul_nonneg (a:= -x) (b:= -x) (by omega) (by omega)
   rwa [Int.neg_mul_neg]at this
 ·rcases Int.le_total 0 x with h1|h1
  ·exact Int.mul_le_mul h.2 h.2 h1 hm
  ·have:=Int.mul_le_mul (a:= -x) (b:= -x) (c:=m) (d:=m) (by omega) (by omega) (by omega) hm
   rwa [Int.neg_mul_neg]at this
theorem sq_zero{x:Int}:x*x=0↔x=0:=by
 rw[Int.mul_eq_zero]
 simp
theorem z0h{mask:Int}{s u:LI}(hs:Rg 2047 s)(hu:Rg 2047 u)(j:Nat):0≤errT mask s u j∧errT mask s u j≤2047*2047:=by
 unfold errT
 split
 ·have h1:=hs j
  have h2:=hu j
  exact q6v (m:=2047) (by omega)
 ·decide
def errS(mask:Int)(s u:LI):Int:=sumN (errT mask s u) 64
theorem j61{mask:Int}{s u:LI}(hs:Rg 2047 s)(hu:Rg 2047 u):0≤errS mask s u:=(q77 (n:=64) fun i _=>z0h hs hu i).1
theorem j3d{mask:Int}{s u:LI}(hs:Rg 2047 s)(hu:Rg 2047 u):errS mask s u=0↔∀j,j<64→bitM mask (j%4)=true→s.getD j 0=u.getD j 0:=by
 unfold errS
 rw[qm5 fun i _=>(z0h hs hu i).1]
 constructor
 ·intro h j hj hb
  have:=h j hj
  unfold errT at this
  rw[iP hb,sq_zero]at this
  omega
 ·intro h j hj
  unfold errT
  split
  ·rename_i hb
   rw[sq_zero,h j hj hb]
   omega
  ·rfl
theorem j8a{mask:Int}{c:Nat}(hc:c≤62):(iand .i64 (ishr .i64 mask (c:Int)) 1==1)=bitM mask c:=by
 have h:=z77 (b:=1) (by decide) (x:=ishr .i64 mask (c:Int))
 rw[show((2:Int)^1-1)=1 from rfl]at h
 rw[h,ishr64' (by omega)]
 rfl
theorem j3e{mask:Int}{s u:LI}(hs:Rg 2047 s)(hu:Rg 2047 u){i:Nat}(hi:i<16)(y:Int):∀(d c k:Nat),c+d=4→d<k→
  q8m 600 k mask s u (sumN (errT mask s u) (i*4+c)) (i:Int) y (c:Int)=some (mask,s,u,sumN (errT mask s u) (i*4+4),y,()):=by
 intro d
 induction d with
 |zero=>
  intro c k h1 h2
  obtain⟨k,rfl⟩:∃k',k=k' +1:=⟨k-1,by omega⟩
  obtain rfl:c=4:=by omega
  rfl
 |succ d ih=>
  intro c k h1 h2
  obtain⟨k,rfl⟩:∃k',k=k' +1:=⟨k-1,by omega⟩
  show qdy 600 (q8m 600 k) mask s u (sumN (errT mask s u) (i*4+c)) i y c=_
  unfold qdy
  have h3:(i:Int)<16:=by omega
  have h4:(c:Int)<4:=by omega
  have b1:=hs (i*4+c)
  have b2:=hu (i*4+c)
  have b3:=q77 (n:=i*4+c) (f:=errT mask s u) fun j _=>z0h hs hu j
  have b5:(2047*2047:Int)*((i*4+c:Nat):Int)≤2047*2047*64:=Int.mul_le_mul_of_nonneg_left (by omega) (by decide)
  have nx:=ih (c+1) k (by omega) (by omega)
  rw[show i*4+(c+1)=(i*4+c)+1 by omega]at nx
  rw[show sumN (errT mask s u) (i*4+c+1)=sumN (errT mask s u) (i*4+c)+errT mask s u (i*4+c)from rfl]at nx
  cases hb:bitM mask c with
  |true=>
   have e:errT mask s u (i*4+c)=(s.getD (i*4+c) 0-u.getD (i*4+c) 0)*(s.getD (i*4+c) 0-u.getD (i*4+c) 0):=by
    unfold errT
    rw[iP (by rw[show(i*4+c)%4=c by omega];exact hb)]
   have b4:=q6v (x:=s.getD (i*4+c) 0-u.getD (i*4+c) 0) (m:=2047) (by omega)
   have sq:q4m 600 (y0 .i64 (s.getD (i*4+c) 0-u.getD (i*4+c) 0))=some ((s.getD (i*4+c) 0-u.getD (i*4+c) 0)*(s.getD (i*4+c) 0-u.getD (i*4+c) 0),()):=by
    unfold q4m
    rw[w64 (x:=s.getD (i*4+c) 0-u.getD (i*4+c) 0) (by omega) (by omega),w64 (by omega) (by omega)]
   rw[e]at nx
   simp only[h3,h4,dT,cT,yc,yd,yb,j8a (mask:=mask) (show c≤62 by omega),hb,sq,y5,q08 (show c<1000000000000 by omega)]
   rw[w64 (by omega) (by omega)]
   exact nx
  |false=>
   have e:errT mask s u (i*4+c)=0:=by
    unfold errT
    rw[iN (by rw[show(i*4+c)%4=c by omega,hb];simp)]
   rw[e,Int.add_zero]at nx
   simp only[h3,h4,dT,cT,cF,yc,yd,yb,j8a (mask:=mask) (show c≤62 by omega),hb,q08 (show c<1000000000000 by omega)]
   exact nx
theorem j3f{mask:Int}{s u:LI}(hs:Rg 2047 s)(hu:Rg 2047 u):∀(d i k:Nat),i+d=16→d<k→q8n 600 k mask s u (sumN (errT mask s u) (i*4)) (i:Int)=some (errS mask s u,()):=by
 intro d
 induction d with
 |zero=>
  intro i k h1 h2
  obtain⟨k,rfl⟩:∃k',k=k' +1:=⟨k-1,by omega⟩
  obtain rfl:i=16:=by omega
  rfl
 |succ d ih=>
  intro i k h1 h2
  obtain⟨k,rfl⟩:∃k',k=k' +1:=⟨k-1,by omega⟩
  show qdz 600 (q8n 600 k) mask s u (sumN (errT mask s u) (i*4)) i=_
  unfold qdz
  have h3:(i:Int)<16:=by omega
  have h:=j3e hs hu (i:=i) (by omega) (i:Int) 4 0 600 (by omega) (by omega) (mask:=mask)
  simp only[Nat.add_zero,yq]at h
  simp only[h3,dT,cT,h,y5,q08 (show i<1000000000000 by omega)]
  rw[show i*4+4=(i+1)*4 by omega]
  exact ih (i+1) k (by omega) (by omega)
theorem jdg(mask:Int){s u:LI}(hs:Rg 2047 s)(hu:Rg 2047 u):qs3 600 s u mask=some (errS mask s u,()):=by
 have h:=j3f hs hu 16 0 600 (by omega) (by omega) (mask:=mask)
 unfold qs3
 simp only[Nat.zero_mul,yq,sumN]at h
 rw[h]
 rfl
theorem qhx(k:Nat):zca k≤2047:=by
 unfold zca
 split<;>decide
def qbp(k:Nat)(b t:LI):Int:=errS (qr8 k) (scT k t) (qw7 k b)
theorem z0i{b t:LI}(hb:Bytes b){k:Nat}(h:Fmt k)(hl:b.length=q29 k)(htl:t.length=64)(ht:Rg 255 t):q9r 600 (k:Int) b t=some (qbp k b t,0,()):=by
 unfold q9r
 rw[j60 hb h hl,zzb 600 h,j89 h htl ht]
 simp only[y5,bne_self_eq_false,cF,jdg (qr8 k) (q31 (j88 (k:=k) ht) (qhx k)) (q31 (z7k hb h) (qhx k))]
 rfl
theorem zoa(t:LI){i:Nat}(hi:i<16):∀(d c k:Nat),c+d=4→d<k→
  q1f 600 k t (i:Int) (c:Int)=some (.inl ())∨(q1f 600 k t (i:Int) (c:Int)=some (.inr (t,(i:Int),()))∧∀c',c≤c' →c' <4→0≤t.getD (i*4+c') 0∧t.getD (i*4+c') 0≤255):=by
 intro d
 induction d with
 |zero=>
  intro c k h1 h2
  obtain⟨k,rfl⟩:∃k',k=k' +1:=⟨k-1,by omega⟩
  obtain rfl:c=4:=by omega
  exact .inr ⟨rfl,fun c' h h' =>by omega⟩
 |succ d ih=>
  intro c k h1 h2
  obtain⟨k,rfl⟩:∃k',k=k' +1:=⟨k-1,by omega⟩
  have e:q1f 600 (k+1) t (i:Int) (c:Int)=q48 600 (q1f 600 k) t i c:=rfl
  rw[e]
  unfold q48
  have h3:(i:Int)<16:=by omega
  have h4:(c:Int)<4:=by omega
  simp only[h3,h4,dT,cT,yc,yd,yb,q08 (show c<1000000000000 by omega)]
  by_cases v1:t.getD (i*4+c) 0<0
  ·left
   simp only[v1,dT,cT]
  ·simp only[v1,dF,cF]
   by_cases v2:255<t.getD (i*4+c) 0
   ·left
    simp only[v2,dT,cT]
   ·simp only[v2,dF,cF]
    rcases ih (c+1) k (by omega) (by omega)with h|⟨h,h'⟩
    ·exact .inl h
    ·refine .inr ⟨h,fun c' g1 g2=> ?_⟩
     by_cases hc:c' =c
     ·subst hc;omega
     ·exact h' c' (by omega) g2
theorem zob(t:LI):∀(d i k:Nat),i+d=16→d<k→
  q1g 600 k t (i:Int)=some (.inl ())∨(q1g 600 k t (i:Int)=some (.inr ())∧∀j,i*4≤j→j<64→0≤t.getD j 0∧t.getD j 0≤255):=by
 intro d
 induction d with
 |zero=>
  intro i k h1 h2
  obtain⟨k,rfl⟩:∃k',k=k' +1:=⟨k-1,by omega⟩
  obtain rfl:i=16:=by omega
  exact .inr ⟨rfl,fun j h h' =>by omega⟩
 |succ d ih=>
  intro i k h1 h2
  obtain⟨k,rfl⟩:∃k',k=k' +1:=⟨k-1,by omega⟩
  have e:q1g 600 (k+1) t (i:Int)=q49 600 (q1g 600 k) t i:=rfl
  rw[e]
  unfold q49
  have h3:(i:Int)<16:=by omega
  simp only[h3,dT,cT]
  rcases zoa t (i:=i) (by omega) 4 0 600 (by omega) (by omega)with h|⟨h,h'⟩
  ·left
   simp only[yq]at h
   simp only[h,y5]
  ·simp only[yq]at h
   simp only[h,y5,q08 (show i<1000000000000 by omega)]
   rcases ih (i+1) k (by omega) (by omega)with g|⟨g,g'⟩
   ·exact .inl g
   ·refine .inr ⟨g,fun j h5 h6=> ?_⟩
    by_cases hj:j<i*4+4
    ·have:=h' (j-i*4) (by omega) (by omega)
     rwa [show i*4+(j-i*4)=j by omega]at this
    ·exact g' j (by omega) h6
theorem zsm{t:LI}(hl:t.length=64):(q4r 600 t=some (true,())∧Rg 255 t)∨q4r 600 t=some (false,()):=by
 unfold q4r
 rcases zob t 16 0 600 (by omega) (by omega)with h|⟨h,h'⟩
 ·right
  simp only[yq]at h
  rw[h]
  rfl
 ·left
  simp only[yq]at h
  refine⟨by rw[h];rfl,fun j=> ?_⟩
  by_cases hj:j<64
  ·exact h' j (by omega) hj
  ·rw[qnz (by omega)]
   decide
theorem mbit_is{mask:Int}(hm:0≤mask∧mask≤15){c:Nat}(hc:c<4):(yu (y0 .i64 (yv mask (2^c))) 2==1)=bitM mask c:=by
 have hp:(0:Int)<2^c:=qd3 c
 have h1:0≤mask/2^c:=Int.ediv_nonneg hm.1 (by omega)
 have h2:mask/2^c≤mask:=Int.ediv_le_self _ hm.1
 rw[q2h hm.1,w64 (by omega) (by omega),tmod_nonneg h1]
 rfl
theorem j3g(k:Nat):0≤qr8 k∧qr8 k≤15:=by
 unfold qr8
 split<;>decide
theorem j8b(F:Nat)(f:Int):qmy F f=q9p F f∧∃r,q9p F f=some r:=by
 by_cases h:1≤f∧f≤12
 ·have:f=1∨f=2∨f=3∨f=4∨f=5∨f=6∨f=7∨f=8∨f=9∨f=10∨f=11∨f=12:=by omega
  rcases this with rfl|rfl|rfl|rfl|rfl|rfl|rfl|rfl|rfl|rfl|rfl|rfl<;>exact⟨rfl,_,rfl⟩
 ·rw[Of_bad F h]
  refine⟨?_,_,rfl⟩
  unfold qmy
  by_cases h1:f<1
  ·simp only[h1,dT,cT]
  ·have h2:12<f:=by omega
   simp only[h1,dF,cF,h2,dT,cT]
def q3d(g:Nat→Int):Nat→Nat
 |0=>0
 |n+1=>if n=0 then 0 else if g n<g (q3d g n)then n else q3d g n
theorem qm6(g:Nat→Int):∀{n:Nat},0<n→q3d g n<n
 |0,h=>by omega
 |n+1,_=>by
  unfold q3d
  split
  ·omega
  ·split
   ·omega
   ·have:=qm6 g (n:=n) (by omega)
    omega
theorem zoc(g:Nat→Int):∀{n:Nat} {i:Nat},i<n→g (q3d g n)≤g i
 |0,i,h=>by omega
 |n+1,i,h=>by
  unfold q3d
  split
  ·have:i=0:=by omega
   subst this
   exact Int.le_refl _
  ·split
   ·by_cases hi:i=n
    ·subst hi;exact Int.le_refl _
    ·have:=zoc g (n:=n) (i:=i) (by omega)
     omega
   ·by_cases hi:i=n
    ·subst hi;omega
    ·exact zoc g (n:=n) (i:=i) (by omega)
def qw8(l:LI)(v:Int):Int:=sumN (fun i=>(l.getD i 0-v)*(l.getD i 0-v)) l.length
theorem zsn{l L:LI}(hl:Rg 2047 l)(hn:l.length≤64){p:Nat}(hp:p<L.length)(hv:0≤L.getD p 0∧L.getD p 0≤2047):∀(d i k:Nat),i+d=l.length→d<k→
  q4b 600 k (p:Int) L (sumN (fun i=>(l.getD i 0-L.getD p 0)*(l.getD i 0-L.getD p 0)) i) l (l.length:Int) (i:Int)=some (qw8 l (L.getD p 0),()):=by
 intro d
 induction d with
 |zero=>
  intro i k h1 h2
  obtain⟨k,rfl⟩:∃k',k=k' +1:=⟨k-1,by omega⟩
  obtain rfl:i=l.length:=by omega
  show q4y 600 (q4b 600 k) _ _ _ _ _ _=_
  unfold q4y
  simp only[yt,dF,cF]
  rfl
 |succ d ih=>
  intro i k h1 h2
  obtain⟨k,rfl⟩:∃k',k=k' +1:=⟨k-1,by omega⟩
  show q4y 600 (q4b 600 k) _ _ _ _ _ _=_
  unfold q4y
  have h3:(i:Int)<(l.length:Int):=by omega
  have h4:(p:Int)<(L.length:Int):=by omega
  have b1:=hl i
  have b2:=q6v (x:=l.getD i 0-L.getD p 0) (m:=2047) (by omega)
  have b3:=q77 (n:=i) (f:=fun i=>(l.getD i 0-L.getD p 0)*(l.getD i 0-L.getD p 0)) (m:=2047*2047) fun j _=>q6v (m:=2047) (by have:=hl j;omega)
  have b4:(2047*2047:Int)*(i:Int)≤2047*2047*64:=Int.mul_le_mul_of_nonneg_left (by omega) (by decide)
  have sq:q4m 600 (y0 .i64 (l.getD i 0-L.getD p 0))=some ((l.getD i 0-L.getD p 0)*(l.getD i 0-L.getD p 0),()):=by
   unfold q4m
   rw[w64 (x:=l.getD i 0-L.getD p 0) (by omega) (by omega),w64 (by omega) (by omega)]
  simp only[h3,h4,dT,cT,yc,yd,yb,sq,y5,q08 (show i<1000000000000 by omega)]
  rw[w64 (by omega) (by omega)]
  exact ih (i+1) k (by omega) (by omega)
theorem ztt{l L:LI}(hl:Rg 2047 l)(hn:l.length≤64){p:Nat}(hp:p<L.length)(hv:0≤L.getD p 0∧L.getD p 0≤2047):qjq 600 (p:Int) l L=some (qw8 l (L.getD p 0),()):=by
 have h:=zsn hl hn hp hv l.length 0 600 (by omega) (by omega)
 unfold qjq
 simp only[yq,sumN]at h
 rw[h]
 rfl
def zax(L l:LI):Nat:=q3d (fun i=>qw8 l (L.getD i 0)) L.length
theorem zay{l L:LI}(hl:Rg 2047 l)(hn:l.length≤64)(hL:Rg 2047 L)(hm:L.length≤300):∀(d i k:Nat),1≤i→i+d=L.length→d<k→
  q0x 600 k l L (q3d (fun i=>qw8 l (L.getD i 0)) i:Int) (qw8 l (L.getD (q3d (fun i=>qw8 l (L.getD i 0)) i) 0)) (L.length:Int) (i:Int)=some ((zax L l:Int),()):=by
 intro d
 induction d with
 |zero=>
  intro i k h0 h1 h2
  obtain⟨k,rfl⟩:∃k',k=k' +1:=⟨k-1,by omega⟩
  obtain rfl:i=L.length:=by omega
  show q13 600 (q0x 600 k) _ _ _ _ _ _=_
  unfold q13
  simp only[yt,dF,cF]
  rfl
 |succ d ih=>
  intro i k h0 h1 h2
  obtain⟨k,rfl⟩:∃k',k=k' +1:=⟨k-1,by omega⟩
  show q13 600 (q0x 600 k) _ _ _ _ _ _=_
  unfold q13
  have h3:(i:Int)<(L.length:Int):=by omega
  have nx:=ih (i+1) k (by omega) (by omega) (by omega)
  unfold q3d at nx
  rw[iN (by omega)]at nx
  simp only[h3,dT,cT,ztt hl hn (show i<L.length by omega) (hL i),y5,beqF (show(i:Int)≠0 by omega),cF,q08 (show i<1000000000000 by omega)]
  by_cases hc:qw8 l (L.getD i 0)<qw8 l (L.getD (q3d (fun i=>qw8 l (L.getD i 0)) i) 0)
  ·rw[iP hc]at nx
   simp only[hc,dT,cT]
   exact nx
  ·rw[iN hc]at nx
   simp only[hc,dF,cF]
   exact nx
theorem j62{l L:LI}(hl:Rg 2047 l)(hn:l.length≤64)(hL:Rg 2047 L)(hm:1≤L.length∧L.length≤300):qcr 600 L l=some ((zax L l:Int),()):=by
 have h:=zay hl hn hL hm.2 (L.length-1) 1 599 (by omega) (by omega) (by omega)
 have e:q0x 600 600 l L 0 0 (L.length:Int) 0=some ((zax L l:Int),()):=by
  show q13 600 (q0x 600 599) _ _ _ _ _ _=_
  unfold q13
  have h3:(0:Int)<(L.length:Int):=by omega
  have b0:=ztt hl hn (p:=0) (show 0<L.length by omega) (hL 0)
  simp only[yq]at b0
  simp only[h3,dT,cT,b0,y5,beq_self_eq_true]
  exact h
 unfold qcr qcg
 rw[e]
 rfl
theorem bestV_lt{L l:LI}(h:0<L.length):zax L l<L.length:=qm6 _ h
def colT(t:LI)(c:Nat):LI:=tab 16 fun i=>t.getD (i*4+c) 0
theorem zh0(t:LI)(c:Nat):(colT t c).length=16:=q0f _ _
theorem zaz{m:Int}{t:LI}(h:Rg m t)(c:Nat):Rg m (colT t c):=qj1 (by have:=h 0;omega) fun i _=>h _
theorem zh1(N:Nat)(g:Nat→Int):tab N g++[g N]=tab (N+1) g:=by
 unfold tab
 rw[List.range_succ,List.map_append]
 rfl
theorem j3h{t:LI}(hl:t.length=64){i:Nat}(hi:i<16){c:Nat}(hc:c<4):(y8 4 (y9 (i*4) t)).getD c 0=t.getD (i*4+c) 0:=by
 rw[j9p hl (by omega),q0g hc]
section
variable {t:LI} (hl:t.length=64) {c:Nat} (hc:c<4)
include hl hc
theorem j63(x1 x2:Int):∀(d i k:Nat),i+d=16→d<k→q2r 600 k (c:Int) x1 x2 (tab i fun i=>t.getD (i*4+c) 0) t (i:Int)=some (x1,x2,colT t c,()):=by
 intro d
 induction d with
 |zero=>
  intro i k h1 h2
  obtain⟨k,rfl⟩:∃k',k=k' +1:=⟨k-1,by omega⟩
  obtain rfl:i=16:=by omega
  rfl
 |succ d ih=>
  intro i k h1 h2
  obtain⟨k,rfl⟩:∃k',k=k' +1:=⟨k-1,by omega⟩
  show q67 600 (q2r 600 k) _ _ _ _ _ _=_
  unfold q67
  have h3:(i:Int)<16:=by omega
  have h4:(c:Int)<4:=by omega
  simp only[h3,h4,dT,cT,yc,yd,yb,q0f,show i+1≤1099511627776 by omega,j3h hl (show i<16 by omega) hc,q08 (show i<1000000000000 by omega)]
  rw[zh1 i fun i=>t.getD (i*4+c) 0]
  exact ih (i+1) k (by omega) (by omega)
theorem j3i(x1:Int):∀(d i k:Nat),i+d=16→d<k→q2j 600 k (c:Int) x1 (tab i fun i=>t.getD (i*4+c) 0) t (i:Int)=some (x1,colT t c,()):=by
 intro d
 induction d with
 |zero=>
  intro i k h1 h2
  obtain⟨k,rfl⟩:∃k',k=k' +1:=⟨k-1,by omega⟩
  obtain rfl:i=16:=by omega
  rfl
 |succ d ih=>
  intro i k h1 h2
  obtain⟨k,rfl⟩:∃k',k=k' +1:=⟨k-1,by omega⟩
  show q5k 600 (q2j 600 k) _ _ _ _ _=_
  unfold q5k
  have h3:(i:Int)<16:=by omega
  have h4:(c:Int)<4:=by omega
  simp only[h3,h4,dT,cT,yc,yd,yb,q0f,show i+1≤1099511627776 by omega,j3h hl (show i<16 by omega) hc,q08 (show i<1000000000000 by omega)]
  rw[zh1 i fun i=>t.getD (i*4+c) 0]
  exact ih (i+1) k (by omega) (by omega)
theorem j64(x1 x2:Int):∀(d i k:Nat),i+d=16→d<k→q2c 600 k (c:Int) x1 x2 (tab i fun i=>t.getD (i*4+c) 0) t (i:Int)=some (x1,x2,colT t c,()):=by
 intro d
 induction d with
 |zero=>
  intro i k h1 h2
  obtain⟨k,rfl⟩:∃k',k=k' +1:=⟨k-1,by omega⟩
  obtain rfl:i=16:=by omega
  rfl
 |succ d ih=>
  intro i k h1 h2
  obtain⟨k,rfl⟩:∃k',k=k' +1:=⟨k-1,by omega⟩
  show q4h 600 (q2c 600 k) _ _ _ _ _ _=_
  unfold q4h
  have h3:(i:Int)<16:=by omega
  have h4:(c:Int)<4:=by omega
  simp only[h3,h4,dT,cT,yc,yd,yb,q0f,show i+1≤1099511627776 by omega,j3h hl (show i<16 by omega) hc,q08 (show i<1000000000000 by omega)]
  rw[zh1 i fun i=>t.getD (i*4+c) 0]
  exact ih (i+1) k (by omega) (by omega)
end
theorem qra{α:Type}{m:Nat}(hm:m≤300)(g:Nat→Int)(L:Nat→LI→Int→Option α)(res:LI→Option α)
  (step:∀(k i:Nat),i<m→L (k+1) (tab i g) i=L k (tab i g++[g i]) ((i+1:Nat):Int)) (stop:∀k,L (k+1) (tab m g) m=res (tab m g)):L 600 [] 0=res (tab m g):=by
 have key:∀(d i k:Nat),i+d=m→d<k→L k (tab i g) i=res (tab m g):=by
  intro d
  induction d with
  |zero=>
   intro i k h1 h2
   obtain⟨k,rfl⟩:∃k',k=k' +1:=⟨k-1,by omega⟩
   obtain rfl:i=m:=by omega
   exact stop k
  |succ d ih=>
   intro i k h1 h2
   obtain⟨k,rfl⟩:∃k',k=k' +1:=⟨k-1,by omega⟩
   rw[step k i (by omega),zh1]
   exact ih (i+1) k (by omega) (by omega)
 exact key m 0 600 (by omega) (by omega)
def lvW(b:Nat):LI:=tab (2^b) fun i=>q51 b i
def lvP:LI:=tab 256 fun i=>(i:Int)
def lvS(bit:Int):LI:=tab 128 fun i=>2*(i:Int)+bit
theorem pow_b{b:Nat}(hb:1≤b∧b≤8):1≤2^b∧2^b≤256:=by
 have h:(2:Nat)^b≤2^8:=Nat.pow_le_pow_right (by decide) hb.2
 have:=Nat.pow_pos (n:=b) (show 0<2 by decide)
 omega
theorem rg_lvW{b:Nat}(hb:1≤b∧b≤8):Rg 255 (lvW b):=qj1 (by decide) fun i _=>q82 hb _
theorem rg_lvP:Rg 255 lvP:=qj1 (by decide) fun i hi=>by omega
theorem rg_lvS{bit:Int}(h:0≤bit∧bit≤1):Rg 255 (lvS bit):=qj1 (by decide) fun i hi=>by omega
section
variable {t:LI} (hl:t.length=64) (ht:Rg 2047 t) {c:Nat} (hc:c<4)
include hl ht hc
theorem j3j{b:Nat}(hb:1≤b∧b≤8):qap 600 t c ((2^b:Nat):Int) b=some ((zax (lvW b) (colT t c):Int),()):=by
 have hp:=pow_b hb
 have h1:=j63 hl hc ((2^b:Nat):Int) (b:Int) 16 0 600 (by omega) (by omega)
 rw[show tab 0 (fun i=>t.getD (i*4+c) 0)=[]from rfl,show((0:Nat):Int)=0 from rfl]at h1
 have h2:=qra (m:=2^b) (by omega) (fun i=>q51 b i) (fun k w i=>q28 600 k (b:Int) (colT t c) w ((2^b:Nat):Int) i) (fun w=>some (colT t c,w,())) (fun k i hi=>by
   show q2i 600 (q28 600 k) _ _ _ _ _=_
   unfold q2i qxb
   have h3:(i:Int)<((2^b:Nat):Int):=by omega
   simp only[h3,dT,cT,qt9 (F:=600) (by decide) hb,y5,q0f,show i+1≤1099511627776 by omega,yd,q08 (show i<1000000000000 by omega)]) (fun k=>by
   show q2i 600 (q28 600 k) _ _ _ _ _=_
   unfold q2i
   simp only[yt,dF,cF])
 have h3:=j62 (l:=colT t c) (L:=lvW b) (zaz ht c) (by rw[zh0];decide) (q31 (rg_lvW hb) (by decide)) (by unfold lvW;rw[q0f];omega)
 unfold qap
 rw[h1]
 simp only[y5]
 rw[h2]
 simp only[y5]
 unfold lvW at h3⊢
 rw[h3]
 rfl
theorem z7l{b:Nat}(hb:1≤b∧b≤8):qbe 600 t c b=some ((zax (lvW b) (colT t c):Int),()):=by
 have h:=j3j hl ht hc hb
 have e:ishl .i64 1 (b:Int)=((2^b:Nat):Int):=by
  rw[zgv (by omega)]
  exact(wg 2 b).symm
 unfold qbe
 simp only[yc,dT,cT,e,h,y5]
theorem j9x:qpm 600 t c=some ((zax lvP (colT t c):Int),()):=by
 have h1:=j3i hl hc (256:Int) 16 0 600 (by omega) (by omega)
 rw[show tab 0 (fun i=>t.getD (i*4+c) 0)=[]from rfl,show((0:Nat):Int)=0 from rfl]at h1
 have h2:=qra (m:=256) (by omega) (fun i=>(i:Int)) (fun k w i=>q1p 600 k (colT t c) w 256 i) (fun w=>some (colT t c,w,())) (fun k i hi=>by
   show q2b 600 (q1p 600 k) _ _ _ _=_
   unfold q2b qs4
   have h3:(i:Int)<256:=by omega
   simp only[h3,dT,cT,y5,q0f,show i+1≤1099511627776 by omega,yd,q08 (show i<1000000000000 by omega)]) (fun k=>by
   show q2b 600 (q1p 600 k) _ _ _ _=_
   unfold q2b
   rfl)
 have h3:=j62 (l:=colT t c) (L:=lvP) (zaz ht c) (by rw[zh0];decide) (q31 rg_lvP (by decide)) (by unfold lvP;rw[q0f];decide)
 unfold qpm qe0
 rw[h1]
 simp only[y5]
 rw[h2]
 simp only[y5]
 unfold lvP at h3⊢
 rw[h3]
 rfl
theorem sixb_is{bit:Int}(hb:0≤bit∧bit≤1):q7n 600 t c 128 bit=some ((zax (lvS bit) (colT t c):Int),()):=by
 have h1:=j64 hl hc (128:Int) bit 16 0 600 (by omega) (by omega)
 rw[show tab 0 (fun i=>t.getD (i*4+c) 0)=[]from rfl,show((0:Nat):Int)=0 from rfl]at h1
 have h2:=qra (m:=128) (by omega) (fun i=>2*(i:Int)+bit) (fun k w i=>q1i 600 k bit (colT t c) w 128 i) (fun w=>some (colT t c,w,())) (fun k i hi=>by
   show q22 600 (q1i 600 k) _ _ _ _ _=_
   unfold q22 qoc
   have h3:(i:Int)<128:=by omega
   have e:y0 .i64 (y0 .i64 (2*(i:Int))+bit)=2*(i:Int)+bit:=by rw[w64 (x:=2*(i:Int)) (by omega) (by omega),w64 (by omega) (by omega)]
   simp only[h3,dT,cT,y5,e,q0f,show i+1≤1099511627776 by omega,yd,q08 (show i<1000000000000 by omega)]) (fun k=>by
   show q22 600 (q1i 600 k) _ _ _ _ _=_
   unfold q22
   rfl)
 have h3:=j62 (l:=colT t c) (L:=lvS bit) (zaz ht c) (by rw[zh0];decide) (q31 (rg_lvS hb) (by decide)) (by unfold lvS;rw[q0f];decide)
 unfold q7n
 rw[h1]
 simp only[y5]
 rw[h2]
 simp only[y5]
 unfold lvS at h3⊢
 rw[h3]
 rfl
end
theorem z0j(n:Int):q68 600 n=some (tab 16 fun _=>n,()):=by
 have key:∀T w:LI,w.length=16→q5b 600 600 n T w 0=some (T,tab 16 (fun _=>n),()):=by
  intro T w hw
  refine qeu 16 (fun _=>n) (fun k w i=>q5b 600 k n T w i) (fun w=>some (T,w,())) ?_ ?_ w hw 600 (by omega)
  ·intro k i w hi hw
   show qc7 600 (q5b 600 k) n T w i=_
   unfold qc7
   have h3:(i:Int)<16:=by omega
   simp only[h3,dT,cT,yc,yd,yb,q08 (show i<1000000000000 by omega)]
  ·intro k w hw
   rfl
 unfold q68
 rw[key _ _ rfl]
 rfl
def oneT(v:Nat→Int):LI:=tab 64 fun j=>v (j%4)
def q6q(n:Int):LI:=tab 16 fun _=>n
theorem qhy(n:Int){j:Nat}(hj:j<16):(q6q n).getD j 0=n:=q0g hj
theorem jdh(n:Int):(q6q n).length=16:=q0f _ _
theorem z0k{n:Int}(h: -9223372036854775808≤n∧n≤9223372036854775807)(j:Nat): -9223372036854775808≤(q6q n).getD j 0∧(q6q n).getD j 0≤9223372036854775807:=by
 by_cases hj:j<16
 ·rw[qhy n hj]
  exact h
 ·rw[qnz (by rw[jdh];omega)]
  decide
theorem zzd{e:Nat}{n:Int}(h:0≤n∧n<2^e):∀j,j<16→okW e (q6q n) j:=fun j hj=>by
 unfold okW
 rw[qhy n hj]
 exact h
theorem qrb(e:Nat):∀j,j<16→okW e (q6q 0) j:=zzd ⟨Int.le_refl 0,Int.pow_pos (by decide)⟩
theorem qrc{low:Int}{from_ each:Nat}{w:LI}(hl:0≤low∧low<2^from_)(he:1≤each)(hfe:from_+each*16=64)(hw:∀j,j<16→okW each w j){a n:Nat}(h:a+n≤from_){v:Int}(hv' :0≤v∧v<2^n)
  (e:∀i,i<n→low/2^(a+i)%2=v/2^i%2):lv (qa7 low from_ each w) a n=v:=by
 refine zam hv' fun q h1 h2=> ?_
 rw[zaq hl he hfe hw (by omega),iP (by omega)]
 have:=e (q-a) (by omega)
 rwa [show a+(q-a)=q by omega]at this
theorem qrd{low:Int}{from_ each:Nat}{w:LI}(hl:0≤low∧low<2^from_)(he:1≤each)(hfe:from_+each*16=64)(hw:∀j,j<16→okW each w j){i:Nat}(hi:i<16):lv (qa7 low from_ each w) (from_+each*i) each=w.getD i 0:=by
 refine zam (hw i hi) fun q h1 h2=> ?_
 have hm:each*i+each≤each*16:=by
  rw[←Nat.mul_succ]
  exact Nat.mul_le_mul_left _ (by omega)
 obtain⟨r,rfl⟩:∃r,q=from_+each*i+r:=⟨q-(from_+each*i),by omega⟩
 rw[zaq hl he hfe hw (by omega),iN (by omega),show from_+each*i+r-from_=each*i+r by omega,Nat.mul_add_div (by omega),Nat.mul_add_mod,Nat.div_eq_of_lt (show r<each by omega),Nat.mod_eq_of_lt (show r<each by omega),Nat.add_zero,show from_+each*i+r-(from_+each*i)=r by omega]
theorem j65{b:LI}(hb:Bytes b)(i:Nat):lv b (8*i) 8=b.getD i 0:=by
 have h:=hb.getD i
 unfold lv
 rw[qt8 (g:=fun j=>b.getD i 0/2^j%2) fun j hj=>by unfold q38 bitL;rw[show(8*i+j)/8=i by omega,show(8*i+j)%8=j by omega],z0b _ h.1,Int.emod_eq_of_lt h.1 (by omega)]
def hexB(n:Int):LI:=qa7 (n+n*2^16) 32 2 (q6q 0)
theorem zb0{n:Int}(hn:0≤n∧n≤65535)(four:Bool):qw6 (hexB n) four=oneT fun c=>(colV n).getD c 0:=by
 have hl:0≤n+n*2^16∧n+n*2^16<2^32:=by omega
 have e0:lv (hexB n) 0 16=n:=qrc hl (by decide) (by decide) (qrb 2) (by decide) (by omega) fun i hi=>by
  rw[q81 (by omega),iP (by omega),Nat.zero_add]
 unfold qw6 oneT
 rw[e0,qzl (zo8 (qnx n (lv (hexB n) 16 16) four) (qtb (hexB n)))]
 refine q02 fun j hj=> ?_
 have e1:lv (hexB n) (32+2*(j/4)) 2=(q6q 0).getD (j/4) 0:=qrd hl (by decide) (by decide) (qrb 2) (by omega)
 rw[zo9 (qnx _ _ _) (qtb _) hj,zz2 _ (by omega),e1,qhy 0 (by omega),show y6 0*4+j%4=j%4 by simp]
 unfold palV
 split
 ·simp only[ye]
  rw[yg (by show j%4<4;omega)]
 ·simp only[ye]
  rw[yg (by show j%4<4;omega)]
theorem jdi{n:Int}(hn:0≤n∧n≤65535):q44 600 n n (q6q 0)=some (hexB n,0,()):=
 zz4 (by decide) hn hn (z0k (by decide)) (qrb 2)
def z7m(n:Int):LI:=qa7 0 0 4 (q6q n)
theorem j3k{n:Int}(hn:0≤n∧n<16):zap (z7m n)=q6q (q51 4 n):=by
 show tab 16 _=tab 16 _
 refine q02 fun i hi=> ?_
 have e1:lv (z7m n) (0+4*i) 4=(q6q n).getD i 0:=qrd (low:=0) (by decide) (by decide) (by decide) (zzd hn) hi
 rw[Nat.zero_add,qhy n hi]at e1
 rw[e1]
theorem j3l{n:Int}(hn:0≤n∧n<16):q1v 600 (q6q n)=some (z7m n,0,()):=by
 have j1:=(qr6 (F:=600) (by decide) (low:=0) (from_:=0) (each:=4) (w:=q6q n) (by decide) (by decide) (by decide) (z0k (by omega))).1 (zzd hn)
 simp only[yp,yq]at j1
 unfold q1v
 simp only[and_self,if_true,j1,y5,z7m]
def qmc(n:Int):LI:=qa7 (n+n*2^8) 16 3 (q6q 0)
theorem zod(a b:Int):(q6g a b).getD 0 0=a:=by
 unfold q6g j9m j59
 split<;>rfl
theorem qtc{n:Int}(hn:0≤n∧n≤255):qci (qmc n)=q6q n:=by
 have hl:0≤n+n*2^8∧n+n*2^8<2^16:=by omega
 have e0:(qmc n).getD 0 0=n:=by
  rw[←j65 (b:=qmc n) (q4t _ _ _ _) 0]
  exact qrc hl (by decide) (by decide) (qrb 3) (by decide) (by omega) fun i hi=>by
   rw[q81 (by omega),iP (by omega),Nat.mul_zero,Nat.zero_add]
 show tab 16 _=tab 16 _
 refine q02 fun i hi=> ?_
 have e1:lv (qmc n) (16+3*i) 3=(q6q 0).getD i 0:=qrd hl (by decide) (by decide) (qrb 3) hi
 have e2:(qfw (qmc n)).getD i 0=0:=by
  unfold qfw
  rw[q6n _ hi,e1,qhy 0 hi]
 rw[e0,e2]
 exact zod _ _
theorem j8c{n:Int}(hn:0≤n∧n≤255):q26 600 n n (q6q 0)=some (qmc n,0,()):=by
 obtain⟨t1,t2,t3,t4⟩:=jco (a:=n) (b:=n) (by omega) (by omega)
 have j1:=(qr6 (F:=600) (by decide) (low:=n+n*2^8) (from_:=16) (each:=3) (w:=q6q 0) ⟨t2,t3⟩ (by decide) (by decide) (z0k (by decide))).1 (qrb 3)
 simp only[yp]at j1
 have c1:¬n<0:=by omega
 have c2:¬255<n:=by omega
 unfold q26
 simp only[c1,c2,dF,cF,and_self,if_true,t1,j1,y5,qmc]
def sixB(w:LI)(bit:Int):LI:=sL (w++w) [bit,bit] (q6q 0) 26
theorem dbl_get{w:LI}(hl:w.length=4){c:Nat}(hc:c<4):(w++w).getD c 0=w.getD c 0∧(w++w).getD (4+c) 0=w.getD c 0:=by
 simp only[ye]
 rw[yg (by omega),yz (by omega),hl,show 4+c-4=c by omega]
 exact⟨rfl,rfl⟩
theorem j66{w:LI}(hl:w.length=4)(hw:Rg 127 w){bit:Int}(hb:0≤bit∧bit≤1):okU (w++w) [bit,bit] (q6q 0) 26=true:=by
 unfold okU
 rw[List.all_eq_true]
 intro t ht
 have ht:=List.mem_range.1 ht
 have key:0≤sV (w++w) [bit,bit] (q6q 0) t∧sV (w++w) [bit,bit] (q6q 0) t<2^sN t:=by
  unfold sV sN
  by_cases h8:t<8
  ·rw[iP h8,iP h8]
   have hr:=qew hw hw (t%2*4+t/2)
   omega
  rw[iN h8,iN h8]
  by_cases h10:t<10
  ·rw[iP h10,iP h10]
   have:t=8∨t=9:=by omega
   rcases this with rfl|rfl
   ·show 0≤bit∧bit<2^1
    omega
   ·show 0≤bit∧bit<2^1
    omega
  rw[iN h10,iN h10,qhy 0 (by omega)]
  split<;>decide
 simpa[okS,okV]using key
theorem j9y{w:LI}(hl:w.length=4)(hw:Rg 127 w){bit:Int}(hb:0≤bit∧bit≤1):qbn (sixB w bit)=oneT fun c=>2*w.getD c 0+bit:=by
 have h1:=jda (j66 hl hw hb)
 have h2:=z0c (b:=sixB w bit) (q4e _ _ _ qbo 26) (ztr _ _ _)
 unfold sixB at h2
 rw[h1]at h2
 have h3:=(Prod.mk.inj (Option.some.inj h2)).1
 unfold sixB
 rw[←h3]
 unfold oneT
 refine q02 fun j hj=> ?_
 have hc:j%4<4:=by omega
 have hg:=hw (j%4)
 have e1:endV (w++w) [bit,bit] (j%4)=2*w.getD (j%4) 0+bit:=by
  unfold endV
  rw[(dbl_get hl hc).1,show j%4/4=0 by omega,Int.emod_eq_of_lt (by omega) (by omega)]
  show 2*w.getD (j%4) 0+bit%2=_
  omega
 rw[e1,qhy 0 (by omega),j86]
theorem j8d{x:Int}(h: -9223372036854775808≤x∧x≤9223372036854775807):IntKind.i64.has x:=has_iff.2 h
theorem sixB_is{w:LI}(hl:w.length=4)(hw:Rg 127 w){bit:Int}(hb:0≤bit∧bit≤1):q52 600 (w++w) [bit,bit] (q6q 0)=some (sixB w bit,0,()):=by
 have hok:=j66 hl hw hb
 have h1:=j85 (ends:=w++w) (more:=[bit,bit]) (which:=q6q 0) (fun x hx=> ?_) (fun x hx=> ?_) (fun x hx=> ?_)
 ·rw[h1,iP hok]
  rfl
 ·obtain⟨i,hi,rfl⟩:=List.getElem_of_mem hx
  have hr:=qew hw hw i
  rw[ye,yj hi]at hr
  simp only[wc]at hr
  exact j8d (by omega)
 ·simp only[yr,List.not_mem_nil,or_false,or_self]at hx
  exact j8d (by omega)
 ·obtain⟨i,_,rfl⟩:=List.mem_map.1 hx
  exact j8d (by omega)
theorem j3m{x:Int}(h:0≤x∧x≤255):qhv x=x:=by unfold qhv;omega
def bN(L s:LI)(c:Nat):Int:=(zax L (colT s c):Int)
theorem zze{L:LI}(h:0<L.length)(s:LI)(c:Nat):0≤bN L s c∧bN L s c<(L.length:Int):=by
 have:=bestV_lt (L:=L) (l:=colT s c) h
 unfold bN
 omega
theorem j67(b:Nat):(lvW b).length=2^b:=q0f _ _
theorem j68:lvP.length=256:=q0f _ _
theorem j69(bit:Int):(lvS bit).length=128:=q0f _ _
theorem bN_W{b:Nat}(hb:1≤b∧b≤8)(s:LI)(c:Nat):0≤bN (lvW b) s c∧bN (lvW b) s c<((2^b:Nat):Int):=by
 have:=zze (L:=lvW b) (by rw[j67];have:=pow_b hb;omega) s c
 rwa [j67]at this
theorem bN_P(s:LI)(c:Nat):0≤bN lvP s c∧bN lvP s c≤255:=by
 have:=zze (L:=lvP) (by rw[j68];decide) s c
 rw[j68]at this
 omega
theorem bN_S(bit:Int)(s:LI)(c:Nat):0≤bN (lvS bit) s c∧bN (lvS bit) s c≤127:=by
 have:=zze (L:=lvS bit) (by rw[j69];decide) s c
 rw[j69]at this
 omega
def hexN(s:LI):Int:=bN (lvW 5) s 0*2048+bN (lvW 6) s 1*32+bN (lvW 5) s 2
theorem qre(s:LI):0≤hexN s∧hexN s≤65535:=by
 have h0:=bN_W (b:=5) (by decide) s 0
 have h1:=bN_W (b:=6) (by decide) s 1
 have h2:=bN_W (b:=5) (by decide) s 2
 unfold hexN
 omega
theorem hex_or{a b c:Int}(ha:0≤a∧a<32)(hb:0≤b∧b<64)(hc:0≤c∧c<32):ior .i64 (ior .i64 (ishl .i64 a 11) (ishl .i64 b 5)) c=a*2048+b*32+c:=by
 obtain⟨a,rfl⟩:=yh ha.1
 obtain⟨b,rfl⟩:=yh hb.1
 obtain⟨c,rfl⟩:=yh hc.1
 have s1:=j7v (a:=a) (k:=11) (by decide) (by omega)
 have s2:=j7v (a:=b) (k:=5) (by decide) (by omega)
 have o1:=ior64 (a:=a) (b:=b*2^5) (k:=11) (by omega) (by omega)
 have o2:=ior64 (a:=a*2^6+b) (b:=c) (k:=5) (by omega) (by omega)
 simp only[yp]at s1 s2
 rw[s1,s2,o1,show a*2^11+b*2^5=(a*2^6+b)*2^5 by omega,o2]
 omega
section
variable {t:LI} (hl:t.length=64) (ht:Rg 2047 t)
include hl ht
theorem zzf:z08 600 t=some (hexB (hexN t),()):=by
 have h0:=z7l hl ht (c:=0) (by decide) (b:=5) (by decide)
 have h1:=z7l hl ht (c:=1) (by decide) (b:=6) (by decide)
 have h2:=z7l hl ht (c:=2) (by decide) (b:=5) (by decide)
 simp only[yp,yq,Int.natCast_one]at h0 h1 h2
 have b0:=bN_W (b:=5) (by decide) t 0
 have b1:=bN_W (b:=6) (by decide) t 1
 have b2:=bN_W (b:=5) (by decide) t 2
 have e:=hex_or (a:=bN (lvW 5) t 0) (b:=bN (lvW 6) t 1) (c:=bN (lvW 5) t 2) ⟨b0.1,b0.2⟩ ⟨b1.1,b1.2⟩ ⟨b2.1,b2.2⟩
 have hj:=jdi (qre t)
 have hs:=z0j 0
 unfold bN at e
 unfold q6q at hj
 unfold z08
 simp only[h0,h1,h2,y5,e,hs]
 have en:(zax (lvW 5) (colT t 0):Int)*2048+(zax (lvW 6) (colT t 1):Int)*32+(zax (lvW 5) (colT t 2):Int)=hexN t:=rfl
 rw[en,hj]
 simp only[y5]
theorem z7n{c:Nat}(hc:c<4):qkz 600 t c=some (qmc (bN lvP t c),()):=by
 have h0:=j9x hl ht hc
 have hs:=z0j 0
 have hj:=j8c (bN_P t c)
 unfold q6q bN at hj
 unfold qkz
 simp only[h0,y5,hs,hj]
 rfl
theorem jdj(bit:Int)(hb:0≤bit∧bit≤1)(A:LI)(hA:A.length=4):q6i 600 600 t bit A 0=some (bit,tab 4 fun c=>bN (lvS bit) t c,()):=by
 refine qeu 4 (fun c=>bN (lvS bit) t c) (fun k w i=>q6i 600 k t bit w i) (fun w=>some (bit,w,())) ?_ ?_ A hA 600 (by omega)
 ·intro k i w hi hw
  show qe1 600 (q6i 600 k) _ _ _ _=_
  unfold qe1
  have h3:(i:Int)<4:=by omega
  simp only[h3,dT,cT,sixb_is hl ht (show i<4 by omega) hb,y5,yc,yd,yb,q08 (show i<1000000000000 by omega)]
  rfl
 ·intro k w hw
  rfl
def siN(bit:Int)(s:LI):LI:=tab 4 fun c=>bN (lvS bit) s c
theorem j8e{bit:Int}(hb:0≤bit∧bit≤1):ql0 600 bit t=some (sixB (siN bit t) bit,()):=by
 have hj:=sixB_is (w:=siN bit t) (q0f _ _) (qj1 (by decide) fun c _=>bN_S bit t c) hb
 have hs:=z0j 0
 unfold ql0
 rw[jdj hl ht bit hb _ rfl]
 simp only[y5]
 rw[hs]
 simp only[y5]
 rw[show(tab 16 fun _=>(0:Int))=q6q 0 from rfl,show(tab 4 fun c=>bN (lvS bit) t c)=siN bit t from rfl,hj]
 simp only[y5]
end
theorem j3n{t:LI}(hl:t.length=64){i:Nat}(hi:i<16):∀(d c k:Nat),c+d=4→d<k→
  q3h 600 k t (i:Int) (y8 4 (y9 (i*4) t)) (c:Int)=some (.inl ())∨(q3h 600 k t (i:Int) (y8 4 (y9 (i*4) t)) (c:Int)=some (.inr (t,(i:Int),()))∧∀c',c≤c' →c' <4→0≤t.getD (i*4+c') 0∧t.getD (i*4+c') 0≤255):=by
 intro d
 induction d with
 |zero=>
  intro c k h1 h2
  obtain⟨k,rfl⟩:∃k',k=k' +1:=⟨k-1,by omega⟩
  obtain rfl:c=4:=by omega
  exact .inr ⟨rfl,fun c' h h' =>by omega⟩
 |succ d ih=>
  intro c k h1 h2
  obtain⟨k,rfl⟩:∃k',k=k' +1:=⟨k-1,by omega⟩
  have e:q3h 600 (k+1) t (i:Int) (y8 4 (y9 (i*4) t)) (c:Int)=q8o 600 (q3h 600 k) t i (y8 4 (y9 (i*4) t)) c:=rfl
  rw[e]
  unfold q8o
  have h4:(c:Int)<4:=by omega
  simp only[h4,dT,cT,yc,yd,yb,q08 (show c<1000000000000 by omega),j3h hl hi (show c<4 by omega)]
  by_cases v1:t.getD (i*4+c) 0<0
  ·left
   simp only[v1,dT,cT]
  ·simp only[v1,dF,cF]
   by_cases v2:255<t.getD (i*4+c) 0
   ·left
    simp only[v2,dT,cT]
   ·simp only[v2,dF,cF]
    rcases ih (c+1) k (by omega) (by omega)with h|⟨h,h'⟩
    ·exact .inl h
    ·refine .inr ⟨h,fun c' g1 g2=> ?_⟩
     by_cases hc:c' =c
     ·subst hc;omega
     ·exact h' c' (by omega) g2
theorem j3o{t:LI}(hl:t.length=64):∀(d i k:Nat),i+d=16→d<k→
  q3i 600 k t (i:Int)=some (.inl ())∨(q3i 600 k t (i:Int)=some (.inr ())∧∀j,i*4≤j→j<64→0≤t.getD j 0∧t.getD j 0≤255):=by
 intro d
 induction d with
 |zero=>
  intro i k h1 h2
  obtain⟨k,rfl⟩:∃k',k=k' +1:=⟨k-1,by omega⟩
  obtain rfl:i=16:=by omega
  exact .inr ⟨rfl,fun j h h' =>by omega⟩
 |succ d ih=>
  intro i k h1 h2
  obtain⟨k,rfl⟩:∃k',k=k' +1:=⟨k-1,by omega⟩
  have e:q3i 600 (k+1) t (i:Int)=q8p 600 (q3i 600 k) t i:=rfl
  rw[e]
  unfold q8p
  have h3:(i:Int)<16:=by omega
  simp only[h3,dT,cT,yc,yd,yb]
  rcases j3n hl (i:=i) (by omega) 4 0 600 (by omega) (by omega)with h|⟨h,h'⟩
  ·left
   rw[show((0:Nat):Int)=0 from rfl]at h
   rw[h]
   rfl
  ·rw[show((0:Nat):Int)=0 from rfl]at h
   rw[h]
   simp only[y5,q08 (show i<1000000000000 by omega)]
   rcases ih (i+1) k (by omega) (by omega)with g|⟨g,g'⟩
   ·exact .inl g
   ·refine .inr ⟨g,fun j h1 h2=> ?_⟩
    by_cases hj:j<(i+1)*4
    ·have:=h' (j-i*4) (by omega) (by omega)
     rwa [show i*4+(j-i*4)=j by omega]at this
    ·exact g' j (by omega) h2
theorem zzg{t:LI}(hl:t.length=64):(q8q 600 t=some (true,())∧Rg 255 t)∨q8q 600 t=some (false,()):=by
 unfold q8q
 rcases j3o hl 16 0 600 (by omega) (by omega)with h|⟨h,h'⟩
 ·right
  rw[show((0:Nat):Int)=0 from rfl]at h
  rw[h]
  rfl
 ·left
  rw[show((0:Nat):Int)=0 from rfl]at h
  rw[h]
  refine⟨rfl,fun j=> ?_⟩
  by_cases hj:j<64
  ·exact h' j (by omega) hj
  ·rw[qnz (by omega)]
   decide
def j6a(k:Nat)(s a b:LI):LI:=if qbp k b s<qbp k a s then b else a
theorem near_is{k:Nat}(h:Fmt k){s a b:LI}(hl:s.length=64)(hs:Rg 255 s)(ha:Bytes a)(hb:Bytes b)(la:a.length=q29 k)(lb:b.length=q29 k):ql1 600 k s a b=some (j6a k s a b,()):=by
 unfold ql1 j6a
 rw[z0i ha h la hl hs,z0i hb h lb hl hs]
 simp only[y5]
 by_cases hlt:qbp k b s<qbp k a s
 ·simp only[hlt,dT,cT,if_true]
 ·simp only[hlt,dF,cF,if_false]
def qip(k:Nat)(s:LI):LI:=match k with
 |1=>hexB (hexN s)
 |2=>z7m (bN (lvW 4) s 3)++hexB (hexN s)
 |3=>qmc (bN lvP s 3)++hexB (hexN s)
 |4=>qmc (bN lvP s 0)
 |5=>qmc (bN lvP s 0)++qmc (bN lvP s 1)
 |_=>j6a 6 s (sixB (siN 0 s) 0) (sixB (siN 1 s) 1)
def Okb(n:Nat)(b:LI):Prop:=Bytes b∧b.length=n
theorem zb1{n m:Nat}{a b:LI}(ha:Okb n a)(hb:Okb m b):Okb (n+m) (a++b):=
 ⟨fun x hx=>(yk.1 hx).elim (ha.1 x) (hb.1 x),by rw[yo,ha.2,hb.2]⟩
theorem okb_near{n k:Nat}{s a b:LI}(ha:Okb n a)(hb:Okb n b):Okb n (j6a k s a b):=by
 unfold j6a
 split
 ·exact hb
 ·exact ha
theorem qtd(n:Int):Okb 8 (hexB n):=⟨q4t _ _ _ _,q90 _ _ _ _⟩
theorem qzp(n:Int):Okb 8 (z7m n):=⟨q4t _ _ _ _,q90 _ _ _ _⟩
theorem q83(n:Int):Okb 8 (qmc n):=⟨q4t _ _ _ _,q90 _ _ _ _⟩
theorem qh6(w:LI)(bit:Int):Okb 16 (sixB w bit):=⟨q4e _ _ _ qbo 26,ztr _ _ _⟩
theorem z7o(s:LI){k:Nat}(h:Fmt k):Okb (q29 k) (qip k s):=
 qhw (p:=fun k=>Okb (q29 k) (qip k s)) (qtd _) (zb1 (qzp _) (qtd _)) (zb1 (q83 _) (qtd _)) (q83 _) (zb1 (q83 _) (q83 _)) (okb_near (qh6 _ _) (qh6 _ _)) h
section
variable {t:LI} (hl:t.length=64)
include hl
theorem blk_1(ht:Rg 255 t):q2s 600 1 t=some (qip 1 t,()):=by
 have h:=zzf hl (q31 ht (by decide))
 unfold q2s
 simp only[Int.reduceBEq,cF,h,y5]
 rfl
theorem blk_2(ht:Rg 255 t):q2s 600 2 t=some (qip 2 t,()):=by
 have h:=zzf hl (q31 ht (by decide))
 have h1:=z7l hl (q31 ht (by decide)) (c:=3) (by decide) (b:=4) (by decide)
 have h2:=j3l (n:=bN (lvW 4) t 3) (bN_W (b:=4) (by decide) t 3)
 simp only[yp]at h1
 unfold q6q bN at h2
 unfold q2s
 simp only[Int.reduceBEq,cT,h1,z0j,h2,h,y5,(qzp _).2,(qtd _).2,show(8+8≤1099511627776)=True by simp,dT,yd]
 rfl
theorem blk_3(ht:Rg 255 t):q2s 600 3 t=some (qip 3 t,()):=by
 have h:=zzf hl (q31 ht (by decide))
 have h1:=z7n hl (q31 ht (by decide)) (c:=3) (by decide)
 simp only[yp]at h1
 unfold q2s
 simp only[Int.reduceBEq,cT,cF,h1,h,y5,(q83 _).2,(qtd _).2,show(8+8≤1099511627776)=True by simp,dT,yd]
 rfl
theorem blk_4(ht:Rg 255 t):q2s 600 4 t=some (qip 4 t,()):=by
 have h1:=z7n hl (q31 ht (by decide)) (c:=0) (by decide)
 simp only[yq]at h1
 unfold q2s
 simp only[Int.reduceBEq,cT,cF,h1,y5]
 rfl
theorem blk_5(ht:Rg 255 t):q2s 600 5 t=some (qip 5 t,()):=by
 have h1:=z7n hl (q31 ht (by decide)) (c:=0) (by decide)
 have h2:=z7n hl (q31 ht (by decide)) (c:=1) (by decide)
 simp only[yq,Int.natCast_one]at h1 h2
 unfold q2s
 simp only[Int.reduceBEq,cT,cF,h1,h2,y5,(q83 _).2,show(8+8≤1099511627776)=True by simp,dT,yd]
 rfl
theorem blk_6(ht:Rg 255 t):q2s 600 6 t=some (qip 6 t,()):=by
 have h1:=j8e hl (q31 ht (by decide)) (bit:=0) (by decide)
 have h2:=j8e hl (q31 ht (by decide)) (bit:=1) (by decide)
 have h3:=near_is (k:=6) ⟨by decide,by decide⟩ hl ht (qh6 (siN 0 t) 0).1 (qh6 (siN 1 t) 1).1 (qh6 (siN 0 t) 0).2 (qh6 (siN 1 t) 1).2
 simp only[yp]at h3
 unfold q2s zup
 simp only[Int.reduceBEq,cT,cF,h1,h2,h3,y5]
 rfl
theorem blk_is{k:Nat}(h:Fmt k):Rg (zca k) t→q2s 600 k t=some (qip k t,()):=
 qhw (p:=fun k=>Rg (zca k) t→q2s 600 (k:Int) t=some (qip k t,())) (fun h=>blk_1 hl h) (fun h=>blk_2 hl h) (fun h=>blk_3 hl h) (fun h=>blk_4 hl h) (fun h=>blk_5 hl h) (fun h=>blk_6 hl h) h
end
theorem zb2{t:LI}(hl:t.length=64)(ht:Rg 255 t):q8q 600 t=some (true,()):=by
 have l2:∀(i:Nat),i<16→∀(d c k:Nat),c+d=4→d<k→q3h 600 k t (i:Int) (y8 4 (y9 (i*4) t)) (c:Int)=some (.inr (t,(i:Int),())):=by
  intro i hi d
  induction d with
  |zero=>
   intro c k h1 h2
   obtain⟨k,rfl⟩:∃k',k=k' +1:=⟨k-1,by omega⟩
   obtain rfl:c=4:=by omega
   rfl
  |succ d ih=>
   intro c k h1 h2
   obtain⟨k,rfl⟩:∃k',k=k' +1:=⟨k-1,by omega⟩
   show q8o 600 (q3h 600 k) t i (y8 4 (y9 (i*4) t)) c=_
   unfold q8o
   have h4:(c:Int)<4:=by omega
   have hr:=ht (i*4+c)
   have v1:¬t.getD (i*4+c) 0<0:=by omega
   have v2:¬255<t.getD (i*4+c) 0:=by omega
   simp only[h4,dT,cT,yc,yd,yb,q08 (show c<1000000000000 by omega),j3h hl hi (show c<4 by omega),v1,v2,dF,cF]
   exact ih (c+1) k (by omega) (by omega)
 have l0:∀(d i k:Nat),i+d=16→d<k→q3i 600 k t (i:Int)=some (.inr ()):=by
  intro d
  induction d with
  |zero=>
   intro i k h1 h2
   obtain⟨k,rfl⟩:∃k',k=k' +1:=⟨k-1,by omega⟩
   obtain rfl:i=16:=by omega
   rfl
  |succ d ih=>
   intro i k h1 h2
   obtain⟨k,rfl⟩:∃k',k=k' +1:=⟨k-1,by omega⟩
   show q8p 600 (q3i 600 k) t i=_
   unfold q8p
   have h3:(i:Int)<16:=by omega
   have h:=l2 i (by omega) 4 0 600 (by omega) (by omega)
   rw[show((0:Nat):Int)=0 from rfl]at h
   simp only[h3,dT,cT,yc,yd,yb,h,y5,q08 (show i<1000000000000 by omega)]
   exact ih (i+1) k (by omega) (by omega)
 have h:=l0 16 0 600 (by omega) (by omega)
 rw[show((0:Nat):Int)=0 from rfl]at h
 unfold q8q
 rw[h]
 rfl
theorem zb3{k:Nat}(hk:Fmt k){t:LI}(hl:t.length=64)(ht:Rg 255 t)(hb:q8q 600 t=some (true,())):qaq 600 k t=some (qip k (scT k t),0,()):=by
 unfold qaq
 rw[zzb 600 hk,hb]
 simp only[y5,bne_self_eq_false,cF,Bool.not_true,j89 hk hl ht,blk_is (scT_len hl) hk (j88 ht)]
theorem zcb{k:Nat}(h:Fmt k){b s:LI}(hb:Bytes b)(hs:Rg 255 s):0≤qbp k b s:=
 j61 (q31 (j88 hs) (qhx k)) (q31 (z7k hb h) (qhx k))
theorem ztu{p:Nat→Prop}(h0:p 0)(h1:p 1)(h2:p 2)(h3:p 3):∀c,c<4→p c:=fun c hc=>by
 have:c=0∨c=1∨c=2∨c=3:=by omega
 rcases this with rfl|rfl|rfl|rfl<;>assumption
theorem fmt6:Fmt 6:=⟨by decide,by decide⟩
theorem jdk{a b:LI}(la:a.length=8):lo13 (a++b)=a:=by
 unfold lo13
 rw[←la,List.take_left]
theorem jdl{a b:LI}(la:a.length=8)(lb:b.length=8):hi13 (a++b)=b:=by
 unfold hi13
 rw[yo,la,lb,show 8+8-8=8 from rfl]
 conv=>lhs;rw[←la]
 rw[List.drop_left,List.take_of_length_le (by omega)]
theorem oneT_get(v:Nat→Int){j:Nat}(hj:j<64):(oneT v).getD j 0=v (j%4):=q0g hj
theorem j3p(c:Nat)(n:Int)(v:Nat→Int):wT c (q6q n) (oneT v)=oneT fun q=>if q=c then n else v q:=by
 unfold wT
 show tab 64 _=tab 64 _
 refine q02 fun j hj=> ?_
 rw[qhy n (show j/4<16 by omega),oneT_get v hj]
theorem j3q(a:Int):qo0 a=oneT fun q=>if q=3 then a else 0:=rfl
def hxC(s:LI)(c:Nat):Int:=(colV (hexN s)).getD c 0
def siC(bit:Int)(s:LI)(c:Nat):Int:=2*(siN bit s).getD c 0+bit
def b6(s:LI):Prop:=qbp 6 (sixB (siN 1 s) 1) s<qbp 6 (sixB (siN 0 s) 0) s
instance (s:LI):Decidable (b6 s):=by unfold b6;exact inferInstance
def j9z(k:Nat)(s:LI):Nat→Int:=match k with
 |1=>hxC s
 |2=>fun q=>if q=3 then q51 4 (bN (lvW 4) s 3)else hxC s q
 |3=>fun q=>if q=3 then bN lvP s 3 else hxC s q
 |4=>fun q=>if q=0 then bN lvP s 0 else if q=3 then 255 else 0
 |5=>fun q=>if q=1 then bN lvP s 1 else if q=0 then bN lvP s 0 else if q=3 then 255 else 0
 |_=>if b6 s then siC 1 s else siC 0 s
theorem si_dec{bit:Int}(hb:0≤bit∧bit≤1)(s:LI):qbn (sixB (siN bit s) bit)=oneT (siC bit s):=j9y (q0f _ _) (qj1 (by decide) fun c _=>bN_S bit s c) hb
theorem dec_blk(s:LI){k:Nat}(h:Fmt k):qw7 k (qip k s)=oneT (j9z k s):=by
 refine qhw (p:=fun k=>qw7 k (qip k s)=oneT (j9z k s)) ?_ ?_ ?_ ?_ ?_ ?_ h
 ·exact zb0 (qre s) false
 ·show wT 3 (zap (lo13 (z7m (bN (lvW 4) s 3)++hexB (hexN s)))) (qw6 (hi13 (z7m (bN (lvW 4) s 3)++hexB (hexN s))) true)=_
  rw[jdk (qzp _).2,jdl (qzp _).2 (qtd _).2,j3k (bN_W (b:=4) (by decide) s 3),zb0 (qre s) true,j3p]
  rfl
 ·show wT 3 (qci (lo13 (qmc (bN lvP s 3)++hexB (hexN s)))) (qw6 (hi13 (qmc (bN lvP s 3)++hexB (hexN s))) true)=_
  rw[jdk (q83 _).2,jdl (q83 _).2 (qtd _).2,qtc (bN_P s 3),zb0 (qre s) true,j3p]
  rfl
 ·show wT 0 (qci (lo13 (qmc (bN lvP s 0)))) (qo0 255)=_
  rw[lo13_8 (q83 _).2,qtc (bN_P s 0),j3q,j3p]
  rfl
 ·show wT 1 (qci (hi13 (qmc (bN lvP s 0)++qmc (bN lvP s 1)))) (wT 0 (qci (lo13 (qmc (bN lvP s 0)++qmc (bN lvP s 1)))) (qo0 255))=_
  rw[jdk (q83 _).2,jdl (q83 _).2 (q83 _).2,qtc (bN_P s 0),qtc (bN_P s 1),j3q,j3p,j3p]
  rfl
 ·show qbn (if b6 s then sixB (siN 1 s) 1 else sixB (siN 0 s) 0)=oneT (if b6 s then siC 1 s else siC 0 s)
  split
  ·exact si_dec (by decide) s
  ·exact si_dec (by decide) s
theorem j3r{c:Nat}(hc:c<4)(l t T:LI):∀(d i k:Nat),i+d=16→d<k→qau 600 k c (tab 64 (upW c i l t)) l T (i:Int)=some (tab 64 (upW c 16 l t),T,()):=by
 intro d
 induction d with
 |zero=>
  intro i k h1 h2
  obtain⟨k,rfl⟩:∃k',k=k' +1:=⟨k-1,by omega⟩
  obtain rfl:i=16:=by omega
  rfl
 |succ d ih=>
  intro i k h1 h2
  obtain⟨k,rfl⟩:∃k',k=k' +1:=⟨k-1,by omega⟩
  show qgm 600 (qau 600 k) c (tab 64 (upW c i l t)) l T i=_
  unfold qgm
  have h3:(i:Int)<16:=by omega
  have h4:(c:Int)<4:=by omega
  simp only[h3,h4,dT,cT,yc,yd,yb,jdd hc (show i<16 by omega),q08 (show i<1000000000000 by omega)]
  exact ih (i+1) k (by omega) (by omega)
theorem zzh{c:Nat}(hc:c<4){l t:LI}(ht:t.length=64):q14 600 t l c=some (wT c l t,()):=by
 have h:=j3r hc l t q66 16 0 600 (by omega) (by omega)
 have e0:tab 64 (upW c 0 l t)=t:=by
  conv=>rhs;rw[qzl ht]
  exact q02 fun j hj=>by unfold upW;rw[iN (by omega)]
 have e1:tab 64 (upW c 16 l t)=wT c l t:=q02 fun j hj=>by
  unfold upW
  by_cases h2:j%4=c
  ·rw[iP h2,iP (by omega)]
  ·rw[iN h2,iN (by omega)]
 rw[e0,e1]at h
 unfold q14
 rw[show((0:Nat):Int)=0 from rfl]at h
 rw[h]
 rfl
theorem rblank_is:q5c 600 255=some (qo0 255,())∧q5c 600 2047=some (qo0 2047,()):=by constructor<;>kernel_rfl
theorem j3s{b:LI}(hb:Bytes b){k:Nat}(h:Fmt k)(hl:b.length=q29 k):qn0 600 (k:Int) b=some (qw7 k b,0,()):=by
 have hlo:=qke hb
 have hhi:=qr9 hb
 have hg:=z0f k
 have l1:=z7i (b:=b) (by omega)
 have l2:=zgz (b:=b) (by omega)
 have e8:y0 .i64 ((b.length:Int)-8)=((b.length-8:Nat):Int):=by rw[w64 (by omega) (by omega)];omega
 have r7:=zo0 (F:=600) (by decide) hlo l1
 have r7' :=zo0 (F:=600) (by decide) hhi l2
 have c1:((b.length:Int) !=(q29 k:Int))=false:=by rw[hl];simp
 have c2:8≤b.length:=by omega
 have c3:b.length-8≤b.length:=by omega
 have ht:psub b.length (b.length-8)=8:=by rw[zu2];omega
 have p3:∀{l t:LI},t.length=64→q14 600 t l 3=some (wT 3 l t,()):=fun ht=>zzh (c:=3) (by decide) ht
 have p0:∀{l t:LI},t.length=64→q14 600 t l 0=some (wT 0 l t,()):=fun ht=>zzh (c:=0) (by decide) ht
 have p1:∀{l t:LI},t.length=64→q14 600 t l 1=some (wT 1 l t,()):=fun ht=>zzh (c:=1) (by decide) ht
 have d6:q4o 600 (hi13 b) true=some (qw6 (hi13 b) true,0,()):=zo6 (F:=600) (by decide) hhi l2 true
 unfold qn0
 rw[(j8b 600 _).1,zzb 600 h]
 simp only[y5,bne_self_eq_false,cF,c1,c2,c3,dT,cT,e8,yc,yb,yd,ht]
 rw[show y8 8 b=lo13 b from rfl,show y8 8 (y9 (b.length-8) b)=hi13 b from rfl,r7,r7']
 simp only[y5]
 refine qhw (p:=fun k=>b.length=q29 k→(cond ((k:Int)==(1:Int))
      ((q4o 600 b false).bind fun r8365=>
      some (r8365.1,r8365.2.1,()))
      (cond ((k:Int)==(2:Int))
       ((q4o 600 (hi13 b) true).bind fun r8367=>
       (qku 600 (lo13 b)).bind fun r8394=>
       (q14 600 r8367.1 r8394.1 (3:Int)).bind fun r8418=>
       some (r8418.1,(0:Int),()))
       (cond ((k:Int)==(3:Int))
        ((q4o 600 (hi13 b) true).bind fun r8420=>
        (q14 600 r8420.1 (qci (lo13 b)) (3:Int)).bind fun r8421=>
        some (r8421.1,(0:Int),()))
        (cond ((k:Int)==(4:Int))
         ((q5c 600 (255:Int)).bind fun r8437=>
         (q14 600 r8437.1 (qci (lo13 b)) (0:Int)).bind fun r8438=>
         some (r8438.1,(0:Int),()))
         (cond ((k:Int)==(5:Int))
          ((q5c 600 (255:Int)).bind fun r8440=>
          (q14 600 r8440.1 (qci (lo13 b)) (0:Int)).bind fun r8441=>
          (q14 600 r8441.1 (qci (hi13 b)) (1:Int)).bind fun r8442=>
          some (r8442.1,(0:Int),()))
          (cond ((k:Int)==(6:Int))
           ((qhe 600 b).bind fun r12176=>
           some (r12176.1,r12176.2.1,()))
           (cond ((k:Int)==(7:Int))
            ((qx4 600 b).bind fun r12480=>
            some (r12480.1,r12480.2.1,()))
            (cond ((k:Int)==(8:Int))
             ((q9n 600 b false).bind fun r13133=>
             some (r13133.1,r13133.2.1,()))
             (cond ((k:Int)==(9:Int))
              ((q9n 600 b true).bind fun r13135=>
              some (r13135.1,r13135.2.1,()))
              (cond ((k:Int)==(10:Int))
               ((q9n 600 (hi13 b) false).bind fun r13137=>
               (q9u 600 (lo13 b) false).bind fun r13248=>
               (q14 600 r13137.1 r13248.1 (3:Int)).bind fun r13249=>
               some (r13249.1,(0:Int),()))
               ((q9u 600 (lo13 b) true).bind fun r13250=>
               (q9u 600 (hi13 b) true).bind fun r13251=>
               cond ((k:Int)==(11:Int))
                ((q5c 600 (2047:Int)).bind fun r13253=>
                (q14 600 r13253.1 r13250.1 (0:Int)).bind fun r13254=>
                some (r13254.1,(0:Int),()))
                ((q5c 600 (2047:Int)).bind fun r13255=>
                (q14 600 r13255.1 r13250.1 (0:Int)).bind fun r13256=>
                (q14 600 r13256.1 r13251.1 (1:Int)).bind fun r13257=>
                some (r13257.1,(0:Int),())))))))))))))=some (qw7 k b,0,())) ?_ ?_ ?_ ?_ ?_ ?_ h hl
 ·intro hl
  simp only[Int.natCast_one,yp,Int.reduceBEq,cT,zo6 (F:=600) (by decide) hb hl false,y5]
  rfl
 ·intro hl
  simp only[yp,Int.reduceBEq,cT,cF,d6,jcn (F:=600) (by decide) hlo l1,y5]
  rw[p3 (z7j (hi13 b) true)]
  rfl
 ·intro hl
  simp only[yp,Int.reduceBEq,cT,cF,d6,y5]
  rw[p3 (z7j (hi13 b) true)]
  rfl
 ·intro hl
  simp only[yp,Int.reduceBEq,cT,cF,rblank_is.1,p0 (z0e 255),y5]
  rfl
 ·intro hl
  simp only[yp,Int.reduceBEq,cT,cF,rblank_is.1,p0 (z0e 255),p1 (wT_len _ _ _),y5]
  rfl
 ·intro hl
  simp only[yp,Int.reduceBEq,cT,cF,j9t hb hl,y5]
  rfl
theorem zzi{t:LI}(ht:Rg 255 t)(T:LI)(y z:Int){i:Nat}(hi:i<16):∀(d c k:Nat),c+d=4→d<k→
  q8r 600 k (tab 64 (upS (i*4+c) t)) T y z true (i:Int) (c:Int) true=some (tab 64 (upS (i*4+4) t),T,y,z,true,(i:Int),true,()):=by
 intro d
 induction d with
 |zero=>
  intro c k h1 h2
  obtain⟨k,rfl⟩:∃k',k=k' +1:=⟨k-1,by omega⟩
  obtain rfl:c=4:=by omega
  rfl
 |succ d ih=>
  intro c k h1 h2
  obtain⟨k,rfl⟩:∃k',k=k' +1:=⟨k-1,by omega⟩
  show qe4 600 (q8r 600 k) (tab 64 (upS (i*4+c) t)) T y z true i c true=_
  unfold qe4
  have h3:(i:Int)<16:=by omega
  have h4:(c:Int)<4:=by omega
  have hv:=ht (i*4+c)
  have g:(tab 64 (upS (i*4+c) t)).getD (i*4+c) 0=t.getD (i*4+c) 0:=by
   rw[q0g (by omega)]
   unfold upS
   rw[iN (by omega)]
  have e:y0 .i64 (y0 .i64 (8*t.getD (i*4+c) 0)+y0 .i64 (yv (t.getD (i*4+c) 0) 32))=scV (t.getD (i*4+c) 0):=by
   rw[q2h hv.1,w64 (x:=8*t.getD (i*4+c) 0) (by omega) (by omega),w64 (x:=t.getD (i*4+c) 0/32) (by omega) (by omega),w64 (by omega) (by omega)]
   rfl
  simp only[h3,h4,dT,cT,yc,yd,yb,g,e,jdf (t:=t) (show i*4+c<64 by omega),q08 (show c<1000000000000 by omega)]
  exact ih (c+1) k (by omega) (by omega)
theorem zzj{t:LI}(ht:Rg 255 t)(T:LI)(y z:Int):∀(d i k:Nat),i+d=16→d<k→q8s 600 k (tab 64 (upS (i*4) t)) T y z true (i:Int)=some (tab 64 (upS 64 t),T,()):=by
 intro d
 induction d with
 |zero=>
  intro i k h1 h2
  obtain⟨k,rfl⟩:∃k',k=k' +1:=⟨k-1,by omega⟩
  obtain rfl:i=16:=by omega
  rfl
 |succ d ih=>
  intro i k h1 h2
  obtain⟨k,rfl⟩:∃k',k=k' +1:=⟨k-1,by omega⟩
  show qe5 600 (q8s 600 k) (tab 64 (upS (i*4) t)) T y z true i=_
  unfold qe5
  have h3:(i:Int)<16:=by omega
  have h:=zzi ht T y z (i:=i) (by omega) 4 0 600 (by omega) (by omega)
  simp only[Nat.add_zero,yq]at h
  simp only[h3,dT,cT,h,y5,q08 (show i<1000000000000 by omega)]
  rw[show i*4+4=(i+1)*4 by omega]
  exact ih (i+1) k (by omega) (by omega)
theorem j3t{k:Nat}(h:Fmt k){t:LI}(hl:t.length=64)(ht:Rg 255 t):qfj 600 (k:Int) t=some (scT k t,()):=by
 unfold qfj scT
 rw[(j8b 600 _).1,zzb 600 h]
 simp only[y5]
 cases z39 k
 ·rfl
 ·have h:=zzj ht q66 (q29 k:Int) (qr8 k) 16 0 600 (by omega) (by omega)
  have e0:tab 64 (upS (0*4) t)=t:=by
   conv=>rhs;rw[qzl hl]
   exact q02 fun j hj=>by unfold upS;rw[iN (by omega)]
  have e1:tab 64 (upS 64 t)=tab 64 fun j=>scV (t.getD j 0):=q02 fun j hj=>by unfold upS;rw[iP hj]
  rw[e0,e1,show((0:Nat):Int)=0 from rfl]at h
  simp only[h,y5,if_true]
theorem zzk{mask:Int}(hm:0≤mask∧mask≤15){s u:LI}(hs:Rg 2047 s)(hu:Rg 2047 u){i:Nat}(hi:i<16):∀(d c k:Nat),c+d=4→d<k→
  q8x 600 k mask s u (sumN (errT mask s u) (i*4+c)) (i:Int) (c:Int)=some (mask,s,u,sumN (errT mask s u) (i*4+4),(i:Int),()):=by
 intro d
 induction d with
 |zero=>
  intro c k h1 h2
  obtain⟨k,rfl⟩:∃k',k=k' +1:=⟨k-1,by omega⟩
  obtain rfl:c=4:=by omega
  rfl
 |succ d ih=>
  intro c k h1 h2
  obtain⟨k,rfl⟩:∃k',k=k' +1:=⟨k-1,by omega⟩
  show qe7 600 (q8x 600 k) mask s u (sumN (errT mask s u) (i*4+c)) i c=_
  unfold qe7
  have h3:(i:Int)<16:=by omega
  have h4:(c:Int)<4:=by omega
  have b1:=hs (i*4+c)
  have b2:=hu (i*4+c)
  have b3:=q77 (n:=i*4+c) (f:=errT mask s u) fun j _=>z0h hs hu j
  have b5:(2047*2047:Int)*((i*4+c:Nat):Int)≤2047*2047*64:=Int.mul_le_mul_of_nonneg_left (by omega) (by decide)
  have hp:(0:Int)<2^c:=qd3 c
  have hp0:((2:Int)^c==0)=false:=beqF (by omega)
  have m16:qkt 600 mask 16=some (mask,()):=by
   rw[zyv 600 (by decide) (by omega),Int.emod_eq_of_lt (by omega) (by omega)]
  have nx:=ih (c+1) k (by omega) (by omega)
  rw[show i*4+(c+1)=(i*4+c)+1 by omega]at nx
  rw[show sumN (errT mask s u) (i*4+c+1)=sumN (errT mask s u) (i*4+c)+errT mask s u (i*4+c)from rfl]at nx
  simp only[h3,h4,dT,cT,yc,yd,yb,m16,znx (F:=600) (by decide) (show c≤8 by omega),y5,hp0,Bool.not_false,mbit_is hm (show c<4 by omega),q08 (show c<1000000000000 by omega)]
  cases hb:bitM mask c with
  |true=>
   have e:errT mask s u (i*4+c)=(s.getD (i*4+c) 0-u.getD (i*4+c) 0)*(s.getD (i*4+c) 0-u.getD (i*4+c) 0):=by
    unfold errT
    rw[iP (by rw[show(i*4+c)%4=c by omega];exact hb)]
   have b4:=q6v (x:=s.getD (i*4+c) 0-u.getD (i*4+c) 0) (m:=2047) (by omega)
   have sq:qbc 600 (y0 .i64 (s.getD (i*4+c) 0-u.getD (i*4+c) 0))=some ((s.getD (i*4+c) 0-u.getD (i*4+c) 0)*(s.getD (i*4+c) 0-u.getD (i*4+c) 0),()):=by
    unfold qbc
    rw[w64 (x:=s.getD (i*4+c) 0-u.getD (i*4+c) 0) (by omega) (by omega),w64 (by omega) (by omega)]
   rw[e]at nx
   simp only[cT,sq,y5]
   rw[w64 (by omega) (by omega)]
   exact nx
  |false=>
   have e:errT mask s u (i*4+c)=0:=by
    unfold errT
    rw[iN (by rw[show(i*4+c)%4=c by omega,hb];simp)]
   rw[e,Int.add_zero]at nx
   simp only[cF]
   exact nx
theorem zzl{mask:Int}(hm:0≤mask∧mask≤15){s u:LI}(hs:Rg 2047 s)(hu:Rg 2047 u):∀(d i k:Nat),i+d=16→d<k→q8y 600 k mask s u (sumN (errT mask s u) (i*4)) (i:Int)=some (errS mask s u,()):=by
 intro d
 induction d with
 |zero=>
  intro i k h1 h2
  obtain⟨k,rfl⟩:∃k',k=k' +1:=⟨k-1,by omega⟩
  obtain rfl:i=16:=by omega
  rfl
 |succ d ih=>
  intro i k h1 h2
  obtain⟨k,rfl⟩:∃k',k=k' +1:=⟨k-1,by omega⟩
  show qe8 600 (q8y 600 k) mask s u (sumN (errT mask s u) (i*4)) i=_
  unfold qe8
  have h3:(i:Int)<16:=by omega
  have h:=zzk hm hs hu (i:=i) (by omega) 4 0 600 (by omega) (by omega)
  simp only[Nat.add_zero,yq]at h
  simp only[h3,dT,cT,h,y5,q08 (show i<1000000000000 by omega)]
  rw[show i*4+4=(i+1)*4 by omega]
  exact ih (i+1) k (by omega) (by omega)
theorem zoe{b t:LI}(hb:Bytes b){k:Nat}(h:Fmt k)(hl:b.length=q29 k)(htl:t.length=64)(ht:Rg 255 t):qfl 600 (k:Int) b t=some (qbp k b t,0,()):=by
 have e:=zzl (j3g k) (q31 (j88 (k:=k) ht) (qhx k)) (q31 (z7k hb h) (qhx k)) 16 0 600 (by omega) (by omega)
 simp only[Nat.zero_mul,yq,sumN]at e
 unfold qfl z3u
 rw[j3s hb h hl,(j8b 600 _).1,zzb 600 h,j3t h htl ht]
 simp only[y5,bne_self_eq_false,cF,e]
 rfl
section
end
theorem j3u{b:Nat}(hb:b≤8):∀(d i k:Nat),i+d=b→d<k→q7o 600 k (b:Int) ((2^i:Nat):Int) (i:Int)=some ((b:Int),((2^b:Nat):Int),()):=by
 intro d
 induction d with
 |zero=>
  intro i k h1 h2
  obtain⟨k,rfl⟩:∃k',k=k' +1:=⟨k-1,by omega⟩
  obtain rfl:i=b:=by omega
  show q8t 600 (q7o 600 k) _ _ _=_
  unfold q8t
  simp only[yt,dF,cF]
 |succ d ih=>
  intro i k h1 h2
  obtain⟨k,rfl⟩:∃k',k=k' +1:=⟨k-1,by omega⟩
  show q8t 600 (q7o 600 k) _ _ _=_
  unfold q8t
  have h3:(i:Int)<(b:Int):=by omega
  have hp:2^i≤2^8:=Nat.pow_le_pow_right (by decide) (by omega)
  have hp0:=Nat.pow_pos (n:=i) (show 0<2 by decide)
  have e:y0 .i64 (2*((2^i:Nat):Int))=((2^(i+1):Nat):Int):=by
   rw[w64 (by omega) (by omega),Nat.pow_succ]
   omega
  simp only[h3,dT,cT,e,q08 (show i<1000000000000 by omega)]
  exact ih (i+1) k (by omega) (by omega)
theorem z0l{b:Nat}(hb:1≤b∧b≤8):q3c 600 (b:Int)=some (lvW b,()):=by
 have hp:=pow_b hb
 have h1:=j3u (b:=b) hb.2 b 0 600 (by omega) (by omega)
 have h2:=qra (m:=2^b) (by omega) (fun i=>q51 b i) (fun k w i=>q7p 600 k (b:Int) w ((2^b:Nat):Int) i) (fun w=>some (w,())) (fun k i hi=>by
   show q8u 600 (q7p 600 k) _ _ _ _=_
   unfold q8u
   have h3:(i:Int)<((2^b:Nat):Int):=by omega
   simp only[h3,dT,cT,qnw (F:=600) (by decide) hb (x:=(i:Int)) (by omega),y5,q0f,show i+1≤1099511627776 by omega,yd,q08 (show i<1000000000000 by omega)]) (fun k=>by
   show q8u 600 (q7p 600 k) _ _ _ _=_
   unfold q8u
   simp only[yt,dF,cF])
 unfold q3c
 rw[show((2^0:Nat):Int)=1 from rfl,show((0:Nat):Int)=0 from rfl]at h1
 rw[h1]
 simp only[y5]
 rw[h2]
 rfl
theorem j8f{m:Nat}(hm:m≤300){a z:Int}(ha:0≤a∧a≤8)(hz:0≤z∧z≤8):qat 600 (m:Int) a z=some (tab m fun i=>a*(i:Int)+z,()):=by
 have h2:=qra (m:=m) (by omega) (fun i=>a*(i:Int)+z) (fun k w i=>q7r 600 k (m:Int) a z w i) (fun w=>some (w,())) (fun k i hi=>by
   show q8w 600 (q7r 600 k) _ _ _ _ _=_
   unfold q8w
   have h3:(i:Int)<(m:Int):=by omega
   have b1:a*(i:Int)≤8*(i:Int):=Int.mul_le_mul_of_nonneg_right ha.2 (by omega)
   have b2:0≤a*(i:Int):=Int.mul_nonneg ha.1 (by omega)
   simp only[h3,dT,cT,w64 (x:=a*(i:Int)) (by omega) (by omega),w64 (x:=a*(i:Int)+z) (by omega) (by omega),q0f,show i+1≤1099511627776 by omega,yd,q08 (show i<1000000000000 by omega)]) (fun k=>by
   show q8w 600 (q7r 600 k) _ _ _ _ _=_
   unfold q8w
   simp only[yt,dF,cF])
 unfold qat
 rw[h2]
 rfl
theorem rlvP_is:qat 600 256 1 0=some (lvP,()):=by
 have h:=j8f (m:=256) (by decide) (a:=1) (z:=0) (by decide) (by decide)
 rw[show((256:Nat):Int)=256 from rfl]at h
 rw[h]
 unfold lvP
 rw[q02 (f:=fun i=>(i:Int)) fun i _=>by omega]
theorem rlvS_is{bit:Int}(hb:0≤bit∧bit≤1):qat 600 128 2 bit=some (lvS bit,()):=
 j8f (m:=128) (by decide) (a:=2) (z:=bit) (by decide) (by omega)
theorem qkf{t:LI}(hl:t.length=64){c:Nat}(hc:c<4):q23 600 t (c:Int)=some (colT t c,()):=by
 have h2:=qra (m:=16) (by omega) (fun i=>t.getD (i*4+c) 0) (fun k w i=>qar 600 k (c:Int) t w i) (fun w=>some (w,())) (fun k i hi=>by
   show qgl 600 (qar 600 k) _ _ _ _=_
   unfold qgl
   have h3:(i:Int)<16:=by omega
   have h4:(c:Int)<4:=by omega
   simp only[h3,h4,dT,cT,yc,yb,q0f,show i+1≤1099511627776 by omega,yd,q08 (show i<1000000000000 by omega)]) (fun k=>rfl)
 unfold q23
 rw[h2]
 rfl
theorem j6b{l:LI}(hl:Rg 2047 l)(hn:l.length≤64){v:Int}(hv:0≤v∧v≤2047):∀(d i k:Nat),i+d=l.length→d<k→
  q9s 600 k v l (sumN (fun i=>(l.getD i 0-v)*(l.getD i 0-v)) i) (i:Int)=some (qw8 l v,()):=by
 intro d
 induction d with
 |zero=>
  intro i k h1 h2
  obtain⟨k,rfl⟩:∃k',k=k' +1:=⟨k-1,by omega⟩
  obtain rfl:i=l.length:=by omega
  show qas 600 (q9s 600 k) _ _ _ _=_
  unfold qas
  simp only[yt,dF,cF]
  rfl
 |succ d ih=>
  intro i k h1 h2
  obtain⟨k,rfl⟩:∃k',k=k' +1:=⟨k-1,by omega⟩
  show qas 600 (q9s 600 k) _ _ _ _=_
  unfold qas
  have h3:(i:Int)<(l.length:Int):=by omega
  have b1:=hl i
  have b2:=q6v (x:=l.getD i 0-v) (m:=2047) (by omega)
  have b3:=q77 (n:=i) (f:=fun i=>(l.getD i 0-v)*(l.getD i 0-v)) (m:=2047*2047) fun j _=>q6v (m:=2047) (by have:=hl j;omega)
  have b4:(2047*2047:Int)*(i:Int)≤2047*2047*64:=Int.mul_le_mul_of_nonneg_left (by omega) (by decide)
  have sq:qbc 600 (y0 .i64 (l.getD i 0-v))=some ((l.getD i 0-v)*(l.getD i 0-v),()):=by
   unfold qbc
   rw[w64 (x:=l.getD i 0-v) (by omega) (by omega),w64 (by omega) (by omega)]
  simp only[h3,dT,cT,yc,yd,yb,sq,y5,q08 (show i<1000000000000 by omega)]
  rw[w64 (by omega) (by omega)]
  exact ih (i+1) k (by omega) (by omega)
theorem rSum_is{l:LI}(hl:Rg 2047 l)(hn:l.length≤64){v:Int}(hv:0≤v∧v≤2047):qxd 600 v l=some (qw8 l v,()):=by
 have h:=j6b hl hn hv l.length 0 600 (by omega) (by omega)
 simp only[yq,sumN]at h
 unfold qxd
 rw[h]
 rfl
theorem j3v{l L:LI}(hl:Rg 2047 l)(hn:l.length≤64)(hL:Rg 2047 L)(hm:L.length≤300):∀(d i k:Nat),1≤i→i+d=L.length→d<k→
  q7q 600 k L l (q3d (fun i=>qw8 l (L.getD i 0)) i:Int) (i:Int)=some ((zax L l:Int),()):=by
 intro d
 induction d with
 |zero=>
  intro i k h0 h1 h2
  obtain⟨k,rfl⟩:∃k',k=k' +1:=⟨k-1,by omega⟩
  obtain rfl:i=L.length:=by omega
  show q8v 600 (q7q 600 k) _ _ _ _=_
  unfold q8v
  simp only[yt,dF,cF]
  rfl
 |succ d ih=>
  intro i k h0 h1 h2
  obtain⟨k,rfl⟩:∃k',k=k' +1:=⟨k-1,by omega⟩
  show q8v 600 (q7q 600 k) _ _ _ _=_
  unfold q8v
  have h3:(i:Int)<(L.length:Int):=by omega
  have hlt:=qm6 (fun i=>qw8 l (L.getD i 0)) (n:=i) (by omega)
  have h4:(q3d (fun i=>qw8 l (L.getD i 0)) i:Int)<(L.length:Int):=by omega
  have nx:=ih (i+1) k (by omega) (by omega) (by omega)
  unfold q3d at nx
  rw[iN (by omega)]at nx
  simp only[h3,h4,dT,cT,yc,yd,yb,rSum_is hl hn (hL _),y5,q08 (show i<1000000000000 by omega)]
  by_cases hc:qw8 l (L.getD i 0)<qw8 l (L.getD (q3d (fun i=>qw8 l (L.getD i 0)) i) 0)
  ·rw[iP hc]at nx
   simp only[hc,dT,cT]
   exact nx
  ·rw[iN hc]at nx
   simp only[hc,dF,cF]
   exact nx
theorem zzm{s:LI}(hs:Rg 2047 s)(c:Nat){L:LI}(hL:Rg 2047 L)(hm:1≤L.length∧L.length≤300):q2d 600 L (colT s c)=some (bN L s c,()):=by
 have h:=j3v (l:=colT s c) (zaz hs c) (by rw[zh0];decide) hL hm.2 (L.length-1) 1 600 (by omega) (by omega) (by omega)
 have e:q3d (fun i=>qw8 (colT s c) (L.getD i 0)) 1=0:=rfl
 rw[e]at h
 unfold q2d
 rw[show((0:Nat):Int)=0 from rfl,show((1:Nat):Int)=1 from rfl]at h
 rw[h]
 rfl
theorem rall_is(n:Int):qxe 600 n=some (q6q n,()):=by
 have key:∀T w:LI,w.length=16→q9t 600 600 n T w 0=some (T,tab 16 (fun _=>n),()):=by
  intro T w hw
  refine qeu 16 (fun _=>n) (fun k w i=>q9t 600 k n T w i) (fun w=>some (T,w,())) ?_ ?_ w hw 600 (by omega)
  ·intro k i w hi hw
   show qjr 600 (q9t 600 k) n T w i=_
   unfold qjr
   have h3:(i:Int)<16:=by omega
   simp only[h3,dT,cT,yc,yd,yb,q08 (show i<1000000000000 by omega)]
  ·intro k w hw
   rfl
 unfold qxe
 rw[key _ _ rfl]
 rfl
theorem j6c{α:Type}{x y:Option α}{c:α}(h:x=some c)(g:∃r,x=some r∧y=some r):y=some c:=by
 obtain⟨r,g1,g2⟩:=g
 rw[h]at g1
 rw[g2,←g1]
theorem rhexB_is{n:Int}(hn:0≤n∧n≤65535):q8k 600 n n (q6q 0)=some (hexB n,0,()):=by
 obtain⟨c,e,h1,h2,_⟩:=Join6_is (F:=600) (by decide) (a:=n) (b:=n) (w:=q6q 0) (z0k (by decide))
 exact j6c (jdi hn) ⟨_,h1,h2⟩
theorem ja0{n:Int}(hn:0≤n∧n<16):q6y 600 (q6q n)=some (z7m n,0,()):=by
 obtain⟨c,e,h1,h2,_⟩:=j2t (F:=600) (by decide) (w:=q6q n) (z0k (by omega))
 exact j6c (j3l hn) ⟨_,h1,h2⟩
theorem jdm{n:Int}(hn:0≤n∧n≤255):q8g 600 n n (q6q 0)=some (qmc n,0,()):=by
 obtain⟨c,e,h1,h2,_⟩:=Join7_is (F:=600) (by decide) (a:=n) (b:=n) (w:=q6q 0) (z0k (by decide))
 exact j6c (j8c hn) ⟨_,h1,h2⟩
theorem j8g{w:LI}(hl:w.length=4)(hw:Rg 127 w){bit:Int}(hb:0≤bit∧bit≤1):qx5 600 (w++w) [bit,bit] (q6q 0)=some (sixB w bit,0,()):=by
 rw[rSix_is,iP (j66 hl hw hb)]
 rfl
section
variable {t:LI} (hl:t.length=64) (ht:Rg 2047 t)
include hl ht
theorem j6d{b:Nat}(hb:1≤b∧b≤8)(c:Nat):q2d 600 (lvW b) (colT t c)=some (bN (lvW b) t c,()):=
 zzm ht c (q31 (rg_lvW hb) (by decide)) (by rw[j67];have:=pow_b hb;omega)
theorem rbest_P(c:Nat):q2d 600 lvP (colT t c)=some (bN lvP t c,()):=
 zzm ht c (q31 rg_lvP (by decide)) (by rw[j68];decide)
theorem rbest_S{bit:Int}(hb:0≤bit∧bit≤1)(c:Nat):q2d 600 (lvS bit) (colT t c)=some (bN (lvS bit) t c,()):=
 zzm ht c (q31 (rg_lvS hb) (by decide)) (by rw[j69];decide)
omit ht in
theorem j8h:q23 600 t 0=some (colT t 0,())∧q23 600 t 1=some (colT t 1,())∧q23 600 t 2=some (colT t 2,())∧q23 600 t 3=some (colT t 3,()):=
 ⟨qkf hl (c:=0) (by decide),qkf hl (c:=1) (by decide),qkf hl (c:=2) (by decide),qkf hl (c:=3) (by decide)⟩
omit hl ht in
theorem j8i:q3c 600 4=some (lvW 4,())∧q3c 600 5=some (lvW 5,())∧q3c 600 6=some (lvW 6,())∧q3c 600 7=some (lvW 7,()):=
 ⟨z0l (b:=4) (by decide),z0l (b:=5) (by decide),z0l (b:=6) (by decide),z0l (b:=7) (by decide)⟩
theorem jdn:qpn 600 t=some (hexB (hexN t),()):=by
 obtain⟨p0,p1,p2,p3⟩:=j8h hl
 obtain⟨w4,w5,w6,w7⟩:=j8i
 have b0:=bN_W (b:=5) (by decide) t 0
 have b1:=bN_W (b:=6) (by decide) t 1
 have b2:=bN_W (b:=5) (by decide) t 2
 have e:y0 .i64 (y0 .i64 (y0 .i64 (2048*bN (lvW 5) t 0)+y0 .i64 (32*bN (lvW 6) t 1))+bN (lvW 5) t 2)=hexN t:=by
  rw[w64 (x:=2048*bN (lvW 5) t 0) (by omega) (by omega),w64 (x:=32*bN (lvW 6) t 1) (by omega) (by omega),w64 (x:=2048*bN (lvW 5) t 0+32*bN (lvW 6) t 1) (by omega) (by omega),w64 (by omega) (by omega)]
  unfold hexN
  omega
 unfold qpn
 simp only[p0,p1,p2,w5,w6,y5,j6d hl ht (show 1≤5∧5≤8 by decide),j6d hl ht (show 1≤6∧6≤8 by decide),e]
 rw[show q0a=q6q 0 from rfl,rhexB_is (qre t)]
 simp only[y5]
theorem zb4{c:Nat}(hc:c<4):qfk 600 t (c:Int)=some (qmc (bN lvP t c),()):=by
 unfold qfk
 simp only[rlvP_is,qkf hl hc,rbest_P hl ht,y5]
 rw[show q0a=q6q 0 from rfl,jdm (bN_P t c)]
 simp only[y5]
theorem zcc{bit:Int}(hb:0≤bit∧bit≤1)(x1:LI)(x2:Int)(A:LI)(hA:A.length=4):q6j 600 600 t x1 x2 bit A 0=some (t,x1,x2,bit,siN bit t,()):=by
 refine qeu 4 (fun c=>bN (lvS bit) t c) (fun k w i=>q6j 600 k t x1 x2 bit w i) (fun w=>some (t,x1,x2,bit,w,())) ?_ ?_ A hA 600 (by omega)
 ·intro k i w hi hw
  show qe9 600 (q6j 600 k) _ _ _ _ _ _=_
  unfold qe9
  have h3:(i:Int)<4:=by omega
  simp only[h3,dT,cT,rlvS_is hb,qkf hl (show i<4 by omega),rbest_S hl ht hb,y5,yc,yd,yb,q08 (show i<1000000000000 by omega)]
 ·intro k w hw
  rfl
end
section
variable {t:LI} (hl:t.length=64) (ht:Rg 255 t)
include hl ht
theorem j6e:qs6 600 t=some (j6a 6 t (sixB (siN 0 t) 0) (sixB (siN 1 t) 1),()):=by
 have hr:=q31 (m:=255) (m' :=2047) ht (by decide)
 have s0:=j8g (w:=siN 0 t) (q0f _ _) (qj1 (by decide) fun c _=>bN_S 0 t c) (bit:=0) (by decide)
 have s1:=j8g (w:=siN 1 t) (q0f _ _) (qj1 (by decide) fun c _=>bN_S 1 t c) (bit:=1) (by decide)
 have e0:=zoe (k:=6) (qh6 (siN 0 t) 0).1 fmt6 (qh6 (siN 0 t) 0).2 hl ht
 have e1:=zoe (k:=6) (qh6 (siN 1 t) 1).1 fmt6 (qh6 (siN 1 t) 1).2 hl ht
 simp only[yp]at e0 e1
 have st:∀b n,q3j 600 598 t b n 2=some (b,()):=fun b n=>rfl
 have l1:∀b n,q3j 600 599 t b n 1=some (if qbp 6 (sixB (siN 1 t) 1) t<n then sixB (siN 1 t) 1 else b,()):=by
  intro b n
  show q74 600 (q3j 600 598) _ _ _ _=_
  unfold q74
  rw[zcc hl hr (bit:=1) (by decide) _ _ _ rfl]
  simp only[y5]
  rw[show q0a=q6q 0 from rfl,s1]
  simp only[y5,e1,Int.reduceBEq,cF,show y0 .i64 (1+1)=2 from rfl,st,show decide ((1:Int)<2)=true from rfl,cT]
  by_cases hc:qbp 6 (sixB (siN 1 t) 1) t<n
  ·simp only[hc,dT,cT,if_true]
  ·simp only[hc,dF,cF,if_false]
 have l0:q3j 600 600 t [] 0 0=some (j6a 6 t (sixB (siN 0 t) 0) (sixB (siN 1 t) 1),()):=by
  show q74 600 (q3j 600 599) _ _ _ _=_
  unfold q74
  rw[zcc hl hr (bit:=0) (by decide) _ _ _ rfl]
  simp only[y5]
  rw[show q0a=q6q 0 from rfl,s0]
  simp only[y5,e0,Int.reduceBEq,beq_self_eq_true,cT,show y0 .i64 (0+1)=1 from rfl,l1,show decide ((0:Int)<2)=true from rfl]
  rfl
 unfold qs6
 rw[l0]
 rfl
end
theorem zof{t:LI}(hl:t.length=64)(ht:Rg 255 t):q4r 600 t=some (true,()):=by
 have l2:∀(i:Nat),i<16→∀(d c k:Nat),c+d=4→d<k→q1f 600 k t (i:Int) (c:Int)=some (.inr (t,(i:Int),())):=by
  intro i hi d
  induction d with
  |zero=>
   intro c k h1 h2
   obtain⟨k,rfl⟩:∃k',k=k' +1:=⟨k-1,by omega⟩
   obtain rfl:c=4:=by omega
   rfl
  |succ d ih=>
   intro c k h1 h2
   obtain⟨k,rfl⟩:∃k',k=k' +1:=⟨k-1,by omega⟩
   show q48 600 (q1f 600 k) t i c=_
   unfold q48
   have h3:(i:Int)<16:=by omega
   have h4:(c:Int)<4:=by omega
   have hr:=ht (i*4+c)
   have v1:¬t.getD (i*4+c) 0<0:=by omega
   have v2:¬255<t.getD (i*4+c) 0:=by omega
   simp only[h3,h4,dT,cT,yc,yd,yb,q08 (show c<1000000000000 by omega),v1,v2,dF,cF]
   exact ih (c+1) k (by omega) (by omega)
 have l0:∀(d i k:Nat),i+d=16→d<k→q1g 600 k t (i:Int)=some (.inr ()):=by
  intro d
  induction d with
  |zero=>
   intro i k h1 h2
   obtain⟨k,rfl⟩:∃k',k=k' +1:=⟨k-1,by omega⟩
   obtain rfl:i=16:=by omega
   rfl
  |succ d ih=>
   intro i k h1 h2
   obtain⟨k,rfl⟩:∃k',k=k' +1:=⟨k-1,by omega⟩
   show q49 600 (q1g 600 k) t i=_
   unfold q49
   have h3:(i:Int)<16:=by omega
   have h:=l2 i (by omega) 4 0 600 (by omega) (by omega)
   rw[show((0:Nat):Int)=0 from rfl]at h
   simp only[h3,dT,cT,h,y5,q08 (show i<1000000000000 by omega)]
   exact ih (i+1) k (by omega) (by omega)
 have h:=l0 16 0 600 (by omega) (by omega)
 rw[show((0:Nat):Int)=0 from rfl]at h
 unfold q4r
 rw[h]
 rfl
section
variable {t:LI} (hl:t.length=64) (ht:Rg 255 t)
include hl ht
theorem j6f{k:Nat}(h:Fmt k):q6k 600 (k:Int) t=some (qip k (scT k t),0,()):=by
 have hr:=q31 (m:=255) (m' :=2047) ht (by decide)
 obtain⟨p0,p1,p2,p3⟩:=j8h hl
 obtain⟨w4,w5,w6,w7⟩:=j8i
 have hx:=jdn hl hr
 have r0:=zb4 hl hr (c:=0) (by decide)
 have r1:=zb4 hl hr (c:=1) (by decide)
 have r3:=zb4 hl hr (c:=3) (by decide)
 simp only[yq,Int.natCast_one,yp]at r0 r1 r3
 have ln:∀{n m:Nat},n=8→m=8→decide (n+m≤1099511627776)=true:=fun h1 h2=>by rw[h1,h2];rfl
 have go:∀k:Nat,Fmt k→qmy 600 (k:Int)=some (((q29 k:Int),qr8 k,z39 k,()),0,())∧qfj 600 (k:Int) t=some (scT k t,()):=fun k h=>⟨by rw[(j8b 600 _).1,zzb 600 h],j3t h hl ht⟩
 have bw:=zof hl ht
 refine qhw (p:=fun k=>q6k 600 (k:Int) t=some (qip k (scT k t),0,())) ?_ ?_ ?_ ?_ ?_ ?_ h
 ·have g:=go 1 ⟨by decide,by decide⟩
  simp only[Int.natCast_one]at g⊢
  unfold q6k
  simp only[g.1,g.2,bw,y5,bne_self_eq_false,cF,Bool.not_true,Int.reduceBEq,beq_self_eq_true,cT,hx]
  rfl
 ·have g:=go 2 ⟨by decide,by decide⟩
  have f2:=ja0 (n:=bN (lvW 4) t 3) (bN_W (b:=4) (by decide) t 3)
  simp only[yp]at g⊢
  unfold q6k
  simp only[g.1,g.2,bw,y5,bne_self_eq_false,cF,Bool.not_true,Int.reduceBEq,beq_self_eq_true,cT,hx,w4,p3,j6d hl hr (show 1≤4∧4≤8 by decide),rall_is,f2,ln (qzp _).2 (qtd _).2,yd]
  rfl
 ·have g:=go 3 ⟨by decide,by decide⟩
  simp only[yp]at g⊢
  unfold q6k
  simp only[g.1,g.2,bw,y5,bne_self_eq_false,cF,Bool.not_true,Int.reduceBEq,beq_self_eq_true,cT,hx,r3,ln (q83 _).2 (qtd _).2,yd]
  rfl
 ·have g:=go 4 ⟨by decide,by decide⟩
  simp only[yp]at g⊢
  unfold q6k
  simp only[g.1,g.2,bw,y5,bne_self_eq_false,cF,Bool.not_true,Int.reduceBEq,beq_self_eq_true,cT,r0]
  rfl
 ·have g:=go 5 ⟨by decide,by decide⟩
  simp only[yp]at g⊢
  unfold q6k
  simp only[g.1,g.2,bw,y5,bne_self_eq_false,cF,Bool.not_true,Int.reduceBEq,beq_self_eq_true,cT,r0,r1,ln (q83 _).2 (q83 _).2,yd]
  rfl
 ·have g:=go 6 ⟨by decide,by decide⟩
  simp only[yp]at g⊢
  unfold q6k
  simp only[g.1,g.2,bw,y5,bne_self_eq_false,cF,Bool.not_true,Int.reduceBEq,beq_self_eq_true,cT,j6e hl ht]
  rfl
end
def farV(n:Nat)(a b:LI):Int:=sumN (fun c=>(a.getD c 0-b.getD c 0)*(a.getD c 0-b.getD c 0)) n
theorem ja1{a b:LI}(ha:Rg 255 a)(hb:Rg 255 b){n:Nat}(hn:n≤4):∀(d c k:Nat),c+d=n→d<k→q9w 600 k a b (farV c a b) (n:Int) (c:Int)=some (farV n a b,()):=by
 intro d
 induction d with
 |zero=>
  intro c k h1 h2
  obtain⟨k,rfl⟩:∃k',k=k' +1:=⟨k-1,by omega⟩
  obtain rfl:c=n:=by omega
  show qav 600 (q9w 600 k) a b (farV c a b) c c=_
  unfold qav
  simp only[yt,dF,cF]
 |succ d ih=>
  intro c k h1 h2
  obtain⟨k,rfl⟩:∃k',k=k' +1:=⟨k-1,by omega⟩
  show qav 600 (q9w 600 k) a b (farV c a b) n c=_
  unfold qav
  have h3:(c:Int)<(n:Int):=by omega
  have h4:(c:Int)<4:=by omega
  have b1:=ha c
  have b2:=hb c
  have b3:=q77 (n:=c) (f:=fun c=>(a.getD c 0-b.getD c 0)*(a.getD c 0-b.getD c 0)) (m:=255*255) fun j _=>q6v (by have:=ha j;have:=hb j;omega)
  have b4:=q6v (x:=a.getD c 0-b.getD c 0) (m:=255) (by omega)
  have nx:=ih (c+1) k (by omega) (by omega)
  have e1:y0 .i64 (a.getD c 0-b.getD c 0)=a.getD c 0-b.getD c 0:=w64 (by omega) (by omega)
  have e2:y0 .i64 ((a.getD c 0-b.getD c 0)*(a.getD c 0-b.getD c 0))=(a.getD c 0-b.getD c 0)*(a.getD c 0-b.getD c 0):=w64 (by omega) (by omega)
  have b5:(255*255:Int)*(c:Int)≤255*255*4:=Int.mul_le_mul_of_nonneg_left (by omega) (by decide)
  have e3:y0 .i64 (farV c a b+(a.getD c 0-b.getD c 0)*(a.getD c 0-b.getD c 0))=farV (c+1) a b:=by
   unfold farV
   rw[w64 (by omega) (by omega)]
   rfl
  simp only[h3,h4,dT,cT,yc,yd,yb,e1,e2,e3,q08 (show c<1000000000000 by omega)]
  exact nx
theorem j8j{a b:LI}(ha:Rg 255 a)(hb:Rg 255 b){n:Nat}(hn:n≤4):ql5 600 a b (n:Int)=some (farV n a b,()):=by
 unfold ql5
 have:=ja1 ha hb hn n 0 600 (by omega) (by omega)
 rw[show farV 0 a b=0 from rfl,show((0:Nat):Int)=0 from rfl]at this
 rw[this]
 rfl
theorem qfy{a b:LI}(ha:Rg 255 a)(hb:Rg 255 b)(n:Nat):0≤farV n a b:=
 (q77 (n:=n) (m:=255*255) fun j _=>q6v (by have:=ha j;have:=hb j;omega)).1
theorem qhz{a b:LI}(ha:Rg 255 a)(hb:Rg 255 b){n:Nat}:farV n a b=0↔∀c,c<n→a.getD c 0=b.getD c 0:=by
 unfold farV
 rw[qm5 fun j _=>(q6v (m:=255) (by have:=ha j;have:=hb j;omega)).1]
 exact forall_congr' fun c=>forall_congr' fun _=>by rw[sq_zero];omega
theorem jdo{N:Nat}(hN:1≤N∧N≤500){f:Nat→Int}{L:Nat→Int→Int→Option (Int×Unit)}
  (hL:∀(k s i:Nat),s<N→i<N→L (k+1) s i=cond (decide (f i<f s)) (L k i ((i+1:Nat):Int)) (L k s ((i+1:Nat):Int))) (hE:∀k s:Nat,L (k+1) s (N:Int)=some ((s:Int),())):L 600 0 0=some ((q3d f N:Int),()):=by
 have key:∀(d i k:Nat),i+d=N→d<k→L k (q3d f i:Int) (i:Int)=some ((q3d f N:Int),()):=by
  intro d
  induction d with
  |zero=>
   intro i k h1 h2
   obtain⟨k,rfl⟩:∃k',k=k' +1:=⟨k-1,by omega⟩
   obtain rfl:i=N:=by omega
   exact hE _ _
  |succ d ih=>
   intro i k h1 h2
   obtain⟨k,rfl⟩:∃k',k=k' +1:=⟨k-1,by omega⟩
   have hlt:q3d f i<N:=by
    by_cases hi:i=0
    ·subst hi
     show 0<N
     omega
    ·have:=qm6 f (n:=i) (by omega)
     omega
   have nx:=ih (i+1) k (by omega) (by omega)
   rw[show q3d f (i+1)=if i=0 then 0 else if f i<f (q3d f i)then i else q3d f i from rfl]at nx
   rw[hL k _ i hlt (by omega)]
   by_cases hi:i=0
   ·subst hi
    rw[iP rfl]at nx
    rw[show q3d f 0=0 from rfl]
    simp only[yt,dF,cF]
    exact nx
   ·rw[iN hi]at nx
    by_cases hc' :f i<f (q3d f i)
    ·rw[iP hc']at nx
     simp only[hc',dT,cT]
     exact nx
    ·rw[iN hc']at nx
     simp only[hc',dF,cF]
     exact nx
 exact key N 0 600 (by omega) (by omega)
def rowP(p:LI)(i:Nat):LI:=y8 4 (y9 (i*4) p)
theorem q5t{m:Int}(hm:0≤m){p:LI}(h:Rg m p)(i:Nat):Rg m (rowP p i):=by
 intro j
 by_cases hj:j<4
 ·have:(rowP p i).getD j 0=p.getD (i*4+j) 0:=(z7b p hj).symm
  rw[this]
  exact h _
 ·have hl:(rowP p i).length≤j:=by unfold rowP;rw[List.length_take];omega
  rw[qnz hl]
  omega
theorem q2l{p:LI}{i c:Nat}(hc:c<4):(rowP p i).getD c 0=p.getD (i*4+c) 0:=(z7b p hc).symm
theorem nearH_is{p x:LI}(hp:p.length=16)(hr:Rg 255 p)(hx:Rg 255 x):q2a 600 p x=some ((q3d (fun i=>farV 3 x (rowP p i)) 4:Int),()):=by
 have hl:ya p/4=4:=by omega
 have c1:∀i:Nat,qhk 600 (y8 4 (y9 (i*4) p)) x=some (farV 3 x (rowP p i),()):=fun i=>by
  unfold qhk
  have:=j8j hx (q5t (by decide) hr i) (n:=3) (by omega)
  rw[show(3:Int)=((3:Nat):Int)from rfl,show y8 4 (y9 (i*4) p)=rowP p i from rfl,this]
  rfl
 unfold q2a
 rw[hl]
 have:=jdo (N:=4) (by omega) (f:=fun i=>farV 3 x (rowP p i)) (L:=fun k s i=>q0d 600 k p x s ((4:Nat):Int) i) (fun k s i hs hi=>by
  show q0n 600 (q0d 600 k) p x s _ i=_
  unfold q0n
  rw[hl]
  have h1:(i:Int)<((4:Nat):Int):=by omega
  have h2:(s:Int)<((4:Nat):Int):=by omega
  simp only[h1,h2,dT,cT,yc,yd,yb,c1,y5,q08 (show i<1000000000000 by omega)]) (fun k s=>by
  show q0n 600 (q0d 600 k) p x s _ _=_
  unfold q0n
  simp only[yt,dF,cF])
 rw[this]
 rfl
theorem nearS_is{p x:LI}(hp:p.length=64)(hr:Rg 255 p)(hx:Rg 255 x):q19 600 p x=some ((q3d (fun i=>farV 4 x (rowP p i)) 16:Int),()):=by
 have hl:ya p/4=16:=by omega
 have c1:∀i:Nat,qhm 600 (y8 4 (y9 (i*4) p)) x=some (farV 4 x (rowP p i),()):=fun i=>by
  unfold qhm
  have:=j8j hx (q5t (by decide) hr i) (n:=4) (by omega)
  rw[show(4:Int)=((4:Nat):Int)from rfl,show y8 4 (y9 (i*4) p)=rowP p i from rfl,this]
  rfl
 unfold q19
 rw[hl]
 have:=jdo (N:=16) (by omega) (f:=fun i=>farV 4 x (rowP p i)) (L:=fun k s i=>q0e 600 k p x s ((16:Nat):Int) i) (fun k s i hs hi=>by
  show q0o 600 (q0e 600 k) p x s _ i=_
  unfold q0o
  rw[hl]
  have h1:(i:Int)<((16:Nat):Int):=by omega
  have h2:(s:Int)<((16:Nat):Int):=by omega
  simp only[h1,h2,dT,cT,yc,yd,yb,c1,y5,q08 (show i<1000000000000 by omega)]) (fun k s=>by
  show q0o 600 (q0e 600 k) p x s _ _=_
  unfold q0o
  simp only[yt,dF,cF])
 rw[this]
 rfl
theorem nearR_is{p:LI}(hp:p.length=8)(hr:Rg 255 p){x:Int}(hx:0≤x∧x≤255):q1k 600 p x=some ((q3d (fun i=>(p.getD i 0-x)*(p.getD i 0-x)) 8:Int),()):=by
 have c1:∀i:Nat,q87 600 (p.getD i 0) x=some ((p.getD i 0-x)*(p.getD i 0-x),()):=fun i=>by
  unfold q87
  have:=hr i
  have b4:=q6v (x:=p.getD i 0-x) (m:=255) (by omega)
  have e1:y0 .i64 (p.getD i 0-x)=p.getD i 0-x:=w64 (by omega) (by omega)
  have e2:y0 .i64 ((p.getD i 0-x)*(p.getD i 0-x))=(p.getD i 0-x)*(p.getD i 0-x):=w64 (by omega) (by omega)
  simp only[e1,e2]
 unfold q1k
 rw[hp]
 have:=jdo (N:=8) (by omega) (f:=fun i=>(p.getD i 0-x)*(p.getD i 0-x)) (L:=fun k s i=>q0j 600 k p x s ((8:Nat):Int) i) (fun k s i hs hi=>by
  show q0r 600 (q0j 600 k) p x s _ i=_
  unfold q0r
  rw[hp]
  have h1:(i:Int)<((8:Nat):Int):=by omega
  have h2:(s:Int)<((8:Nat):Int):=by omega
  simp only[h1,h2,dT,cT,yc,yd,yb,c1,y5,q08 (show i<1000000000000 by omega)]) (fun k s=>by
  show q0r 600 (q0j 600 k) p x s _ _=_
  unfold q0r
  simp only[yt,dF,cF])
 rw[this]
 rfl
def hexW(t p:LI):LI:=tab 16 fun i=>(q3d (fun j=>farV 3 (rowP t i) (rowP p j)) 4:Int)
theorem jdp(t p:LI):∀j,j<16→okW 2 (hexW t p) j:=fun j hj=>by
 unfold okW hexW
 rw[q0g hj]
 have:=qm6 (fun j' =>farV 3 (rowP t j) (rowP p j')) (n:=4) (by decide)
 omega
def twoB(t:LI)(a b:Int)(four:Bool):LI:=qa7 (a+b*2^16) 32 2 (hexW t (palV a b four))
theorem zh2(t:LI)(a b:Int)(four:Bool):Okb 8 (twoB t a b four):=⟨q4t _ _ _ _,q90 _ _ _ _⟩
theorem ja2{t p:LI}(hp:p.length=16)(hr:Rg 255 p)(ht:Rg 255 t)(a b:Int):∀(d i k:Nat),i+d=16→d<k→
  q9x 600 k a b p (tab 16 (upT i fun i=>(q3d (fun j=>farV 3 (rowP t i) (rowP p j)) 4:Int))) t (i:Int)=some (a,b,hexW t p,()):=by
 intro d
 induction d with
 |zero=>
  intro i k h1 h2
  obtain⟨k,rfl⟩:∃k',k=k' +1:=⟨k-1,by omega⟩
  obtain rfl:i=16:=by omega
  rw[qio]
  rfl
 |succ d ih=>
  intro i k h1 h2
  obtain⟨k,rfl⟩:∃k',k=k' +1:=⟨k-1,by omega⟩
  show qju 600 (q9x 600 k) a b p _ t i=_
  unfold qju
  have h3:(i:Int)<16:=by omega
  have nr:=nearH_is hp hr (x:=y8 4 (y9 (i*4) t)) (q5t (by decide) ht i)
  simp only[h3,dT,cT,yc,yd,yb,nr,y5,q08 (show i<1000000000000 by omega)]
  have nx:=ih (i+1) k (by omega) (by omega)
  rw[←qfx]at nx
  exact nx
theorem joinH{a b:Int}(ha:0≤a∧a≤65535)(hb:0≤b∧b≤65535){w:LI}(hl:w.length=16)(hw:∀j,j<16→okW 2 w j):q44 600 a b w=some (qa7 (a+b*2^16) 32 2 w,0,()):=
 zz4 (F:=600) (by decide) ha hb (fun j=>by
  by_cases hj:j<16
  ·have:=hw j hj
   unfold okW at this
   omega
  ·rw[qnz (l:=w) (by omega)]
   decide) hw
theorem hex15_of{t p w:LI}{a b:Int}{four:Bool}(h1:qae 600 a b four=some (p,()))(h2:q9x 600 600 a b p q21 t 0=some (a,b,w,())){c:LI}(h3:q44 600 a b w=some (c,0,())):qpp 600 t a b four=some (c,()):=by
 unfold qpp
 simp only[h1,h2,h3,y5]
theorem j8k{t:LI}(ht:Rg 255 t){a b:Int}(ha:0≤a∧a≤65535)(hb:0≤b∧b≤65535)(four:Bool):qpp 600 t a b four=some (twoB t a b four,()):=by
 have h0:=ja2 (qnx a b four) (j5y a b four) ht a b 16 0 600 (by decide) (by decide)
 rw[q9a]at h0
 exact hex15_of (zas (F:=600) (by decide) ha hb four).1 h0 (joinH ha hb (q0f _ _) (jdp t _))
theorem jdq(n:Nat)(a b:LI):farV n a b=farV n b a:=by
 unfold farV
 refine z0g fun c _=> ?_
 rw[show a.getD c 0-b.getD c 0= -(b.getD c 0-a.getD c 0) by omega,Int.neg_mul_neg]
theorem jdr(n:Nat)(a:LI):farV n a a=0:=by
 unfold farV
 rw[z0g (g:=fun _=>0) fun c _=>by rw[Int.sub_self];rfl]
 induction n with
 |zero=>rfl
 |succ n ih=>show sumN _ n+0=0;omega
theorem zb5{n:Nat}(hn:n≤4)(z1 z2:LI):∀(l:List (LI×LI)) (p q:LI),(∀x∈l,Rg 255 x.1∧Rg 255 x.2)→Rg 255 p→Rg 255 q→
  ∃p' q',runL (DX:=Unit) (fun x=>u5 (q8z 600 x)) l ((n:Int),z1,z2,p,q,())=some (.inl ((n:Int),z1,z2,p',q',()))∧((p',q')=(p,q)∨(p',q')∈l)∧farV n p q≤farV n p' q' ∧∀x∈l,farV n x.1 x.2≤farV n p' q'
 |[],p,q,_,hp,hq=>⟨p,q,rfl,.inl rfl,Int.le_refl _,fun x hx=>by cases hx⟩
 |x::l,p,q,hl,hp,hq=>by
  obtain⟨hx1,hx2⟩:=hl x (by simp)
  have e1:=j8j hx1 hx2 hn
  have e2:=j8j hp hq hn
  have hl' :∀y∈l,Rg 255 y.1∧Rg 255 y.2:=fun y hy=>hl y (by simp[hy])
  by_cases h:farV n p q<farV n x.1 x.2
  ·obtain⟨p',q',g1,g2,g3,g4⟩:=zb5 hn z1 z2 l x.1 x.2 hl' hx1 hx2
   refine⟨p',q',?_,?_,by omega,fun y hy=> ?_⟩
   ·unfold runL
    simp only[u5,u4,u3,u2,u1,u0,q8z,e1,e2,y5,h,dT,cT]
    exact g1
   ·rcases g2 with g2|g2
    ·exact .inr (by rw[g2];simp)
    ·exact .inr (by simp[g2])
   ·rcases yr.1 hy with rfl|hy
    ·exact g3
    ·exact g4 y hy
  ·obtain⟨p',q',g1,g2,g3,g4⟩:=zb5 hn z1 z2 l p q hl' hp hq
   refine⟨p',q',?_,?_,g3,fun y hy=> ?_⟩
   ·unfold runL
    simp only[u5,u4,u3,u2,u1,u0,q8z,e1,e2,y5,h,dF,cF]
    exact g1
   ·rcases g2 with g2|g2
    ·exact .inl g2
    ·exact .inr (by simp[g2])
   ·rcases yr.1 hy with rfl|hy
    ·omega
    ·exact g4 y hy
theorem zzn(t:LI)(i:Nat):txt t i=rowP t i:=by unfold txt rowP;rw[Nat.mul_comm]
theorem ja3{t:LI}{x:LI×LI}(h:x∈zt7 t):∃i j,i<16∧j<16∧x=(rowP t i,rowP t j):=by
 unfold zt7 at h
 obtain⟨i,hi,h⟩:=List.mem_flatMap.1 h
 obtain⟨j,hj,rfl⟩:=List.mem_map.1 h
 rw[List.mem_range]at hi hj
 exact⟨i,i+1+j,hi,by omega,by rw[zzn,zzn]⟩
theorem ja4{t:LI}{i j:Nat}(hij:i<j)(hj:j<16):(rowP t i,rowP t j)∈zt7 t:=by
 unfold zt7
 refine List.mem_flatMap.2 ⟨i,List.mem_range.2 (by omega),List.mem_map.2 ⟨j-(i+1),List.mem_range.2 (by omega),?_⟩⟩
 rw[zzn,zzn,show i+1+(j-(i+1))=j by omega]
theorem pairs_l(t:LI):∃l,qgr 600 t=some l∧(∀x∈l,∃i j,i<16∧j<16∧x=(rowP t i,rowP t j))∧∀i j,i<j→j<16→(rowP t i,rowP t j)∈l:=
 ⟨zt7 t,rfl,fun x h=>ja3 h,fun i j h1 h2=>ja4 h1 h2⟩
theorem jds{t p q r:LI}{n:Int}{l:List (LI×LI)}(hl:qgr 600 t=some l)(hr:y8 4 t=r)
  (h:runL (DX:=Unit) (fun x=>u5 (q8z 600 x)) l (n,[(0:Int),(0:Int),(0:Int),(0:Int)],[(0:Int),(0:Int),(0:Int),(0:Int)],r,r,())=some (.inl (n,[(0:Int),(0:Int),(0:Int),(0:Int)],[(0:Int),(0:Int),(0:Int),(0:Int)],p,q,()))):q7e 600 t n=some (p,q,()):=by
 unfold q7e
 simp only[hl,hr,h,y5]
theorem j3w{t:LI}(ht:Rg 255 t){n:Nat}(hn:n≤4):∃i j,i<16∧j<16∧q7e 600 t (n:Int)=some (rowP t i,rowP t j,())∧∀i' j',i' <16→j' <16→farV n (rowP t i') (rowP t j')≤farV n (rowP t i) (rowP t j):=by
 have r0:y8 4 t=rowP t 0:=by unfold rowP;rw[Nat.zero_mul,List.drop_zero]
 have hr:∀i,Rg 255 (rowP t i):=fun i=>q5t (by decide) ht i
 obtain⟨l,hl,hm,ha⟩:=pairs_l t
 obtain⟨p,q,g1,g2,g3,g4⟩:=zb5 hn [(0:Int),(0:Int),(0:Int),(0:Int)] [(0:Int),(0:Int),(0:Int),(0:Int)] l (rowP t 0) (rowP t 0)
  (fun x hx=>by
   obtain⟨i,j,_,_,rfl⟩:=hm x hx
   exact⟨hr i,hr j⟩) (hr 0) (hr 0)
 have hw:=jds hl r0 g1
 have key:∃i j,i<16∧j<16∧p=rowP t i∧q=rowP t j:=by
  rcases g2 with g2|g2
  ·exact⟨0,0,by decide,by decide,(Prod.mk.inj g2).1,(Prod.mk.inj g2).2⟩
  ·obtain⟨i,j,hi,hj,e⟩:=hm _ g2
   exact⟨i,j,hi,hj,(Prod.mk.inj e).1,(Prod.mk.inj e).2⟩
 obtain⟨i,j,hi,hj,rfl,rfl⟩:=key
 refine⟨i,j,hi,hj,hw,fun i' j' hi' hj' => ?_⟩
 rcases Nat.lt_trichotomy i' j' with h|h|h
 ·exact g4 (rowP t i',rowP t j') (ha i' j' h hj')
 ·subst h
  rw[jdr]
  exact qfy (hr i) (hr j) n
 ·rw[jdq]
  exact g4 (rowP t j',rowP t i') (ha j' i' h hi')
def InvB(k:Nat)(t b:LI)(n:Int):Prop:=Okb (q29 k) b∧n=qbp k b t
def AhdB(k:Nat)(ah:LI):Prop:=Bytes ah∧ah.length+8=q29 k
section
variable {k:Nat} (hk:Fmt k) {t:LI} (tl:t.length=64) (tr:Rg 255 t)
include hk tl tr
theorem z0m{b:LI}{n:Int}{new:LI}(hI:InvB k t b n)(hn:Okb (q29 k) new):∃f b' n',q0p 600 b (k:Int) t n new=some (f,(k:Int),t,b',n',())∧InvB k t b' n' ∧n' ≤n∧n' ≤qbp k new t:=by
 have e:=z0i hn.1 hk hn.2 tl tr
 unfold q0p
 rw[e]
 simp only[y5,bne_self_eq_false,cF]
 by_cases hlt:n≤qbp k new t
 ·exact⟨false,b,n,by simp only[hlt,dT,cT],hI,Int.le_refl _,hlt⟩
 ·exact⟨true,new,qbp k new t,by simp only[hlt,dF,cF],⟨hn,rfl⟩,by omega,Int.le_refl _⟩
abbrev Rn(n:Int):Prop:=0≤n∧n≤65535
theorem jdt{ah:LI}(ha:AhdB k ah)(four:Bool){b:LI}{n:Int}(hI:InvB k t b n){x y:Int}(hx:Rn x)(hy:Rn y):∃f b' n',q0h 600 x y b (k:Int) t n ah t four=some (f,(k:Int),t,b',n',())∧InvB k t b' n' ∧n' ≤n∧n' ≤qbp k (ah++twoB t x y four) t:=by
 have l8:∀x y,(twoB t x y four).length=8:=fun x y=>(zh2 t x y four).2
 have ok:∀x y,Okb (q29 k) (ah++twoB t x y four):=fun x y=>⟨fun z hz=>(yk.1 hz).elim (ha.1 z) ((zh2 t x y four).1 z),by rw[yo,l8];exact ha.2⟩
 obtain⟨f1,b1,n1,s1,i1,m1,e1⟩:=z0m hk tl tr hI (ok x y)
 obtain⟨f2,b2,n2,s2,i2,m2,e2⟩:=z0m hk tl tr i1 (ok y x)
 have hb:=z0f k
 have hal:ah.length≤8:=by have:=ha.2;omega
 have v0:(0:Int)≤((ah.length:Nat):Int):=yc _
 have c1:(ah.length+8≤1099511627776):=by omega
 unfold q0h
 simp only[j8k tr hx hy four,j8k tr hy hx four,l8,y5,yc,dT,yd,yb,wa,List.take_length,c1,cT,s1,s2,show decide (0<8)=true from rfl]
 cases f1
 ·exact⟨f2,b2,n2,rfl,i2,by omega,by omega⟩
 ·exact⟨true,b2,n2,rfl,i2,by omega,by omega⟩
end
abbrev Rec2:=LI→Int→LI→Int→Int→LI→LI→Bool→Int→Int→Int→Int→Bool→LI→Int→Option (LI×Int×LI×Int×Int×LI×LI×Bool×Int×Int×Int×Int×Bool×Unit)
def ja5(rec:Rec2)(x0:LI)(x1:Int)(x2:LI)(x3 x4:Int)(x5 x6:LI)(x7:Bool)(x8 x9 x10 x11:Int)(x12:Bool)(x13:LI)(i v:Int):Option (LI×Int×LI×Int×Int×LI×LI×Bool×Int×Int×Int×Int×Bool×Unit):=
 cond (decide ((0:Int)≤v))
  (cond ((ishr .i64 v (16:Int))==(0:Int))
   ((q0h 600 x8 v x0 x1 x2 x3 x5 x6 x7).bind fun r=>
   cond r.1
    (rec r.2.2.2.1 r.2.1 r.2.2.1 r.2.2.2.2.1 x4 x5 x6 x7 x8 v x10 x11 x12 x13 i)
    (rec r.2.2.2.1 r.2.1 r.2.2.1 r.2.2.2.2.1 x4 x5 x6 x7 x8 x9 x10 x11 x12 x13 i))
   (rec x0 x1 x2 x3 x4 x5 x6 x7 x8 x9 x10 x11 x12 x13 i))
  (rec x0 x1 x2 x3 x4 x5 x6 x7 x8 x9 x10 x11 x12 x13 i)
theorem l2S_eq(rec:Rec2)(x0:LI)(x1:Int)(x2:LI)(x3 x4:Int)(x5 x6:LI)(x7:Bool)(x8 x9 x10 x11:Int)(x12:Bool)(x13:LI)(x14:Int):
  q4i 600 rec x0 x1 x2 x3 x4 x5 x6 x7 x8 x9 x10 x11 x12 x13 x14=
  cond (decide (x14<(6:Int)))
   (cond ((decide ((0:Int)≤x14))&&(decide (x14<(6:Int))))
    (cond (decide ((0:Int)≤y0 .i64 (x8+y7 x13 (y6 x14) (0:Int))))
     (cond ((ishr .i64 (y0 .i64 (x8+y7 x13 (y6 x14) (0:Int))) (16:Int))==(0:Int))
      ((q0h 600 (y0 .i64 (x8+y7 x13 (y6 x14) (0:Int))) x9 x0 x1 x2 x3 x5 x6 x7).bind fun r=>
      cond r.1
       (ja5 rec r.2.2.2.1 r.2.1 r.2.2.1 r.2.2.2.2.1 x4 x5 x6 x7 (y0 .i64 (x8+y7 x13 (y6 x14) (0:Int))) x9 x10 x11 x12 x13 (y0 .i64 (x14+(1:Int))) (y0 .i64 (x9+y7 x13 (y6 x14) (0:Int))))
       (ja5 rec r.2.2.2.1 r.2.1 r.2.2.1 r.2.2.2.2.1 x4 x5 x6 x7 x8 x9 x10 x11 x12 x13 (y0 .i64 (x14+(1:Int))) (y0 .i64 (x9+y7 x13 (y6 x14) (0:Int)))))
      (ja5 rec x0 x1 x2 x3 x4 x5 x6 x7 x8 x9 x10 x11 x12 x13 (y0 .i64 (x14+(1:Int))) (y0 .i64 (x9+y7 x13 (y6 x14) (0:Int)))))
     (ja5 rec x0 x1 x2 x3 x4 x5 x6 x7 x8 x9 x10 x11 x12 x13 (y0 .i64 (x14+(1:Int))) (y0 .i64 (x9+y7 x13 (y6 x14) (0:Int)))))
    none)
   (some (x0,x1,x2,x3,x4,x5,x6,x7,x8,x9,x10,x11,x12,())):=rfl
theorem hex16{v:Int}(h: -9223372036854775808≤v∧v≤9223372036854775807):(∃g,(decide ((0:Int)≤v))=g∧(g=true→∃s,((ishr .i64 v (16:Int))==(0:Int))=s∧(s=true→Rn v))):=by
 refine⟨_,rfl,fun hg=>⟨_,rfl,fun hs=> ?_⟩⟩
 have h0:0≤v:=of_decide_eq_true hg
 rw[show(16:Int)=((16:Nat):Int)from rfl,jcq (by omega)]at hs
 have h1:v/2^16=0:=by simpa using hs
 exact⟨h0,by omega⟩
section
variable {k:Nat} (hk:Fmt k) {t:LI} (tl:t.length=64) (tr:Rg 255 t) {ah:LI} (ha:AhdB k ah) (four:Bool)
include hk tl tr ha
def zzo(k:Nat)(t:LI)(n:Int)(s:LI×Int×Int×Int):Prop:=InvB k t s.1 s.2.1∧s.2.1≤n∧Rn s.2.2.1∧Rn s.2.2.2
theorem j8l(rec:Rec2){n:Int}{s:LI×Int×Int×Int}(hs:zzo k t n s)(eff x10 x11:Int)(x12:Bool)(x13:LI)(i:Int){v:Int}(hv: -9223372036854775808≤v∧v≤9223372036854775807):
  ∃s',zzo k t n s' ∧ja5 rec s.1 (k:Int) t s.2.1 eff ah t four s.2.2.1 s.2.2.2 x10 x11 x12 x13 i v=rec s'.1 (k:Int) t s'.2.1 eff ah t four s'.2.2.1 s'.2.2.2 x10 x11 x12 x13 i:=by
 obtain⟨i1,i2,i3,i4⟩:=hs
 obtain⟨g,hg,hg2⟩:=hex16 hv
 unfold ja5
 rw[hg]
 cases g
 ·exact⟨s,⟨i1,i2,i3,i4⟩,rfl⟩
 ·obtain⟨g2,hs2,hs3⟩:=hg2 rfl
  rw[hs2]
  cases g2
  ·exact⟨s,⟨i1,i2,i3,i4⟩,rfl⟩
  ·have hr:=hs3 rfl
   obtain⟨f,b',n',e,j1,j2,_⟩:=jdt hk tl tr ha four i1 i3 hr
   simp only[cT,e,y5]
   cases f
   ·exact⟨(b',n',s.2.2.1,s.2.2.2),⟨j1,Int.le_trans j2 i2,i3,i4⟩,rfl⟩
   ·exact⟨(b',n',s.2.2.1,v),⟨j1,Int.le_trans j2 i2,i3,hr⟩,rfl⟩
theorem j6g{i:Nat}: -2048≤bcfit_stepsT256328.getD i 0∧bcfit_stepsT256328.getD i 0≤2048:=by
 rcases i with _|_|_|_|_|_|i
 all_goals first|decide|skip
 rw[ye,w9 (by simp[bcfit_stepsT256328])]
 decide
theorem j3x{n:Int}{s:LI×Int×Int×Int}(hs:zzo k t n s)(eff x10 x11:Int)(x12:Bool):∃r,(∃s',zzo k t n s' ∧r=(s'.1,(k:Int),t,s'.2.1,eff,ah,t,four,s'.2.2.1,s'.2.2.2,x10,x11,x12,()))∧
  q0b 600 600 s.1 (k:Int) t s.2.1 eff ah t four s.2.2.1 s.2.2.2 x10 x11 x12 bcfit_stepsT256328 0=some r:=by
 refine qcj (N:=6) (by decide) (fun q (s:LI×Int×Int×Int) i=>q0b 600 q s.1 (k:Int) t s.2.1 eff ah t four s.2.2.1 s.2.2.2 x10 x11 x12 bcfit_stepsT256328 i) (fun _ s=>zzo k t n s)
  (fun r=>∃s',zzo k t n s' ∧r=(s'.1,(k:Int),t,s'.2.1,eff,ah,t,four,s'.2.2.1,s'.2.2.2,x10,x11,x12,())) (fun q i s hi hs=> ?_) (fun q s hs=>⟨_,⟨s,hs,rfl⟩,rfl⟩) hs
 have h3:(i:Int)<6:=by omega
 have sb:=j6g hk tl tr ha (i:=i)
 obtain⟨i1,i2,i3,i4⟩:=hs
 have w1:y0 .i64 (s.2.2.1+bcfit_stepsT256328.getD i 0)=s.2.2.1+bcfit_stepsT256328.getD i 0:=w64 (by have:=i3;omega) (by have:=i3;omega)
 have w2:y0 .i64 (s.2.2.2+bcfit_stepsT256328.getD i 0)=s.2.2.2+bcfit_stepsT256328.getD i 0:=w64 (by have:=i4;omega) (by have:=i4;omega)
 have b1: -9223372036854775808≤s.2.2.1+bcfit_stepsT256328.getD i 0∧s.2.2.1+bcfit_stepsT256328.getD i 0≤9223372036854775807:=by have:=i3;omega
 have b2: -9223372036854775808≤s.2.2.2+bcfit_stepsT256328.getD i 0∧s.2.2.2+bcfit_stepsT256328.getD i 0≤9223372036854775807:=by have:=i4;omega
 show∃s',zzo k t n s' ∧q4i 600 (q0b 600 q) s.1 (k:Int) t s.2.1 eff ah t four s.2.2.1 s.2.2.2 x10 x11 x12 bcfit_stepsT256328 (i:Int)=q0b 600 q s'.1 (k:Int) t s'.2.1 eff ah t four s'.2.2.1 s'.2.2.2 x10 x11 x12 bcfit_stepsT256328 ((i+1:Nat):Int)
 rw[l2S_eq]
 simp only[h3,dT,cT,yc,yd,yb,w1,w2,q08 (show i<1000000000000 by omega)]
 obtain⟨g,hg,hg2⟩:=hex16 b1
 rw[hg]
 cases g
 ·exact j8l hk tl tr ha four (q0b 600 q) (s:=s) ⟨i1,i2,i3,i4⟩ eff x10 x11 x12 _ _ b2
 ·obtain⟨g2,hs2,hs3⟩:=hg2 rfl
  rw[hs2]
  cases g2
  ·exact j8l hk tl tr ha four (q0b 600 q) (s:=s) ⟨i1,i2,i3,i4⟩ eff x10 x11 x12 _ _ b2
  ·have hr:=hs3 rfl
   obtain⟨f,b',n',e,j1,j2,_⟩:=jdt hk tl tr ha four i1 hr i4
   simp only[cT,e,y5]
   cases f
   ·exact j8l hk tl tr ha four (q0b 600 q) (s:=(b',n',s.2.2.1,s.2.2.2)) ⟨j1,by show n' ≤n;omega,i3,i4⟩ eff x10 x11 x12 _ _ b2
   ·exact j8l hk tl tr ha four (q0b 600 q) (s:=(b',n',s.2.2.1+bcfit_stepsT256328.getD i 0,s.2.2.2)) ⟨j1,by show n' ≤n;omega,hr,i4⟩ eff x10 x11 x12 _ _ b2
theorem j3y{n:Int}{s:LI×Int×Int×Int}(hs:zzo k t n s)(eff:Int):∃b' n',q0y 600 600 s.1 (k:Int) t s.2.1 eff ah t four s.2.2.1 s.2.2.2 0=some (b',(k:Int),t,n',())∧InvB k t b' n' ∧n' ≤n:=by
 have h:∃r,(∃b' n',r=(b',(k:Int),t,n',())∧InvB k t b' n' ∧n' ≤n)∧q0y 600 600 s.1 (k:Int) t s.2.1 eff ah t four s.2.2.1 s.2.2.2 0=some r:=by
  by_cases he:eff=2
  ·subst he
   refine qcj (N:=3) (by decide) (fun q (s:LI×Int×Int×Int) i=>q0y 600 q s.1 (k:Int) t s.2.1 2 ah t four s.2.2.1 s.2.2.2 i) (fun _ s=>zzo k t n s)
    (fun r=>∃b' n',r=(b',(k:Int),t,n',())∧InvB k t b' n' ∧n' ≤n) (fun q i s hi hs=> ?_) (fun q s hs=>⟨_,⟨_,_,rfl,hs.1,hs.2.1⟩,rfl⟩) hs
   have h3:(i:Int)<3:=by omega
   obtain⟨r,⟨s',hs',rfl⟩,e⟩:=j3x hk tl tr ha four hs 2 i 2 true
   refine⟨s',hs',?_⟩
   show q24 600 (q0y 600 q) s.1 (k:Int) t s.2.1 2 ah t four s.2.2.1 s.2.2.2 (i:Int)=_
   unfold q24 z3v
   simp only[h3,dT,cT,beq_self_eq_true,y5,e,q08 (show i<1000000000000 by omega)]
  ·refine⟨_,⟨s.1,s.2.1,rfl,hs.1,hs.2.1⟩,?_⟩
   show q24 600 (q0y 600 599) s.1 (k:Int) t s.2.1 eff ah t four s.2.2.1 s.2.2.2 0=_
   unfold q24
   simp only[beqF he,cF,show decide ((0:Int)<3)=true from rfl,cT]
 obtain⟨r,⟨b',n',rfl,h1,h2⟩,e⟩:=h
 exact⟨b',n',e,h1,h2⟩
theorem qte(x:LI):Rn (q8c x):=by
 have h1:=qh4 (b:=5) (x.getD 0 0)
 have h2:=qh4 (b:=6) (x.getD 1 0)
 have h3:=qh4 (b:=5) (x.getD 2 0)
 rw[show(2:Nat)^5=32 from rfl]at h1 h3
 rw[show(2:Nat)^6=64 from rfl]at h2
 unfold q8c Rn
 omega
theorem zb6{b:LI}{n:Int}(hI:InvB k t b n)(eff:Int):∃b' n' i j,q1b 600 b (k:Int) t n t ah four eff=some ((k:Int),t,b',n',())∧InvB k t b' n' ∧n' ≤n∧i<16∧j<16∧
  (∀i' j',i' <16→j' <16→farV 3 (rowP t i') (rowP t j')≤farV 3 (rowP t i) (rowP t j))∧n' ≤qbp k (ah++twoB t (q8c (rowP t i)) (q8c (rowP t j)) four) t:=by
 obtain⟨i,j,hi,hj,e1,hm⟩:=j3w tr (n:=3) (by decide)
 have pk:∀x,qkd 600 (rowP t x)=some (q8c (rowP t x),()):=fun x=>(Pack_is (F:=600) (by decide) fun c hc=>by have:=q5t (by decide) tr x c;omega).1
 obtain⟨f,b1,n1,e2,j1,j2,j3⟩:=jdt hk tl tr ha four hI (qte hk tl tr ha (rowP t i)) (qte hk tl tr ha (rowP t j))
 obtain⟨b',n',e3,l1,l2⟩:=j3y hk tl tr ha four (n:=n1) (s:=(b1,n1,q8c (rowP t i),q8c (rowP t j))) ⟨j1,Int.le_refl _,qte hk tl tr ha _,qte hk tl tr ha _⟩ eff
 refine⟨b',n',i,j,?_,l1,by omega,hi,hj,hm,by omega⟩
 have e1' :q7e 600 t 3=some (rowP t i,rowP t j,()):=e1
 unfold q1b
 simp only[e1',pk,e2,e3,y5]
end
end Go.AE.Gn

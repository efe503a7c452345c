/- A part of the proof, put together of my texts: Pure09c, Pure09d, Pure09e, Pure09f, Pure09g, Pure10, Pure10b, Pure10c, Pure11, Pure11b, Pure11c, Pure11d, Pure11e, Pure11f. -/
import Derived.Test.YtaogfbhifeobmaaGreatRowFlatTellsP6
set_option linter.unusedVariables false
set_option linter.unusedSimpArgs false
open Option renaming bind_some → y5
open Int renaming lt_irrefl → yv, natCast_nonneg → yc, toNat_natCast → yb, natCast_zero → yq, toNat → y6, tmod → yw, tdiv → yx, cast_ofNat_Int → yp, eq_ofNat_of_zero_le → yh, emod_eq_of_lt → we
open Bool renaming and_self → yd, false_eq_true → yn, and_eq_true → yl
open Nat renaming add_assoc → wg, le_refl → wc
open Go.IntKind renaming wrap → y0
open List renaming range → w8, set → yy, getD → y7, take → y8, drop → y9, getD_eq_getElem?_getD → ye, getElem?_eq_none → wa, getElem?_eq_getElem → yj, mem_cons → yr, getD_cons_zero → yt, getD_cons_succ → yu
namespace Go.AE.Gn
open Go Go.AE
theorem lv_one(b:LI)(a:Nat):lv b a 1=q39 b a:=by
 simp[lv,qc1]
theorem z8e(b:LI){i:Nat}(h:i<8):q39 b i=bitL (b.getD 0 0) i:=by
 unfold q39
 rw[show i/8=0 by omega,show i%8=i by omega]
theorem zzq{b:LI}(hb:Bytes b)(hl:b.length=16):∀(d i k:Nat),i+d=qa7 (b.getD 0 0)→d<k→q6g 600 k b (i:Int)=some (if qa7 (b.getD 0 0)=8 then .inr ()else .inl ((qa7 (b.getD 0 0):Int),())):=by
 obtain⟨_,h8,hz,h1⟩:=qmm (hb.getD 0)
 intro d
 induction d with
 |zero=>
  intro i k e hk
  obtain⟨k,rfl⟩:∃k',k=k' +1:=⟨k-1,by omega⟩
  obtain rfl:i=qa7 (b.getD 0 0):=by omega
  unfold q6g qgw
  by_cases h:qa7 (b.getD 0 0)=8
  ·rw[h]
   have:¬((8:Nat):Int)<8:=by omega
   simp only[this,dF,cF,if_true]
  ·have i1:((qa7 (b.getD 0 0):Nat):Int)<8:=by omega
   have r:q2m 600 b ((qa7 (b.getD 0 0):Nat):Int) (1:Int)=_:=j93 (n:=1) hb hl (by omega) (by omega)
   rw[lv_one,z8e b (by omega),h1 (by omega)]at r
   simp only[i1,dT,cT,r,y5,beqT,h,if_false]
 |succ d ih=>
  intro i k e hk
  obtain⟨k,rfl⟩:∃k',k=k' +1:=⟨k-1,by omega⟩
  unfold q6g qgw
  have i1:(i:Int)<8:=by omega
  have r:q2m 600 b (i:Int) (1:Int)=_:=j93 (n:=1) hb hl (by omega) (by omega)
  rw[lv_one,z8e b (by omega),hz i (by omega)]at r
  have z1:((0:Int)==1)=false:=rfl
  simp only[i1,dT,cT,r,y5,z1,cF]
  rw[q07 (by omega)]
  exact ih (i+1) k (by omega) (by omega)
theorem rMode_is{b:LI}(hb:Bytes b)(hl:b.length=16):z0o 600 b=some ((qa7 (b.getD 0 0):Int),()):=by
 have h:=qmm (hb.getD 0)
 have hn:(((b.length:Nat):Int) !=16)=false:=by rw[hl];rfl
 unfold z0o
 rw[hn]
 simp only[cF]
 have r:q6g 600 600 b (0:Int)=_:=zzq hb hl (qa7 (b.getD 0 0)) 0 600 (by omega) (by omega)
 rw[r]
 by_cases h8:qa7 (b.getD 0 0)=8
 ·rw[iP h8,h8]
  rfl
 ·rw[iN h8]
  rfl
theorem rl2_all{b:LI}(hb:Bytes b)(hl:b.length=16)(x0:LI)(x1:LI)(x2:Int)(x3:Int)(x4:Int)(x5:Int)(x6:Int)(x7:Int)(x8:Int)(x9:Int)(x10:Int)(x11:Int)(x14:Int)(x15:Int)(x16:Int){E n c a:Nat}(g:Nat→Int)(hn:n≤16)(hc:c<4)(hE:E≤100)(ha:a+E*n≤128):
  ∀(d i k:Nat),i+d=E→d<k→q43 600 k x0 x1 x2 x3 x4 x5 x6 x7 x8 x9 x10 x11 b (((a+i*n:Nat):Int)) x14 x15 x16 (tab (E*4) (colG b a n c i g)) ((c:Int)) ((n:Int)) ((i:Int))=some (x0,x1,x2,x3,x4,x5,x6,x7,x8,x9,x10,x11,b,((a+E*n:Nat):Int),x14,x15,x16,tab (E*4) (colG b a n c E g),(c:Int),()):=by
 intro d
 induction d with
 |zero=>
  intro i k h1 h2
  obtain⟨k,rfl⟩:∃k',k=k' +1:=⟨k-1,by omega⟩
  obtain rfl:i=E:=by omega
  have i2:(i*4)/4=i:=by omega
  unfold q43 qcc
  simp only[q0g,i2,yv,dF,cF]
 |succ d ih=>
  intro i k h1 h2
  obtain⟨k,rfl⟩:∃k',k=k' +1:=⟨k-1,by omega⟩
  have hi:i<E:=by omega
  have hm:=mulS (n:=n) hi
  have e1:(i+1)*n=i*n+n:=Nat.succ_mul i n
  unfold q43 qcc
  have i1:(i:Int)<(E:Int):=by omega
  have i2:(E*4)/4=E:=by omega
  have i4:(c:Int)<4:=by omega
  simp only[q0g,i2,i1,i4,dT,cT,yc,yd,yb,y5]
  rw[zcn hb hl hn (by omega)]
  simp only[y5]
  rw[zzh b a n c i g hc,q07 (by omega),wg,←e1]
  exact ih (i+1) k (by omega) (by omega)
theorem zga{b:LI}(hb:Bytes b)(hl:b.length=16)(x0:LI)(x1:LI)(x2:Int)(x3:Int)(x4:Int)(x5:Int)(x8:Int)(x9:Int)(x10:Int)(x11:Int)(x14:Int)(x15:Int)(x16:Int){C A E n c a:Nat}(g:Nat→Int)(hn:n≤16)(hc:c<4)(hE:E≤100)(ha:a+E*n≤128)(hd:n=if c=3 then A else C)(k:Nat):
  q2p 600 (k+1) x0 x1 x2 x3 x4 x5 ((C:Int)) ((A:Int)) x8 x9 x10 x11 b ((a:Int)) x14 x15 x16 (tab (E*4) g) ((c:Int))=q2p 600 k x0 x1 x2 x3 x4 x5 ((C:Int)) ((A:Int)) x8 x9 x10 x11 b (((a+E*n:Nat):Int)) x14 x15 x16 (tab (E*4) (colG b a n c E g)) (((c+1:Nat):Int)):=by
 have i4:(c:Int)<4:=by omega
 have h:=rl2_all hb hl x0 x1 x2 x3 x4 x5 (C:Int) (A:Int) x8 x9 x10 x11 x14 x15 x16 (c:=c) (a:=a) g hn hc hE ha E 0 600 (by omega) (by omega)
 simp only[zzj,Nat.zero_mul,Nat.add_zero,yq]at h
 conv=>lhs;unfold q2p qcd
 by_cases h3:c=3
 ·rw[iP h3]at hd
  subst hd
  simp only[i4,dT,cT,beqT (show((c:Nat):Int)=3 by omega),h,y5]
  rw[q07 (by omega)]
 ·rw[iN h3]at hd
  subst hd
  simp only[i4,dT,cT,beqF (show((c:Nat):Int)≠3 by omega),cF,h,y5]
  rw[q07 (by omega)]
theorem rl0_all{b:LI}(hb:Bytes b)(hl:b.length=16)(x0:LI)(x1:LI)(x2:Int)(x3:Int)(x4:Int)(x5:Int)(x8:Int)(x9:Int)(x10:Int)(x11:Int)(x14:Int)(x15:Int)(x16:Int){m:BM}(ok:m.Ok){p0:Nat}(hp:p0+6*m.P*m.C+2*m.P*m.A≤128)(k:Nat):
  q2p 600 (k+5) x0 x1 x2 x3 x4 x5 ((m.C:Int)) ((m.A:Int)) x8 x9 x10 x11 b ((p0:Int)) x14 x15 x16 (tab (2*m.P*4) fun _=>0) ((0:Int))=some (x0,x1,x2,x3,x4,x5,(m.C:Int),(m.A:Int),x8,x9,x10,x11,b,((p0+6*m.P*m.C+2*m.P*m.A:Nat):Int),x14,x15,x16,tab (2*m.P*4) (e0 b m p0),()):=by
 have e6:6*m.P*m.C=2*m.P*m.C+2*m.P*m.C+2*m.P*m.C:=by
  rw[←Nat.add_mul,←Nat.add_mul]
  congr 1
  omega
 have hC:=ok.C7
 have hA:=ok.A8
 have hP:=ok.P3
 have s0:=zga hb hl x0 x1 x2 x3 x4 x5 x8 x9 x10 x11 x14 x15 x16 (C:=m.C) (A:=m.A) (E:=2*m.P) (n:=m.C) (c:=0) (a:=p0) (fun _=>0) (by omega) (by omega) (by omega) (by omega) (by simp) (k+4)
 have s1:=zga hb hl x0 x1 x2 x3 x4 x5 x8 x9 x10 x11 x14 x15 x16 (C:=m.C) (A:=m.A) (E:=2*m.P) (n:=m.C) (c:=1) (a:=p0+2*m.P*m.C) (colG b p0 m.C 0 (2*m.P) fun _=>0) (by omega) (by omega) (by omega) (by omega) (by simp) (k+3)
 have s2:=zga hb hl x0 x1 x2 x3 x4 x5 x8 x9 x10 x11 x14 x15 x16 (C:=m.C) (A:=m.A) (E:=2*m.P) (n:=m.C) (c:=2) (a:=p0+2*m.P*m.C+2*m.P*m.C) (colG b (p0+2*m.P*m.C) m.C 1 (2*m.P) (colG b p0 m.C 0 (2*m.P) fun _=>0)) (by omega) (by omega) (by omega) (by omega) (by simp) (k+2)
 have s3:=zga hb hl x0 x1 x2 x3 x4 x5 x8 x9 x10 x11 x14 x15 x16 (C:=m.C) (A:=m.A) (E:=2*m.P) (n:=m.A) (c:=3) (a:=p0+2*m.P*m.C+2*m.P*m.C+2*m.P*m.C) (colG b (p0+2*m.P*m.C+2*m.P*m.C) m.C 2 (2*m.P) (colG b (p0+2*m.P*m.C) m.C 1 (2*m.P) (colG b p0 m.C 0 (2*m.P) fun _=>0))) (by omega) (by omega) (by omega) (by omega) (by simp) (k+1)
 refine s0.trans (s1.trans (s2.trans (s3.trans ?_)))
 unfold q2p qcd
 have i4:¬(((3+1:Nat):Int)<4):=by omega
 simp only[i4,dF,cF]
 rw[q01 fun j hj=>zzi m p0 j hj,show p0+6*m.P*m.C+2*m.P*m.A=p0+2*m.P*m.C+2*m.P*m.C+2*m.P*m.C+2*m.P*m.A by omega]
theorem wrap2{x v:Int}(hx:0≤x∧x<1000)(hv:0≤v∧v≤1):y0 .i64 (y0 .i64 (2*x)+v)=2*x+v:=by
 rw[w64 (x:=2*x) (by omega) (by omega),w64 (by omega) (by omega)]
theorem rl6_all(x0:LI)(x1:LI)(x2:Int)(x3:Int)(x4:Int)(x5:Int)(x6:Int)(x7:Int)(x8:Int)(x9:Int)(x10:Int)(x11:Int)(x12:LI)(x13:Int)(x14:Int)(x15:Int)(x16:Int){E i:Nat}(g:Nat→Int)(v:Int)(hg:∀j,0≤g j∧g j<1000)(hv:0≤v∧v≤1)(hi:i<E)(hE:E≤100):
  ∀(d c k:Nat),c+d=4→d<k→q44 600 k x0 x1 x2 x3 x4 x5 x6 x7 x8 x9 x10 x11 x12 x13 x14 x15 x16 (tab (E*4) fun j=>if j/4=i∧j%4<c then 2*g j+v else g j) ((i:Int)) v ((c:Int))=some (x0,x1,x2,x3,x4,x5,x6,x7,x8,x9,x10,x11,x12,x13,x14,x15,x16,tab (E*4) fun j=>if j/4=i then 2*g j+v else g j,(i:Int),()):=by
 intro d
 induction d with
 |zero=>
  intro c k h1 h2
  obtain⟨k,rfl⟩:∃k',k=k' +1:=⟨k-1,by omega⟩
  obtain rfl:c=4:=by omega
  unfold q44 qce
  have i4:¬(((4:Nat):Int)<4):=by omega
  simp only[i4,dF,cF]
  rw[q01 fun j hj=>show(if j/4=i∧j%4<4 then 2*g j+v else g j)=if j/4=i then 2*g j+v else g j by
   have:j%4<4:=Nat.mod_lt _ (by decide)
   simp only[this,and_true]]
 |succ d ih=>
  intro c k h1 h2
  obtain⟨k,rfl⟩:∃k',k=k' +1:=⟨k-1,by omega⟩
  have hc:c<4:=by omega
  have i1:(c:Int)<4:=by omega
  have i2:(E*4)/4=E:=by omega
  have i3:(i:Int)<(E:Int):=by omega
  unfold q44 qce
  simp only[q0g,i2,i1,i3,dT,cT,yc,yd,yb,q12 (show i*4+c<E*4 by omega),(mul4 i c hc).1,(mul4 i c hc).2,Nat.lt_irrefl,and_false,if_false,wrap2 (x:=g (i*4+c)) (v:=v) (by have:=hg (i*4+c);omega) hv]
  rw[q07 (by omega),q60]
  rw[q01 fun j hj=>show(if j=i*4+c then 2*g (i*4+c)+v else if j/4=i∧j%4<c then 2*g j+v else g j)=if j/4=i∧j%4<c+1 then 2*g j+v else g j by
   by_cases h:j=i*4+c
   ·rw[iP h,iP (by omega),h]
   ·rw[iN h]
    by_cases h5:j/4=i∧j%4<c
    ·rw[iP h5,iP (by omega)]
    ·rw[iN h5,iN (by omega)]]
  exact ih (c+1) k (by omega) (by omega)
def bG(b:LI)(m:BM)(p0 p1 i j:Nat):Int:=if j/4<i then 2*e0 b m p0 j+bitV b m p1 (j/4)else e0 b m p0 j
theorem rl4_all{b:LI}(hb:Bytes b)(hl:b.length=16)(x0:LI)(x1:LI)(x2:Int)(x3:Int)(x4:Int)(x5:Int)(x6:Int)(x7:Int)(x8:Int)(x9:Int)(x10:Int)(x11:Int)(x14:Int)(x15:Int)(x16:Int){m:BM}(ok:m.Ok)(he:m.e=1)(p0 p1:Nat)(hp:p1+2*m.P≤128):
  ∀(d i k:Nat),i+d=2*m.P→d<k→q5o 600 k x0 x1 x2 x3 x4 x5 x6 x7 x8 x9 x10 x11 b (((p1+i:Nat):Int)) x14 x15 x16 (tab (2*m.P*4) (bG b m p0 p1 i)) ((i:Int))=some (x0,x1,x2,x3,x4,x5,x6,x7,x8,x9,x10,x11,b,((p1+2*m.P:Nat):Int),x14,x15,x16,tab (2*m.P*4) (bG b m p0 p1 (2*m.P)),()):=by
 intro d
 induction d with
 |zero=>
  intro i k h1 h2
  obtain⟨k,rfl⟩:∃k',k=k' +1:=⟨k-1,by omega⟩
  obtain rfl:i=2*m.P:=by omega
  have i2:(2*m.P*4)/4=2*m.P:=by omega
  unfold q5o qcf
  simp only[q0g,i2,yv,dF,cF]
 |succ d ih=>
  intro i k h1 h2
  obtain⟨k,rfl⟩:∃k',k=k' +1:=⟨k-1,by omega⟩
  have hP3:=ok.P3
  have i2:(2*m.P*4)/4=2*m.P:=by omega
  have i1:(i:Int)<((2*m.P:Nat):Int):=by omega
  have r:q0o 600 b ((p1+i:Nat):Int) (1:Int)=_:=zcn (n:=1) hb hl (by omega) (by omega)
  have hv:lv b (p1+i) 1=bitV b m p1 i:=by
   unfold bitV
   rw[iP he]
  rw[hv]at r
  have hg:∀j,0≤bG b m p0 p1 i j∧bG b m p0 p1 i j<1000:=fun j=>by
   have h1:=zg9 b ok p0 j
   have h2:=zbb b m p1 (j/4)
   unfold bG
   split<;>omega
  have h6:=rl6_all x0 x1 x2 x3 x4 x5 x6 x7 x8 x9 x10 x11 b (((p1+i+1:Nat)):Int) x14 x15 x16 (E:=2*m.P) (i:=i) (bG b m p0 p1 i) (bitV b m p1 i) hg (zbb b m p1 i) (by omega) (by omega) 4 0 600 (by omega) (by omega)
  simp only[Nat.not_lt_zero,and_false,if_false,yq]at h6
  change q44 600 600 x0 x1 x2 x3 x4 x5 x6 x7 x8 x9 x10 x11 b (((p1+i+1:Nat):Int)) x14 x15 x16 (tab (2*m.P*4) (bG b m p0 p1 i)) ((i:Int)) (bitV b m p1 i) 0=_ at h6
  unfold q5o qcf
  simp only[q0g,i2,i1,dT,cT,r,y5,h6]
  rw[q07 (by omega),q01 fun j hj=>show(if j/4=i then 2*bG b m p0 p1 i j+bitV b m p1 i else bG b m p0 p1 i j)=bG b m p0 p1 (i+1) j by
   unfold bG
   by_cases h:j/4=i
   ·rw[iP h,iN (by omega),iP (by omega),h]
   ·rw[iN h]
    by_cases h2:j/4<i
    ·rw[iP h2,iP (by omega)]
    ·rw[iN h2,iN (by omega)]]
  exact ih (i+1) k (by omega) (by omega)
theorem rl10_all(x0:LI)(x1:LI)(x2:Int)(x3:Int)(x4:Int)(x5:Int)(x6:Int)(x7:Int)(x8:Int)(x9:Int)(x10:Int)(x11:Int)(x12:LI)(x13:Int)(x14:Int)(x15:Int)(x16:Int){E i:Nat}(g:Nat→Int)(v:Int)(hg:∀j,0≤g j∧g j<1000)(hv:0≤v∧v≤1)(hi:i+1<E)(hE:E≤100):
  ∀(d c k:Nat),c+d=4→d<k→q2x 600 k x0 x1 x2 x3 x4 x5 x6 x7 x8 x9 x10 x11 x12 x13 x14 x15 x16 (tab (E*4) fun j=>if(j/4=i∨j/4=i+1)∧j%4<c then 2*g j+v else g j) ((i:Int)) v ((c:Int))=some (x0,x1,x2,x3,x4,x5,x6,x7,x8,x9,x10,x11,x12,x13,x14,x15,x16,tab (E*4) fun j=>if j/4=i∨j/4=i+1 then 2*g j+v else g j,(i:Int),()):=by
 intro d
 induction d with
 |zero=>
  intro c k h1 h2
  obtain⟨k,rfl⟩:∃k',k=k' +1:=⟨k-1,by omega⟩
  obtain rfl:c=4:=by omega
  unfold q2x qb2
  have i4:¬(((4:Nat):Int)<4):=by omega
  simp only[i4,dF,cF]
  rw[q01 fun j hj=>show(if(j/4=i∨j/4=i+1)∧j%4<4 then 2*g j+v else g j)=if j/4=i∨j/4=i+1 then 2*g j+v else g j by
   have:j%4<4:=Nat.mod_lt _ (by decide)
   simp only[this,and_true]]
 |succ d ih=>
  intro c k h1 h2
  obtain⟨k,rfl⟩:∃k',k=k' +1:=⟨k-1,by omega⟩
  have hc:c<4:=by omega
  have i1:(c:Int)<4:=by omega
  have i2:(E*4)/4=E:=by omega
  have i3:(i:Int)<(E:Int):=by omega
  have i4:((i+1:Nat):Int)<(E:Int):=by omega
  have e1:y0 .i64 ((i:Int)+1)=((i+1:Nat):Int):=q07 (by omega)
  have e2:y0 .i64 ((c:Int)+1)=((c+1:Nat):Int):=q07 (by omega)
  have n1:¬(i+1)*4+c=i*4+c:=by omega
  have n2:¬(((i*4+c)/4=i∨(i*4+c)/4=i+1)∧(i*4+c)%4<c):=by omega
  have n3:¬((((i+1)*4+c)/4=i∨((i+1)*4+c)/4=i+1)∧((i+1)*4+c)%4<c):=by omega
  unfold q2x qb2
  simp only[q0g,i2,i1,i3,e1,e2,i4,dT,cT,yc,yd,yb,q12 (show i*4+c<E*4 by omega),q60,q12 (show(i+1)*4+c<E*4 by omega),n1,n2,n3,if_false,wrap2 (x:=g (i*4+c)) (v:=v) (by have:=hg (i*4+c);omega) hv,wrap2 (x:=g ((i+1)*4+c)) (v:=v) (by have:=hg ((i+1)*4+c);omega) hv]
  rw[q01 fun j hj=>show(if j=(i+1)*4+c then 2*g ((i+1)*4+c)+v else if j=i*4+c then 2*g (i*4+c)+v else if(j/4=i∨j/4=i+1)∧j%4<c then 2*g j+v else g j)=if(j/4=i∨j/4=i+1)∧j%4<c+1 then 2*g j+v else g j by
   by_cases h0:j=(i+1)*4+c
   ·rw[iP h0,iP (by omega),h0]
   ·rw[iN h0]
    by_cases h:j=i*4+c
    ·rw[iP h,iP (by omega),h]
    ·rw[iN h]
     by_cases h5:(j/4=i∨j/4=i+1)∧j%4<c
     ·rw[iP h5,iP (by omega)]
     ·rw[iN h5,iN (by omega)]]
  exact ih (c+1) k (by omega) (by omega)
theorem rl8_all{b:LI}(hb:Bytes b)(hl:b.length=16)(x0:LI)(x1:LI)(x2:Int)(x3:Int)(x4:Int)(x5:Int)(x6:Int)(x7:Int)(x8:Int)(x9:Int)(x10:Int)(x11:Int)(x14:Int)(x15:Int)(x16:Int){m:BM}(ok:m.Ok)(ho:m.o=1)(p0 p1:Nat)(hp:p1+m.P≤128):
  ∀(d t k:Nat),t+d=m.P→d<k→q45 600 k x0 x1 x2 x3 x4 x5 x6 x7 x8 x9 x10 x11 b (((p1+t:Nat):Int)) x14 x15 x16 (tab (2*m.P*4) (bG b m p0 p1 (2*t))) (((2*t:Nat):Int))=some (x0,x1,x2,x3,x4,x5,x6,x7,x8,x9,x10,x11,b,((p1+m.P:Nat):Int),x14,x15,x16,tab (2*m.P*4) (bG b m p0 p1 (2*m.P)),()):=by
 intro d
 induction d with
 |zero=>
  intro t k h1 h2
  obtain⟨k,rfl⟩:∃k',k=k' +1:=⟨k-1,by omega⟩
  obtain rfl:t=m.P:=by omega
  have i2:(2*m.P*4)/4=2*m.P:=by omega
  unfold q45 qcg
  simp only[q0g,i2,yv,dF,cF]
 |succ d ih=>
  intro t k h1 h2
  obtain⟨k,rfl⟩:∃k',k=k' +1:=⟨k-1,by omega⟩
  have hP3:=ok.P3
  have heo:=ok.eo
  have i2:(2*m.P*4)/4=2*m.P:=by omega
  have i1:((2*t:Nat):Int)<((2*m.P:Nat):Int):=by omega
  have r:q0o 600 b ((p1+t:Nat):Int) (1:Int)=_:=zcn (n:=1) hb hl (by omega) (by omega)
  have hv:lv b (p1+t) 1=bitV b m p1 (2*t):=by
   unfold bitV
   rw[iN (by omega),iP ho,show 2*t/2=t by omega]
  have hv2:bitV b m p1 (2*t+1)=bitV b m p1 (2*t):=by
   unfold bitV
   rw[iN (by omega),iP ho,iN (by omega),iP ho,show(2*t+1)/2=2*t/2 by omega]
  rw[hv]at r
  have hg:∀j,0≤bG b m p0 p1 (2*t) j∧bG b m p0 p1 (2*t) j<1000:=fun j=>by
   have h1:=zg9 b ok p0 j
   have h2:=zbb b m p1 (j/4)
   unfold bG
   split<;>omega
  have h6:=rl10_all x0 x1 x2 x3 x4 x5 x6 x7 x8 x9 x10 x11 b (((p1+t+1:Nat)):Int) x14 x15 x16 (E:=2*m.P) (i:=2*t) (bG b m p0 p1 (2*t)) (bitV b m p1 (2*t)) hg (zbb b m p1 (2*t)) (by omega) (by omega) 4 0 600 (by omega) (by omega)
  simp only[Nat.not_lt_zero,and_false,if_false,show((0:Nat):Int)=0 from rfl]at h6
  change q2x 600 600 x0 x1 x2 x3 x4 x5 x6 x7 x8 x9 x10 x11 b (((p1+t+1:Nat):Int)) x14 x15 x16 (tab (2*m.P*4) (bG b m p0 p1 (2*t))) (((2*t:Nat):Int)) (bitV b m p1 (2*t)) 0=_ at h6
  have e2:y0 .i64 (((2*t:Nat):Int)+2)=((2*(t+1):Nat):Int):=by rw[w64 (by omega) (by omega)];omega
  unfold q45 qcg
  simp only[q0g,i2,i1,dT,cT,r,y5,h6,e2]
  rw[q01 fun j hj=>show(if j/4=2*t∨j/4=2*t+1 then 2*bG b m p0 p1 (2*t) j+bitV b m p1 (2*t)else bG b m p0 p1 (2*t) j)=bG b m p0 p1 (2*(t+1)) j by
   unfold bG
   by_cases h:j/4=2*t∨j/4=2*t+1
   ·rw[iP h,iN (by omega),iP (by omega)]
    rcases h with h|h
    ·rw[h]
    ·rw[h,hv2]
   ·rw[iN h]
    by_cases h2:j/4<2*t
    ·rw[iP h2,iP (by omega)]
    ·rw[iN h2,iN (by omega)]]
  exact ih (t+1) k (by omega) (by omega)
def g1(b:LI)(m:BM)(p0 p1 j:Nat):Int:=2^(m.e+m.o)*e0 b m p0 j+bitV b m p1 (j/4)
theorem j4r(b:LI){m:BM}(ok:m.Ok)(p0 p1 j:Nat):0≤g1 b m p0 p1 j∧g1 b m p0 p1 j<1000:=by
 have h1:=zg9 b ok p0 j
 have h2:=zbb b m p1 (j/4)
 have h3:=ok.eo
 unfold g1
 rcases(by omega:m.e+m.o=0∨m.e+m.o=1)with h|h<;>rw[h]<;>omega
def vG(b:LI)(m:BM)(p0 p1 i j:Nat):Int:=if j/4<i then eF b m p0 p1 j else g1 b m p0 p1 j
theorem rl14_all(b:LI)(x0:LI)(x1:LI)(x2:Int)(x3:Int)(x4:Int)(x5:Int)(x7:Int)(x8:Int)(x9:Int)(x10:Int)(x11:Int)(x12:LI)(x13:Int)(x14:Int)(x15:Int)(x16:Int){m:BM}(ok:m.Ok)(p0 p1:Nat){i:Nat}(hi:i<2*m.P):
  ∀(d c k:Nat),c+d=3→d<k→q2y 600 k x0 x1 x2 x3 x4 x5 ((m.C:Int)) x7 x8 x9 x10 x11 x12 x13 x14 x15 x16 (tab (2*m.P*4) fun j=>if j/4=i∧j%4<c then eF b m p0 p1 j else vG b m p0 p1 i j) (((m.e+m.o:Nat):Int)) ((i:Int)) ((c:Int))=some (x0,x1,x2,x3,x4,x5,(m.C:Int),x7,x8,x9,x10,x11,x12,x13,x14,x15,x16,tab (2*m.P*4) fun j=>if j/4=i∧j%4<3 then eF b m p0 p1 j else vG b m p0 p1 i j,((m.e+m.o:Nat):Int),(i:Int),()):=by
 intro d
 induction d with
 |zero=>
  intro c k h1 h2
  obtain⟨k,rfl⟩:∃k',k=k' +1:=⟨k-1,by omega⟩
  obtain rfl:c=3:=by omega
  unfold q2y qb3
  have i4:¬(((3:Nat):Int)<3):=by omega
  simp only[i4,dF,cF]
 |succ d ih=>
  intro c k h1 h2
  obtain⟨k,rfl⟩:∃k',k=k' +1:=⟨k-1,by omega⟩
  have hc:c<4:=by omega
  have hP3:=ok.P3
  have hC1:=ok.C1
  have hCe:=ok.Ce
  have hb1:=j4r b ok p0 p1 (i*4+c)
  have i1:(c:Int)<3:=by omega
  have i1' :(c:Int)<4:=by omega
  have i2:(2*m.P*4)/4=2*m.P:=by omega
  have i3:(i:Int)<((2*m.P:Nat):Int):=by omega
  have ew:y0 .i64 ((m.C:Int)+((m.e+m.o:Nat):Int))=((m.C+(m.e+m.o):Nat):Int):=by rw[w64 (by omega) (by omega)];omega
  have ev:(if(i*4+c)/4=i∧(i*4+c)%4<c then eF b m p0 p1 (i*4+c)else vG b m p0 p1 i (i*4+c))=g1 b m p0 p1 (i*4+c):=by
   rw[iN (by omega)]
   unfold vG
   rw[iN (by omega)]
  have ee:q1h (m.C+(m.e+m.o)) (g1 b m p0 p1 (i*4+c))=eF b m p0 p1 (i*4+c):=by
   unfold eF g1
   rw[iN (by omega)]
  unfold q2y qb3
  simp only[q0g,i2,i1,i1',i3,dT,cT,yc,yd,yb,q12 (show i*4+c<2*m.P*4 by omega),ev,ew]
  rw[qa6 (by omega) (by omega) (by omega),ee]
  simp only[y5]
  rw[q07 (by omega),q60]
  rw[q01 fun j hj=>show(if j=i*4+c then eF b m p0 p1 (i*4+c)else if j/4=i∧j%4<c then eF b m p0 p1 j else vG b m p0 p1 i j)=if j/4=i∧j%4<c+1 then eF b m p0 p1 j else vG b m p0 p1 i j by
   by_cases h:j=i*4+c
   ·rw[iP h,iP (by omega),h]
   ·rw[iN h]
    by_cases h5:j/4=i∧j%4<c
    ·rw[iP h5,iP (by omega)]
    ·rw[iN h5,iN (by omega)]]
  exact ih (c+1) k (by omega) (by omega)
theorem rl12_all(b:LI)(x0:LI)(x1:LI)(x2:Int)(x3:Int)(x4:Int)(x5:Int)(x8:Int)(x9:Int)(x10:Int)(x11:Int)(x12:LI)(x13:Int)(x14:Int)(x15:Int)(x16:Int){m:BM}(ok:m.Ok)(p0 p1:Nat):
  ∀(d i k:Nat),i+d=2*m.P→d<k→q1t 600 k x0 x1 x2 x3 x4 x5 ((m.C:Int)) ((m.A:Int)) x8 x9 x10 x11 x12 x13 x14 x15 x16 (tab (2*m.P*4) (vG b m p0 p1 i)) (((m.e+m.o:Nat):Int)) ((i:Int))=some (x0,x1,x2,x3,x4,x5,(m.C:Int),(m.A:Int),x8,x9,x10,x11,x12,x13,x14,x15,x16,tab (2*m.P*4) (eF b m p0 p1),()):=by
 intro d
 induction d with
 |zero=>
  intro i k h1 h2
  obtain⟨k,rfl⟩:∃k',k=k' +1:=⟨k-1,by omega⟩
  obtain rfl:i=2*m.P:=by omega
  have i2:(2*m.P*4)/4=2*m.P:=by omega
  unfold q1t qb4
  simp only[q0g,i2,yv,dF,cF]
  rw[q01 fun j hj=>show vG b m p0 p1 (2*m.P) j=eF b m p0 p1 j by
   unfold vG
   rw[iP (by omega)]]
 |succ d ih=>
  intro i k h1 h2
  obtain⟨k,rfl⟩:∃k',k=k' +1:=⟨k-1,by omega⟩
  have hi:i<2*m.P:=by omega
  have hP3:=ok.P3
  have hA8:=ok.A8
  have hAe:=ok.Ae
  have i2:(2*m.P*4)/4=2*m.P:=by omega
  have i3:(i:Int)<((2*m.P:Nat):Int):=by omega
  have h14:=rl14_all b x0 x1 x2 x3 x4 x5 (m.A:Int) x8 x9 x10 x11 x12 x13 x14 x15 x16 ok p0 p1 hi 3 0 600 (by omega) (by omega)
  simp only[Nat.not_lt_zero,and_false,if_false,yq]at h14
  change q2y 600 600 x0 x1 x2 x3 x4 x5 ((m.C:Int)) ((m.A:Int)) x8 x9 x10 x11 x12 x13 x14 x15 x16 (tab (2*m.P*4) (vG b m p0 p1 i)) (((m.e+m.o:Nat):Int)) ((i:Int)) 0=_ at h14
  unfold q1t qb4
  simp only[q0g,i2,i3,dT,cT,yc,yd,yb,y5,h14]
  by_cases hA:m.A=0
  ·simp only[beqT (show((m.A:Nat):Int)=0 by omega),cT,q60]
   rw[q07 (by omega),q01 fun j hj=>show(if j=3+i*4 then 255 else if j/4=i∧j%4<3 then eF b m p0 p1 j else vG b m p0 p1 i j)=vG b m p0 p1 (i+1) j by
    unfold vG
    by_cases h3:j=3+i*4
    ·rw[iP h3,iP (by omega)]
     unfold eF
     rw[iP (by omega),iP hA]
    ·rw[iN h3]
     by_cases h:j/4=i∧j%4<3
     ·rw[iP h,iP (by omega)]
     ·rw[iN h]
      by_cases h2:j/4<i
      ·rw[iP h2,iP (by omega)]
      ·rw[iN h2,iN (by omega)]]
   exact ih (i+1) k (by omega) (by omega)
  ·have hb1:=j4r b ok p0 p1 (3+i*4)
   have ew:y0 .i64 ((m.A:Int)+((m.e+m.o:Nat):Int))=((m.A+(m.e+m.o):Nat):Int):=by rw[w64 (by omega) (by omega)];omega
   have ev:(if(3+i*4)/4=i∧(3+i*4)%4<3 then eF b m p0 p1 (3+i*4)else vG b m p0 p1 i (3+i*4))=g1 b m p0 p1 (3+i*4):=by
    rw[iN (by omega)]
    unfold vG
    rw[iN (by omega)]
   have ee:q1h (m.A+(m.e+m.o)) (g1 b m p0 p1 (3+i*4))=eF b m p0 p1 (3+i*4):=by
    unfold eF g1
    rw[iP (by omega),iN hA]
   simp only[beqF (show((m.A:Nat):Int)≠0 by omega),cF,q12 (show 3+i*4<2*m.P*4 by omega),ev,ew]
   rw[qa6 (by omega) (by omega) (by omega),ee]
   simp only[y5]
   rw[q07 (by omega),q60,q01 fun j hj=>show(if j=3+i*4 then eF b m p0 p1 (3+i*4)else if j/4=i∧j%4<3 then eF b m p0 p1 j else vG b m p0 p1 i j)=vG b m p0 p1 (i+1) j by
    unfold vG
    by_cases h3:j=3+i*4
    ·rw[iP h3,iP (by omega),h3]
    ·rw[iN h3]
     by_cases h:j/4=i∧j%4<3
     ·rw[iP h,iP (by omega)]
     ·rw[iN h]
      by_cases h2:j/4<i
      ·rw[iP h2,iP (by omega)]
      ·rw[iN h2,iN (by omega)]]
   exact ih (i+1) k (by omega) (by omega)
theorem rl18_all(x0:LI)(x1:LI)(x3:Int)(x4:Int)(x5:Int)(x6:Int)(x7:Int)(x8:Int)(x9:Int)(x10:Int)(x11:Int)(x12:LI)(x13:Int)(x15:Int)(x16:Int)(x17:LI)(x18:LI)(x19:LI){P w i:Nat}(h3:P≤3)(hw:w<64):
  ∀(d p k:Nat),p+d=P→1≤p→d<k→q1u 600 k x0 x1 ((P:Int)) x3 x4 x5 x6 x7 x8 x9 x10 x11 x12 x13 ((w:Int)) x15 x16 x17 x18 x19 ((i:Int)) (if z58 P w i p then 1 else 0) ((p:Int))=some (x0,x1,(P:Int),x3,x4,x5,x6,x7,x8,x9,x10,x11,x12,x13,(w:Int),x15,x16,x17,x18,x19,(i:Int),if z58 P w i P then 1 else 0,()):=by
 intro d
 induction d with
 |zero=>
  intro p k h1 hp h2
  obtain⟨k,rfl⟩:∃k',k=k' +1:=⟨k-1,by omega⟩
  obtain rfl:p=P:=by omega
  unfold q1u qb5
  simp only[yv,dF,cF]
 |succ d ih=>
  intro p k h1 hp h2
  obtain⟨k,rfl⟩:∃k',k=k' +1:=⟨k-1,by omega⟩
  have i1:(p:Int)<(P:Int):=by omega
  have fin:=ih (p+1) k (by omega) (by omega) (by omega)
  rw[zr5 hp]at fin
  unfold q1u qb5
  simp only[i1,dT,cT]
  rw[q07 (by omega),(anch9 h3 hw hp (by omega)).2]
  simp only[y5,beqN]
  cases h:(zq2 P w p==i)
  ·rw[h,Bool.or_false]at fin
   simp only[cF]
   exact fin
  ·rw[h,Bool.or_true]at fin
   simp only[cT]
   exact fin
theorem j97(P w i:Nat):(if z58 P w i P then(1:Int)else 0)=(qkl P w i:Int):=by
 unfold qkl ancB
 rw[show((i==0)||((w8 P).any fun p=>decide (1≤p)&&(zq2 P w p==i)))=z58 P w i P from rfl]
 cases z58 P w i P<;>rfl
theorem rl16_all{b:LI}(hb:Bytes b)(hl:b.length=16)(x0:LI)(x1:LI)(x3:Int)(x4:Int)(x5:Int)(x6:Int)(x7:Int)(x8:Int)(x9:Int)(x11:Int)(x15:Int)(x16:Int)(x17:LI)(x19:LI){P w f p2:Nat}(hP1:1≤P)(h3:P≤3)(hw:w<64)(hf:2≤f∧f≤4)(hp:posF P w f p2 16≤128):
  ∀(d i k:Nat),i+d=16→d<k→q1v 600 k x0 x1 ((P:Int)) x3 x4 x5 x6 x7 x8 x9 ((f:Int)) x11 b (((posF P w f p2 i:Nat):Int)) ((w:Int)) x15 x16 x17 (tab 16 (upT i (qjh b P w f p2))) x19 ((i:Int))=some (x0,x1,(P:Int),x3,x4,x5,x6,x7,x8,x9,(f:Int),x11,b,((posF P w f p2 16:Nat):Int),(w:Int),x15,x16,x17,tab 16 (qjh b P w f p2),x19,()):=by
 intro d
 induction d with
 |zero=>
  intro i k h1 h2
  obtain⟨k,rfl⟩:∃k',k=k' +1:=⟨k-1,by omega⟩
  obtain rfl:i=16:=by omega
  unfold q1v qb6
  have:¬(((16:Nat):Int)<16):=by omega
  simp only[this,dF,cF,z57]
 |succ d ih=>
  intro i k h1 h2
  obtain⟨k,rfl⟩:∃k',k=k' +1:=⟨k-1,by omega⟩
  have i1:(i:Int)<16:=by omega
  have hm:=zzg P w f p2 (show i+1≤16 by omega)
  have hle:=j4k P w i
  have en:y0 .i64 ((f:Int)-(qkl P w i:Int))=((f-qkl P w i:Nat):Int):=by
   rw[w64 (by omega) (by omega)]
   omega
  have e1:posF P w f p2 (i+1)=posF P w f p2 i+(f-qkl P w i):=rfl
  have r:=zcn hb hl (a:=posF P w f p2 i) (n:=f-qkl P w i) (by omega) (by omega)
  rw[←e1,show lv b (posF P w f p2 i) (f-qkl P w i)=qjh b P w f p2 i from rfl]at r
  have h18:=rl18_all x0 x1 x3 x4 x5 x6 x7 x8 x9 ((f:Int)) x11 b (((posF P w f p2 i:Nat):Int)) x15 x16 x17 (tab 16 (upT i (qjh b P w f p2))) x19 (i:=i) h3 hw (P-1) 1 600 (by omega) (by omega) (by omega)
  rw[zzn,j97]at h18
  have fin:=ih (i+1) k (by omega) (by omega)
  unfold q1v qb6
  by_cases h0:i=0
  ·subst h0
   have h18' :q1u 600 600 x0 x1 ((P:Int)) x3 x4 x5 x6 x7 x8 x9 ((f:Int)) x11 b (((posF P w f p2 0:Nat):Int)) ((w:Int)) x15 x16 x17 (tab 16 (upT 0 (qjh b P w f p2))) x19 (((0:Nat):Int)) 1 1=some (x0,x1,(P:Int),x3,x4,x5,x6,x7,x8,x9,(f:Int),x11,b,((posF P w f p2 0:Nat):Int),(w:Int),x15,x16,x17,tab 16 (upT 0 (qjh b P w f p2)),x19,((0:Nat):Int),(qkl P w 0:Int),()):=h18
   simp only[i1,dT,cT,beqT (show((0:Nat):Int)=0 from rfl),yc,yd,yb,h18',y5,en,r]
   rw[q07 (by omega),qzw]
   exact fin
  ·have h18' :q1u 600 600 x0 x1 ((P:Int)) x3 x4 x5 x6 x7 x8 x9 ((f:Int)) x11 b (((posF P w f p2 i:Nat):Int)) ((w:Int)) x15 x16 x17 (tab 16 (upT i (qjh b P w f p2))) x19 (((i:Nat):Int)) 0 1=some (x0,x1,(P:Int),x3,x4,x5,x6,x7,x8,x9,(f:Int),x11,b,((posF P w f p2 i:Nat):Int),(w:Int),x15,x16,x17,tab 16 (upT i (qjh b P w f p2)),x19,((i:Nat):Int),(qkl P w i:Int),()):=by
    have hz:(i==0)=false:=by simp[h0]
    rw[hz]at h18
    exact h18
   simp only[i1,dT,cT,beqF (show((i:Nat):Int)≠0 by omega),cF,yc,yd,yb,h18',y5,en,r]
   rw[q07 (by omega),qzw]
   exact fin
theorem j98(x0:LI)(x1:LI)(x2:Int)(x3:Int)(x4:Int)(x5:Int)(x6:Int)(x7:Int)(x8:Int)(x9:Int)(x10:Int)(x12:LI)(x13:Int)(x14:Int)(x15:Int)(x16:Int)(x17:LI)(x18:LI)(x19:LI)(k:Nat):q0w 600 (k+1) x0 x1 x2 x3 x4 x5 x6 x7 x8 x9 x10 (((0:Nat):Int)) x12 x13 x14 x15 x16 x17 x18 x19 0=some (x0,x1,x2,x3,x4,x5,x6,x7,x8,x9,x10,((0:Nat):Int),x14,x15,x16,x17,x18,x19,()):=by
 unfold q0w q7l
 have:¬(0:Int)<((0:Nat):Int):=by omega
 simp only[this,dF,cF]
 cases decide ((0:Int)<16)<;>rfl
theorem rl20_all{b:LI}(hb:Bytes b)(hl:b.length=16)(x0:LI)(x1:LI)(x2:Int)(x3:Int)(x4:Int)(x5:Int)(x6:Int)(x7:Int)(x8:Int)(x9:Int)(x10:Int)(x14:Int)(x15:Int)(x16:Int)(x17:LI)(x18:LI){s p3:Nat}(hs:2≤s∧s≤3)(hp:p3+(16*s-1)≤128):
  ∀(d i k:Nat),i+d=16→d<k→q0w 600 k x0 x1 x2 x3 x4 x5 x6 x7 x8 x9 x10 ((s:Int)) b (((posS s p3 i:Nat):Int)) x14 x15 x16 x17 x18 (tab 16 (upT i (secV b s p3))) ((i:Int))=some (x0,x1,x2,x3,x4,x5,x6,x7,x8,x9,x10,(s:Int),x14,x15,x16,x17,x18,tab 16 (secV b s p3),()):=by
 intro d
 induction d with
 |zero=>
  intro i k h1 h2
  obtain⟨k,rfl⟩:∃k',k=k' +1:=⟨k-1,by omega⟩
  obtain rfl:i=16:=by omega
  unfold q0w q7l
  have:¬(((16:Nat):Int)<16):=by omega
  simp only[this,dF,cF,z57]
 |succ d ih=>
  intro i k h1 h2
  obtain⟨k,rfl⟩:∃k',k=k' +1:=⟨k-1,by omega⟩
  have i1:(i:Int)<16:=by omega
  have hle:(if i=0 then 1 else 0:Nat)≤1:=by split<;>omega
  have e1:=zzp (p3:=p3) (i:=i) hs.1
  have hm:posS s p3 (i+1)≤128:=by
   unfold posS
   rw[iN (by omega)]
   have:=Nat.mul_le_mul_right s (show i+1≤16 by omega)
   omega
  have es:secV b s p3 i=lv b (posS s p3 i) (s-(if i=0 then 1 else 0)):=by
   unfold secV
   exact iN (by omega)
  have r:=zcn hb hl (a:=posS s p3 i) (n:=s-(if i=0 then 1 else 0)) (by omega) (by omega)
  rw[←e1,←es]at r
  have is:(0:Int)<(s:Int):=by omega
  have fin:=ih (i+1) k (by omega) (by omega)
  unfold q0w q7l
  by_cases h0:i=0
  ·subst h0
   have ew:y0 .i64 ((s:Int)-1)=((s-1:Nat):Int):=by rw[w64 (by omega) (by omega)];omega
   rw[iP rfl]at r
   simp only[i1,is,dT,cT,beqT (show((0:Nat):Int)=0 from rfl),yc,yd,yb,ew,r,y5]
   rw[q07 (by omega),qzw]
   exact fin
  ·have ew:y0 .i64 ((s:Int)-0)=((s-0:Nat):Int):=by rw[w64 (by omega) (by omega)];omega
   rw[iN h0]at r
   simp only[i1,is,dT,cT,beqF (show((i:Nat):Int)≠0 by omega),cF,yc,yd,yb,ew,r,y5]
   rw[q07 (by omega),qzw]
   exact fin
theorem zvo(x0:LI)(x2:Int)(x3:Int)(x4:Int)(x5:Int)(x6:Int)(x7:Int)(x8:Int)(x9:Int)(x10:Int)(x11:Int)(x12:Int)(x13:Int)(x14:Int)(x15:LI)(x16:LI)(x17:LI)(x23:Int)(x24:Int){a z g q:Nat→Int}{p:Int}{n i:Nat}(hi:i<16)(hg:∀c,c<3→q8x 600 (a c) (z c) p (n:Int)=some (g c,())):
  ∀(d c k:Nat),c+d=3→d<k→q0x 600 k x0 (tab 64 fun j=>if j/4=i∧j%4<c then g (j%4)else q j) x2 x3 x4 x5 x6 x7 x8 x9 x10 x11 x12 x13 x14 x15 x16 x17 ((i:Int)) (tab 4 a) (tab 4 z) p ((n:Int)) x23 x24 ((c:Int))=some (x0,tab 64 fun j=>if j/4=i∧j%4<3 then g (j%4)else q j,x2,x3,x4,x5,x6,x7,x8,x9,x10,x11,x12,x13,x14,x15,x16,x17,(i:Int),tab 4 a,tab 4 z,x23,x24,()):=by
 intro d
 induction d with
 |zero=>
  intro c k h1 h2
  obtain⟨k,rfl⟩:∃k',k=k' +1:=⟨k-1,by omega⟩
  obtain rfl:c=3:=by omega
  unfold q0x qb7
  have:¬(((3:Nat):Int)<3):=by omega
  simp only[this,dF,cF]
 |succ d ih=>
  intro c k h1 h2
  obtain⟨k,rfl⟩:∃k',k=k' +1:=⟨k-1,by omega⟩
  have i1:(c:Int)<3:=by omega
  have i2:(c:Int)<4:=by omega
  have i3:(i:Int)<16:=by omega
  unfold q0x qb7
  simp only[i1,i2,i3,dT,cT,yc,yd,yb,q12 (show c<4 by omega),hg c (by omega),y5,q60]
  rw[q07 (by omega),q01 fun j hj=>show(if j=i*4+c then g c else if j/4=i∧j%4<c then g (j%4)else q j)=if j/4=i∧j%4<c+1 then g (j%4)else q j by
   by_cases h:j=i*4+c
   ·rw[iP h,iP (by omega),show j%4=c by omega]
   ·rw[iN h]
    by_cases h5:j/4=i∧j%4<c
    ·rw[iP h5,iP (by omega)]
    ·rw[iN h5,iN (by omega)]]
  exact ih (c+1) k (by omega) (by omega)
theorem out3{q:Nat→Int}(g:Nat→Int){i:Nat}(hi:i<16):(tab 64 fun j=>if j/4=i∧j%4<3 then g (j%4)else q j).set (3+i*4) (g 3)=tab 64 fun j=>if j/4=i then g (j%4)else q j:=by
 rw[q60]
 refine q01 fun j hj=> ?_
 by_cases h3:j=3+i*4
 ·rw[iP h3,iP (by omega),show j%4=3 by omega]
 ·rw[iN h3]
  by_cases h:j/4=i∧j%4<3
  ·rw[iP h,iP h.1]
  ·rw[iN h,iN (by omega)]
theorem zvp{q:Nat→Int}(g:Nat→Int){i:Nat}(hi:i<16){t:Int}(ht:0≤t∧t<4)(h:0<t):
  yy (yy (tab 64 fun j=>if j/4=i then g (j%4)else q j) (3+i*4) (y7 (tab 64 fun j=>if j/4=i then g (j%4)else q j) (i*4+(t-1).toNat) 0)) (i*4+(t-1).toNat) (y7 (tab 64 fun j=>if j/4=i then g (j%4)else q j) (3+i*4) 0)
   =tab 64 fun j=>if j/4=i then z8d t g (j%4)else q j:=by
 have e:(t-1).toNat=t.toNat-1:=by omega
 have ht3:t.toNat-1<3:=by omega
 rw[e,q12 (by omega),q12 (by omega),q60,q60]
 refine q01 fun j hj=> ?_
 rw[show(i*4+(t.toNat-1))%4=t.toNat-1 by omega,show(3+i*4)%4=3 by omega,show(i*4+(t.toNat-1))/4=i by omega,show(3+i*4)/4=i by omega,iP rfl,iP rfl]
 unfold z8d
 rw[iP h]
 by_cases h1:j/4=i
 ·rw[iP h1,iP h1]
  by_cases h2:j=i*4+(t.toNat-1)
  ·rw[iP h2,iP (by omega)]
  ·rw[iN h2]
   by_cases h3:j=3+i*4
   ·rw[iP h3,iN (by omega),iP (by omega)]
   ·rw[iN h3,iN (by omega),iN (by omega)]
 ·rw[iN h1,iN h1,iN (by omega),iN (by omega)]
theorem z0v(b:LI)(m:BM){i:Nat}(hi:i<16):(tab 64 fun j=>if j/4=i then texV b m i (j%4)else upT (i*4) (decF b m) j)=tab 64 (upT ((i+1)*4) (decF b m)):=by
 refine q01 fun j hj=> ?_
 unfold upT decF
 by_cases h:j/4=i
 ·rw[iP h,iP (by omega),h]
 ·rw[iN h]
  by_cases h2:j<i*4
  ·rw[iP h2,iP (by omega)]
  ·rw[iN h2,iN (by omega)]
theorem rl22_all(b:LI){m:BM}(ok:m.Ok)(x0:LI):
  ∀(d i k:Nat),i+d=16→d<k→q1w 600 k x0 (tab 64 (upT (i*4) (decF b m))) ((m.P:Int)) ((m.W:Int)) ((m.T:Int)) ((m.H:Int)) ((m.C:Int)) ((m.A:Int)) ((m.e:Int)) ((m.o:Int)) ((m.f:Int)) ((m.s:Int)) ((wN b m:Int)) (tN b m) (cN b m) (tab (2*m.P*4) (endF b m)) (tab 16 (firF b m)) (tab 16 (secF b m)) ((i:Int))=some (x0,tab 64 (decF b m),()):=by
 intro d
 induction d with
 |zero=>
  intro i k h1 h2
  obtain⟨k,rfl⟩:∃k',k=k' +1:=⟨k-1,by omega⟩
  obtain rfl:i=16:=by omega
  unfold q1w qb8
  have:¬(((16:Nat):Int)<16):=by omega
  simp only[this,dF,cF]
  rw[show 16*4=64 from rfl,z57]
 |succ d ih=>
  intro i k h1 h2
  obtain⟨k,rfl⟩:∃k',k=k' +1:=⟨k-1,by omega⟩
  have hi:i<16:=by omega
  have fin:=ih (i+1) k (by omega) (by omega)
  obtain⟨_,q2,q3⟩:=part9 ok.P1 ok.P3 (j94 b ok).2 hi
  have hP3:=ok.P3
  have ht:=j4p b ok
  have hcol:=j28 b ok i
  have halp:=j29 b ok i
  have i2:(2*m.P*4)/4=2*m.P:=by omega
  have e1:y0 .i64 (2*((q5v m.P (wN b m) i:Nat):Int))=((2*q5v m.P (wN b m) i:Nat):Int):=by rw[w64 (by omega) (by omega)];omega
  have e2:y0 .i64 (((2*q5v m.P (wN b m) i:Nat):Int)+1)=((2*q5v m.P (wN b m) i+1:Nat):Int):=q07 (by omega)
  have i3:((2*q5v m.P (wN b m) i:Nat):Int)<((2*m.P:Nat):Int):=by omega
  have i4:((2*q5v m.P (wN b m) i+1:Nat):Int)<((2*m.P:Nat):Int):=by omega
  have i5:(i:Int)<16:=by omega
  have r1:y8 4 (y9 (2*q5v m.P (wN b m) i*4) (tab (2*m.P*4) (endF b m)))=tab 4 (aF b m i):=qo5 (by omega)
  have r2:y8 4 (y9 ((2*q5v m.P (wN b m) i+1)*4) (tab (2*m.P*4) (endF b m)))=tab 4 (z9F b m i):=qo5 (by omega)
  unfold q1w qb8
  simp only[q2,y5,q0g,i2,e1,e2,i3,i4,i5,r1,r2,dT,cT,yc,yd,yb,q12 hi]
  by_cases hs:m.s=0
  ·have g1:¬(0:Int)<(m.s:Int):=by omega
   have hc1:colP b m i=(firF b m i,m.f):=iN (by omega)
   have ha1:alpP b m i=(firF b m i,m.f):=iN (by omega)
   rw[hc1]at hcol
   rw[ha1]at halp
   have g2:=beqF (show cN b m≠1 by
    have:=q4z b (m.base+m.W+m.T) m.H
    rw[ok.Hs hs]at this
    unfold cN
    rw[ok.Hs hs]
    omega)
   have h24:=zvo x0 ((m.P:Int)) ((m.W:Int)) ((m.T:Int)) ((m.H:Int)) ((m.C:Int)) ((m.A:Int)) ((m.e:Int)) ((m.o:Int)) ((m.f:Int)) ((m.s:Int)) ((wN b m:Int)) (tN b m) (cN b m) (tab (2*m.P*4) (endF b m)) (tab 16 (firF b m)) (tab 16 (secF b m)) (firF b m i) ((m.f:Int)) (a:=aF b m i) (z:=z9F b m i) (g:=preV b m i) (q:=upT (i*4) (decF b m)) (p:=firF b m i) (n:=m.f) hi (fun c hc=>by
    have:=(mix9 (q0r b ok (2*q5v m.P (wN b m) i*4+c)) (q0r b ok ((2*q5v m.P (wN b m) i+1)*4+c)) hcol.1 hcol.2).2
    unfold preV
    rw[iN (by omega),hc1]
    exact this) 3 0 600 (by omega) (by omega)
   have m3:=(mix9 (q0r b ok (2*q5v m.P (wN b m) i*4+3)) (q0r b ok ((2*q5v m.P (wN b m) i+1)*4+3)) halp.1 halp.2).2
   have p3:mx (aF b m i 3) (z9F b m i 3) (firF b m i) (m.f)=preV b m i 3:=by
    unfold preV
    rw[iP rfl,ha1]
   change q8x 600 (aF b m i 3) (z9F b m i 3) (firF b m i) (m.f:Int)=some (mx (aF b m i 3) (z9F b m i 3) (firF b m i) (m.f),())at m3
   rw[p3]at m3
   simp only[Nat.not_lt_zero,and_false,if_false,show((0:Nat):Int)=0 from rfl]at h24
   change q0x 600 600 x0 (tab 64 (upT (i*4) (decF b m))) ((m.P:Int)) ((m.W:Int)) ((m.T:Int)) ((m.H:Int)) ((m.C:Int)) ((m.A:Int)) ((m.e:Int)) ((m.o:Int)) ((m.f:Int)) ((m.s:Int)) ((wN b m:Int)) (tN b m) (cN b m) (tab (2*m.P*4) (endF b m)) (tab 16 (firF b m)) (tab 16 (secF b m)) ((i:Int)) (tab 4 (aF b m i)) (tab 4 (z9F b m i)) (firF b m i) ((m.f:Int)) (firF b m i) ((m.f:Int)) 0=_ at h24
   simp only[g1,g2,i5,dT,dF,cT,cF,yc,yd,h24,y5,q12 (show 3<4 by omega),m3,yb,out3 (preV b m i) hi]
   by_cases h:0<tN b m
   ·have ew:y0 .i64 (tN b m-1)=tN b m-1:=w64 (by omega) (by omega)
    have j1:(0:Int)≤tN b m-1:=by omega
    have j2:tN b m-1<4:=by omega
    simp only[h,dT,cT,ew,j1,j2,yd]
    rw[zvp (preV b m i) hi ht h,q07 (by omega),show(tab 64 fun j=>if j/4=i then z8d (tN b m) (preV b m i) (j%4)else upT (i*4) (decF b m) j)=tab 64 (upT ((i+1)*4) (decF b m))from z0v b m hi]
    exact fin
   ·simp only[h,dF,cF]
    rw[q07 (by omega),q01 fun j hj=>show(if j/4=i then preV b m i (j%4)else upT (i*4) (decF b m) j)=if j/4=i then texV b m i (j%4)else upT (i*4) (decF b m) j by
     unfold texV z8d
     rw[iN h],z0v b m hi]
    exact fin
  ·have g1:(0:Int)<(m.s:Int):=by omega
   by_cases hch:cN b m=1
   ·have g2:=beqT hch
    have hc1:colP b m i=(secF b m i,m.s):=iP ⟨hs,hch⟩
    have ha1:alpP b m i=(firF b m i,m.f):=iN (fun h=>h.2 hch)
    rw[hc1]at hcol
    rw[ha1]at halp
    have h24:=zvo x0 ((m.P:Int)) ((m.W:Int)) ((m.T:Int)) ((m.H:Int)) ((m.C:Int)) ((m.A:Int)) ((m.e:Int)) ((m.o:Int)) ((m.f:Int)) ((m.s:Int)) ((wN b m:Int)) (tN b m) (cN b m) (tab (2*m.P*4) (endF b m)) (tab 16 (firF b m)) (tab 16 (secF b m)) (firF b m i) ((m.f:Int)) (a:=aF b m i) (z:=z9F b m i) (g:=preV b m i) (q:=upT (i*4) (decF b m)) (p:=secF b m i) (n:=m.s) hi (fun c hc=>by
     have:=(mix9 (q0r b ok (2*q5v m.P (wN b m) i*4+c)) (q0r b ok ((2*q5v m.P (wN b m) i+1)*4+c)) hcol.1 hcol.2).2
     unfold preV
     rw[iN (by omega),hc1]
     exact this) 3 0 600 (by omega) (by omega)
    have m3:=(mix9 (q0r b ok (2*q5v m.P (wN b m) i*4+3)) (q0r b ok ((2*q5v m.P (wN b m) i+1)*4+3)) halp.1 halp.2).2
    have p3:mx (aF b m i 3) (z9F b m i 3) (firF b m i) (m.f)=preV b m i 3:=by
     unfold preV
     rw[iP rfl,ha1]
    change q8x 600 (aF b m i 3) (z9F b m i 3) (firF b m i) (m.f:Int)=some (mx (aF b m i 3) (z9F b m i 3) (firF b m i) (m.f),())at m3
    rw[p3]at m3
    simp only[Nat.not_lt_zero,and_false,if_false,show((0:Nat):Int)=0 from rfl]at h24
    change q0x 600 600 x0 (tab 64 (upT (i*4) (decF b m))) ((m.P:Int)) ((m.W:Int)) ((m.T:Int)) ((m.H:Int)) ((m.C:Int)) ((m.A:Int)) ((m.e:Int)) ((m.o:Int)) ((m.f:Int)) ((m.s:Int)) ((wN b m:Int)) (tN b m) (cN b m) (tab (2*m.P*4) (endF b m)) (tab 16 (firF b m)) (tab 16 (secF b m)) ((i:Int)) (tab 4 (aF b m i)) (tab 4 (z9F b m i)) (secF b m i) ((m.s:Int)) (firF b m i) ((m.f:Int)) 0=_ at h24
    simp only[g1,g2,i5,dT,dF,cT,cF,yc,yd,h24,y5,q12 (show 3<4 by omega),m3,yb,out3 (preV b m i) hi]
    by_cases h:0<tN b m
    ·have ew:y0 .i64 (tN b m-1)=tN b m-1:=w64 (by omega) (by omega)
     have j1:(0:Int)≤tN b m-1:=by omega
     have j2:tN b m-1<4:=by omega
     simp only[h,dT,cT,ew,j1,j2,yd]
     rw[zvp (preV b m i) hi ht h,q07 (by omega),show(tab 64 fun j=>if j/4=i then z8d (tN b m) (preV b m i) (j%4)else upT (i*4) (decF b m) j)=tab 64 (upT ((i+1)*4) (decF b m))from z0v b m hi]
     exact fin
    ·simp only[h,dF,cF]
     rw[q07 (by omega),q01 fun j hj=>show(if j/4=i then preV b m i (j%4)else upT (i*4) (decF b m) j)=if j/4=i then texV b m i (j%4)else upT (i*4) (decF b m) j by
      unfold texV z8d
      rw[iN h],z0v b m hi]
     exact fin
   ·have g2:=beqF hch
    have hc1:colP b m i=(firF b m i,m.f):=iN (fun h=>hch h.2)
    have ha1:alpP b m i=(secF b m i,m.s):=iP ⟨hs,hch⟩
    rw[hc1]at hcol
    rw[ha1]at halp
    have h24:=zvo x0 ((m.P:Int)) ((m.W:Int)) ((m.T:Int)) ((m.H:Int)) ((m.C:Int)) ((m.A:Int)) ((m.e:Int)) ((m.o:Int)) ((m.f:Int)) ((m.s:Int)) ((wN b m:Int)) (tN b m) (cN b m) (tab (2*m.P*4) (endF b m)) (tab 16 (firF b m)) (tab 16 (secF b m)) (secF b m i) ((m.s:Int)) (a:=aF b m i) (z:=z9F b m i) (g:=preV b m i) (q:=upT (i*4) (decF b m)) (p:=firF b m i) (n:=m.f) hi (fun c hc=>by
     have:=(mix9 (q0r b ok (2*q5v m.P (wN b m) i*4+c)) (q0r b ok ((2*q5v m.P (wN b m) i+1)*4+c)) hcol.1 hcol.2).2
     unfold preV
     rw[iN (by omega),hc1]
     exact this) 3 0 600 (by omega) (by omega)
    have m3:=(mix9 (q0r b ok (2*q5v m.P (wN b m) i*4+3)) (q0r b ok ((2*q5v m.P (wN b m) i+1)*4+3)) halp.1 halp.2).2
    have p3:mx (aF b m i 3) (z9F b m i 3) (secF b m i) (m.s)=preV b m i 3:=by
     unfold preV
     rw[iP rfl,ha1]
    change q8x 600 (aF b m i 3) (z9F b m i 3) (secF b m i) (m.s:Int)=some (mx (aF b m i 3) (z9F b m i 3) (secF b m i) (m.s),())at m3
    rw[p3]at m3
    simp only[Nat.not_lt_zero,and_false,if_false,show((0:Nat):Int)=0 from rfl]at h24
    change q0x 600 600 x0 (tab 64 (upT (i*4) (decF b m))) ((m.P:Int)) ((m.W:Int)) ((m.T:Int)) ((m.H:Int)) ((m.C:Int)) ((m.A:Int)) ((m.e:Int)) ((m.o:Int)) ((m.f:Int)) ((m.s:Int)) ((wN b m:Int)) (tN b m) (cN b m) (tab (2*m.P*4) (endF b m)) (tab 16 (firF b m)) (tab 16 (secF b m)) ((i:Int)) (tab 4 (aF b m i)) (tab 4 (z9F b m i)) (firF b m i) ((m.f:Int)) (secF b m i) ((m.s:Int)) 0=_ at h24
    simp only[g1,g2,i5,dT,dF,cT,cF,yc,yd,h24,y5,q12 (show 3<4 by omega),m3,yb,out3 (preV b m i) hi]
    by_cases h:0<tN b m
    ·have ew:y0 .i64 (tN b m-1)=tN b m-1:=w64 (by omega) (by omega)
     have j1:(0:Int)≤tN b m-1:=by omega
     have j2:tN b m-1<4:=by omega
     simp only[h,dT,cT,ew,j1,j2,yd]
     rw[zvp (preV b m i) hi ht h,q07 (by omega),show(tab 64 fun j=>if j/4=i then z8d (tN b m) (preV b m i) (j%4)else upT (i*4) (decF b m) j)=tab 64 (upT ((i+1)*4) (decF b m))from z0v b m hi]
     exact fin
    ·simp only[h,dF,cF]
     rw[q07 (by omega),q01 fun j hj=>show(if j/4=i then preV b m i (j%4)else upT (i*4) (decF b m) j)=if j/4=i then texV b m i (j%4)else upT (i*4) (decF b m) j by
      unfold texV z8d
      rw[iN h],z0v b m hi]
     exact fin
def g1' (b:LI)(m:BM)(j:Nat):Int:=g1 b m (bp0 m) (bp1 m) j
theorem j6e{b:LI}(hb:Bytes b)(hl:b.length=16):qhp 600 b=some (qji b,0,()):=by
 have hmd:=qmm (hb.getD 0)
 have hn:(((b.length:Nat):Int) !=16)=false:=by rw[hl];rfl
 unfold qhp qji
 rw[hn,rMode_is hb hl]
 simp only[cF,y5]
 by_cases h8:qa7 (b.getD 0 0)=8
 ·rw[h8,iP rfl]
  rfl
 rw[iN h8,beqF (by omega)]
 have hk:qa7 (b.getD 0 0)<8:=by omega
 generalize qa7 (b.getD 0 0)=k at hk
 have ok:=bm_ok hk
 have hbase:(bmOf k).base=k+1:=rfl
 have hrow:=row_is hk
 generalize bmOf k=m at ok hbase hrow
 obtain⟨hP1,hP3,hW6,hT2,hH1,hC1,hC7,hA8,he1,ho1,heo,hCe,hAe,hf2,hf4,hs3,hs0,hHs,hb8,hall⟩:=ok
 have ok:m.Ok:=⟨hP1,hP3,hW6,hT2,hH1,hC1,hC7,hA8,he1,ho1,heo,hCe,hAe,hf2,hf4,hs3,hs0,hHs,hb8,hall⟩
 obtain⟨hw,hw64⟩:=j94 b ok
 obtain⟨h3e,h3⟩:=bp3_le b ok
 have n8:bctable_ModesT298.length/10=8:=rfl
 have i1:(k:Int)<((8:Nat):Int):=by omega
 have g0:(qmw m).getD 0 0=(m.P:Int):=rfl
 have g1:(qmw m).getD 1 0=(m.W:Int):=rfl
 have g2:(qmw m).getD 2 0=(m.T:Int):=rfl
 have g3:(qmw m).getD 3 0=(m.H:Int):=rfl
 have g4:(qmw m).getD 4 0=(m.C:Int):=rfl
 have g5:(qmw m).getD 5 0=(m.A:Int):=rfl
 have g6:(qmw m).getD 6 0=(m.e:Int):=rfl
 have g7:(qmw m).getD 7 0=(m.o:Int):=rfl
 have g8:(qmw m).getD 8 0=(m.f:Int):=rfl
 have g9:(qmw m).getD 9 0=(m.s:Int):=rfl
 have e2:y0 .i64 (2*(m.P:Int))=((2*m.P:Nat):Int):=by rw[w64 (by omega) (by omega)];omega
 have r1:=zcn hb hl (a:=m.base) (n:=m.W) (by omega) (by omega)
 have r2:=zcn hb hl (a:=m.base+m.W) (n:=m.T) (by omega) (by omega)
 have r3:=zcn hb hl (a:=m.base+m.W+m.T) (n:=m.H) (by omega) (by omega)
 rw[hw]at r1
 rw[show lv b (m.base+m.W) m.T=tN b m from rfl]at r2
 rw[show lv b (m.base+m.W+m.T) m.H=cN b m from rfl,show m.base+m.W+m.T+m.H=bp0 m from rfl]at r3
 have i2:((2*m.P:Nat):Int)≤1099511627776:=by omega
 have l0:=rl0_all hb hl q03 q03 ((m.P:Int)) ((m.W:Int)) ((m.T:Int)) ((m.H:Int)) ((m.e:Int)) ((m.o:Int)) ((m.f:Int)) ((m.s:Int)) ((wN b m:Int)) (tN b m) (cN b m) ok (p0:=bp0 m) (by unfold bp0;omega) 595
 rw[show(595+5:Nat)=600 from rfl,show bp0 m+6*m.P*m.C+2*m.P*m.A=bp1 m from rfl]at l0
 have l12:=rl12_all b q03 q03 ((m.P:Int)) ((m.W:Int)) ((m.T:Int)) ((m.H:Int)) ((m.e:Int)) ((m.o:Int)) ((m.f:Int)) ((m.s:Int)) b (((bp2 m:Nat):Int)) ((wN b m:Int)) (tN b m) (cN b m) ok (bp0 m) (bp1 m) (2*m.P) 0 600 (by omega) (by omega)
 rw[show tab (2*m.P*4) (vG b m (bp0 m) (bp1 m) 0)=tab (2*m.P*4) (g1' b m)from q01 fun j hj=>iN (by omega),show((0:Nat):Int)=0 from rfl,show tab (2*m.P*4) (eF b m (bp0 m) (bp1 m))=tab (2*m.P*4) (endF b m)from rfl]at l12
 have l16:=rl16_all hb hl q03 q03 ((m.W:Int)) ((m.T:Int)) ((m.H:Int)) ((m.C:Int)) ((m.A:Int)) ((m.e:Int)) ((m.o:Int)) ((m.s:Int)) (tN b m) (cN b m) (tab (2*m.P*4) (endF b m)) q09 (P:=m.P) (w:=wN b m) (f:=m.f) (p2:=bp2 m) hP1 hP3 hw64 ⟨hf2,hf4⟩ (by have:=h3;unfold bp3 at this;omega) 16 0 600 (by omega) (by omega)
 rw[qkk,←sq0,show posF m.P (wN b m) m.f (bp2 m) 0=bp2 m from rfl,show((0:Nat):Int)=0 from rfl,show tab 16 (qjh b m.P (wN b m) m.f (bp2 m))=tab 16 (firF b m)from rfl]at l16
 have l20:q0w 600 600 q03 q03 ((m.P:Int)) ((m.W:Int)) ((m.T:Int)) ((m.H:Int)) ((m.C:Int)) ((m.A:Int)) ((m.e:Int)) ((m.o:Int)) ((m.f:Int)) ((m.s:Int)) b (((posF m.P (wN b m) m.f (bp2 m) 16:Nat):Int)) ((wN b m:Int)) (tN b m) (cN b m) (tab (2*m.P*4) (endF b m)) (tab 16 (firF b m)) q09 0=some (q03,q03,(m.P:Int),(m.W:Int),(m.T:Int),(m.H:Int),(m.C:Int),(m.A:Int),(m.e:Int),(m.o:Int),(m.f:Int),(m.s:Int),(wN b m:Int),tN b m,cN b m,tab (2*m.P*4) (endF b m),tab 16 (firF b m),tab 16 (secF b m),()):=by
  by_cases hs:m.s=0
  ·have q:q09=tab 16 (secF b m):=sq0.trans (q01 fun j hj=>by
    unfold secF secV
    rw[iP hs])
   rw[←q,hs]
   exact j98 q03 q03 ((m.P:Int)) ((m.W:Int)) ((m.T:Int)) ((m.H:Int)) ((m.C:Int)) ((m.A:Int)) ((m.e:Int)) ((m.o:Int)) ((m.f:Int)) b (((posF m.P (wN b m) m.f (bp2 m) 16:Nat):Int)) ((wN b m:Int)) (tN b m) (cN b m) (tab (2*m.P*4) (endF b m)) (tab 16 (firF b m)) q09 599
  ·have l:=rl20_all hb hl q03 q03 ((m.P:Int)) ((m.W:Int)) ((m.T:Int)) ((m.H:Int)) ((m.C:Int)) ((m.A:Int)) ((m.e:Int)) ((m.o:Int)) ((m.f:Int)) ((wN b m:Int)) (tN b m) (cN b m) (tab (2*m.P*4) (endF b m)) (tab 16 (firF b m)) (s:=m.s) (p3:=bp3 b m) (by omega) (by rw[iN hs]at h3;exact h3) 16 0 600 (by omega) (by omega)
   rw[qkk,←sq0,show posS m.s (bp3 b m) 0=posF m.P (wN b m) m.f (bp2 m) 16 from rfl,show((0:Nat):Int)=0 from rfl]at l
   exact l
 have l22:=rl22_all b ok q03 16 0 600 (by omega) (by omega)
 rw[Nat.zero_mul,qkk,←j4q,show((0:Nat):Int)=0 from rfl]at l22
 unfold z4i
 simp only[cF,n8,i1,dT,cT,yc,yd,yb,y5,hrow,g0,g1,g2,g3,g4,g5,g6,g7,g8,g9]
 rw[q07 (by omega),←hbase]
 simp only[r1,r2,r3,y5,e2,i2,dT,yc,yd,cT,yb,j8x,l0]
 by_cases he:m.e=1
 ·have ho:m.o=0:=by omega
  have l4:=rl4_all hb hl q03 q03 ((m.P:Int)) ((m.W:Int)) ((m.T:Int)) ((m.H:Int)) ((m.C:Int)) ((m.A:Int)) ((m.e:Int)) ((m.o:Int)) ((m.f:Int)) ((m.s:Int)) ((wN b m:Int)) (tN b m) (cN b m) ok he (bp0 m) (bp1 m) (by have:=h3;unfold bp2 at h3e;rw[he,Nat.mul_one]at h3e;omega) (2*m.P) 0 600 (by omega) (by omega)
  rw[show tab (2*m.P*4) (bG b m (bp0 m) (bp1 m) 0)=tab (2*m.P*4) (e0 b m (bp0 m))from q01 fun j hj=>iN (by omega),show((0:Nat):Int)=0 from rfl,Nat.add_zero,
   show tab (2*m.P*4) (bG b m (bp0 m) (bp1 m) (2*m.P))=tab (2*m.P*4) (g1' b m)from q01 fun j hj=>by
    unfold bG g1' Gn.g1
    rw[iP (by omega),he,ho]
    rfl,show bp1 m+2*m.P=bp2 m by unfold bp2;rw[he,ho];omega]at l4
  rw[show((m.e+m.o:Nat):Int)=1 by omega]at l12
  simp only[beqT (show((m.e:Nat):Int)=1 by omega),beqF (show((m.o:Nat):Int)≠1 by omega),cT,cF,l4,l12,l16,l20,l22,y5]
 ·by_cases ho:m.o=1
  ·have he0:m.e=0:=by omega
   have l8:=rl8_all hb hl q03 q03 ((m.P:Int)) ((m.W:Int)) ((m.T:Int)) ((m.H:Int)) ((m.C:Int)) ((m.A:Int)) ((m.e:Int)) ((m.o:Int)) ((m.f:Int)) ((m.s:Int)) ((wN b m:Int)) (tN b m) (cN b m) ok ho (bp0 m) (bp1 m) (by have:=h3;unfold bp2 at h3e;rw[ho,Nat.mul_one]at h3e;omega) m.P 0 600 (by omega) (by omega)
   rw[Nat.mul_zero,show tab (2*m.P*4) (bG b m (bp0 m) (bp1 m) 0)=tab (2*m.P*4) (e0 b m (bp0 m))from q01 fun j hj=>iN (by omega),show((0:Nat):Int)=0 from rfl,Nat.add_zero,
    show tab (2*m.P*4) (bG b m (bp0 m) (bp1 m) (2*m.P))=tab (2*m.P*4) (g1' b m)from q01 fun j hj=>by
     unfold bG g1' Gn.g1
     rw[iP (by omega),he0,ho]
     rfl,show bp1 m+m.P=bp2 m by unfold bp2;rw[he0,ho];omega]at l8
   rw[show((m.e+m.o:Nat):Int)=1 by omega]at l12
   simp only[beqF (show((m.e:Nat):Int)≠1 by omega),beqT (show((m.o:Nat):Int)=1 by omega),cT,cF,l8,l12,l16,l20,l22,y5]
  ·have he0:m.e=0:=by omega
   have ho0:m.o=0:=by omega
   have hg:tab (2*m.P*4) (e0 b m (bp0 m))=tab (2*m.P*4) (g1' b m):=q01 fun j hj=>by
    unfold g1' Gn.g1 bitV
    rw[iN he,iN ho,he0,ho0]
    omega
   rw[show((m.e+m.o:Nat):Int)=0 by omega,←hg,show bp2 m=bp1 m by unfold bp2;rw[he0,ho0];omega]at l12
   rw[show bp2 m=bp1 m by unfold bp2;rw[he0,ho0];omega]at l16 l20
   simp only[beqF (show((m.e:Nat):Int)≠1 by omega),beqF (show((m.o:Nat):Int)≠1 by omega),cT,cF,l12,l16,l20,l22,y5]
theorem j99:((w8 256).all fun x=>decide ((math_bits_TrailingZeros8T292.getD x 0).toNat≤8))=true:=by decide+kernel
theorem j6f(b:LI){j:Nat}(hj:j<64):0≤(qji b).getD j 0∧(qji b).getD j 0≤255:=by
 unfold qji
 split
 ·rw[j4q,q12 hj]
  omega
 ·rename_i h
  rw[q12 hj]
  by_cases hk:qa7 (b.getD 0 0)<8
  ·exact j6d b (bm_ok hk) _ _
  ·exfalso
   have:∀x:Int,qa7 x≤8:=fun x=>by
    unfold qa7
    by_cases h2:x.toNat<256
    ·have:=List.all_eq_true.1 j99 x.toNat (by simpa using h2)
     simpa using this
    ·have h3:math_bits_TrailingZeros8T292.length=256:=by decide+kernel
     rw[ye,wa (by omega)]
     decide
   have:=this (b.getD 0 0)
   omega
theorem j9a{b c:LI}(hb:Bytes b)(hc:Bytes c)(hl:b.length=16)(hcl:c.length=16){k:Nat}(hk:qa7 (b.getD 0 0)=k)(h8:k<8)(h:∀q,q≤k→q39 c q=q39 b q):qa7 (c.getD 0 0)=k:=by
 obtain⟨_,b8,bz,b1⟩:=qmm (hb.getD 0)
 obtain⟨_,c8,cz,c1⟩:=qmm (hc.getD 0)
 rw[hk]at b8 bz b1
 generalize qa7 (c.getD 0 0)=q at c8 cz c1
 have g:∀q,q≤k→bitL (c.getD 0 0) q=bitL (b.getD 0 0) q:=fun q hq=>by
  have:=h q hq
  rw[z8e c (by omega),z8e b (by omega)]at this
  exact this
 by_cases h1:q<k
 ·have e1:=c1 (by omega)
  rw[g q (by omega),bz q h1]at e1
  omega
 ·by_cases h2:k<q
  ·have e1:=cz k h2
   rw[g k (by omega),b1 h8]at e1
   omega
  ·omega
def endV(ends more:LI)(j:Nat):Int:=2*(ends.getD j 0%128)+more.getD (j/4) 0%2
theorem j6g(ends more:LI)(j:Nat):0≤endV ends more j∧endV ends more j≤255:=by
 unfold endV
 omega
def okV(n:Nat)(v:Int):Bool:=decide (0≤v∧v<2^n)
theorem wrapU(v:Int)(h: -9223372036854775808≤v∧v≤9223372036854775807):(0≤y0 .u64 v∧y0 .u64 v≤18446744073709551615)∧(0≤v→y0 .u64 v=v)∧(v<0→9223372036854775808≤y0 .u64 v):=by
 by_cases h0:0≤v
 ·rw[wu64 h0 (by omega)]
  omega
 ·have:y0 .u64 v=v+18446744073709551616:=by
   simp only[y0]
   simp[IntKind.signed,IntKind.bits]
   omega
  rw[this]
  omega
theorem lay9_is{l:LI}(hb:Bytes l)(hl:l.length=16){a n:Nat}(hn:n≤7)(h:a+n≤128){v:Int}(hv: -9223372036854775808≤v∧v≤9223372036854775807)(fine:Bool):
  q3m 600 v (n:Int) l (a:Int) fine=some (if fine&&okV n v then(lset l a n v,((a+n:Nat):Int),true,())else(l,(a:Int),false,())):=by
 obtain⟨hu,hp,hneg⟩:=wrapU v hv
 have hchk:chk l.length a n=0:=zli (by omega) (by omega)
 have ew:y0 .i64 ((a:Int)+(n:Int))=((a+n:Nat):Int):=by rw[w64 (by omega) (by omega),Int.natCast_add]
 have h2n:(2:Int)^n≤2^7:=q34 hn
 have h2p:=q87 n
 unfold q3m
 by_cases hok:0≤v∧v<2^n
 ·rw[hp hok.1,zlj (by omega) hb (by omega) (by omega) (by omega) hok]
  have:okV n v=true:=by simpa[okV]using hok
  cases fine<;>simp only[y5,cT,cF,beq_self_eq_true,ew,this,Bool.and_true,Bool.true_and,Bool.false_and,if_true,yn,if_false]
 ·rw[zz3 (by omega) hb (by omega) (by omega) hu]
  have:okV n v=false:=by simpa[okV]using hok
  have hf:qr9 l.length a n (y0 .u64 v)=10:=by
   unfold qr9
   rw[iP hchk,iP]
   refine⟨by omega,fun he=> ?_⟩
   rw[yb]at he
   have hge:2^n≤y0 .u64 v:=by
    by_cases h0:0≤v
    ·rw[hp h0]
     omega
    ·have:=hneg (by omega)
     omega
   have:(1:Int)≤y0 .u64 v/2^n:=(Int.le_ediv_iff_mul_le h2p).2 (by omega)
   omega
  have z:((10:Int)==0)=false:=rfl
  cases fine<;>simp only[y5,hf,z,cT,cF,this,Bool.and_false,yn,if_false]
def sN(t:Nat):Nat:=if t<8 then 7 else if t<10 then 1 else if t=10 then 3 else 4
def sA:Nat→Nat
 |0=>7
 |t+1=>sA t+sN t
def sV(ends more which:LI)(t:Nat):Int:=if t<8 then ends.getD (t%2*4+t/2) 0 else if t<10 then more.getD (t-8) 0 else which.getD (t-10) 0
def okS(ends more which:LI)(t:Nat):Bool:=okV (sN t) (sV ends more which t)
def sS(ends more which:LI):Nat→LI×Nat×Bool
 |0=>(ref09_SixT5836,7,true)
 |t+1=>let s:=sS ends more which t
  if s.2.2&&okS ends more which t then(lset s.1 s.2.1 (sN t) (sV ends more which t),s.2.1+sN t,true)else(s.1,s.2.1,false)
theorem j9b:((w8 27).all fun t=>decide (sA t≤128))=true:=by decide+kernel
theorem j9c{t:Nat}(h:t≤26):sA t≤128:=by simpa using List.all_eq_true.1 j9b t (List.mem_range.2 (by omega))
theorem sN_le(t:Nat):sN t≤7:=by
 unfold sN
 split
 ·omega
 ·split
  ·omega
  ·split<;>omega
theorem sA_mono:∀{s t:Nat},s≤t→sA s≤sA t:=by
 intro s t h
 induction h with
 |refl=>exact wc _
 |step h ih=>exact Nat.le_trans ih (by simp only[sA];omega)
theorem j4s(ends more which:LI):∀t,Bytes (sS ends more which t).1∧(sS ends more which t).1.length=16∧(sS ends more which t).2.1≤sA t∧((sS ends more which t).2.2=true→(sS ends more which t).2.1=sA t)
 |0=>by
  refine⟨?_,rfl,wc _,fun _=>rfl⟩
  have:(ref09_SixT5836.all fun x=>decide (0≤x∧x≤255))=true:=by decide+kernel
  intro x hx
  simpa using List.all_eq_true.1 this x hx
 |t+1=>by
  obtain⟨h1,h2,h3,h4⟩:=j4s ends more which t
  simp only[sS]
  by_cases h:((sS ends more which t).2.2&&okS ends more which t)=true
  ·rw[iP h]
   have:=h4 (Bool.and_eq_true_iff.1 h).1
   exact⟨qgh h1 _ _ _,by rw[qo3];exact h2,by simp only[sA];omega,fun _=>by simp only[sA];omega⟩
  ·rw[iN h]
   exact⟨h1,h2,by simp only[sA];omega,fun e=>by cases e⟩
theorem z8f(ends more which:LI)(hV:∀t,t<26→-9223372036854775808≤sV ends more which t∧sV ends more which t≤9223372036854775807){t:Nat}(ht:t<26):
  q3m 600 (sV ends more which t) (sN t:Int) (sS ends more which t).1 ((sS ends more which t).2.1:Int) (sS ends more which t).2.2=some ((sS ends more which (t+1)).1,((sS ends more which (t+1)).2.1:Int),(sS ends more which (t+1)).2.2,()):=by
 obtain⟨h1,h2,h3,h4⟩:=j4s ends more which t
 have h5:=j9c (show t+1≤26 by omega)
 simp only[sA]at h5
 rw[lay9_is h1 h2 (sN_le t) (by omega) (hV t ht),show okV (sN t) (sV ends more which t)=okS ends more which t from rfl]
 simp only[sS]
 by_cases h:((sS ends more which t).2.2&&okS ends more which t)=true
 ·rw[iP h,iP h]
 ·rw[iN h,iN h]
theorem j6h(ends more which:LI)(hV:∀t,t<26→-9223372036854775808≤sV ends more which t∧sV ends more which t≤9223372036854775807):∀(d c k:Nat),c+d=4→d<k→
  q56 600 k ends more which (sS ends more which (2*c)).1 (sS ends more which (2*c)).2.2 ((sS ends more which (2*c)).2.1:Int) (c:Int)=some (more,which,(sS ends more which 8).1,(sS ends more which 8).2.2,((sS ends more which 8).2.1:Int),()):=by
 intro d
 induction d with
 |zero=>
  intro c k h1 h2
  obtain⟨k,rfl⟩:∃k',k=k' +1:=⟨k-1,by omega⟩
  obtain rfl:c=4:=by omega
  unfold q56 qe1
  have:¬(((4:Nat):Int)<4):=by omega
  simp only[this,dF,cF]
 |succ d ih=>
  intro c k h1 h2
  obtain⟨k,rfl⟩:∃k',k=k' +1:=⟨k-1,by omega⟩
  have hc:c<4:=by omega
  have i1:(c:Int)<4:=by omega
  have s1:=z8f ends more which hV (t:=2*c) (by omega)
  have s2:=z8f ends more which hV (t:=2*c+1) (by omega)
  have n1:sN (2*c)=7:=iP (by omega)
  have n2:sN (2*c+1)=7:=iP (by omega)
  have v1:sV ends more which (2*c)=ends.getD c 0:=by
   unfold sV
   rw[iP (by omega)]
   congr 1
   omega
  have v2:sV ends more which (2*c+1)=ends.getD (4+c) 0:=by
   unfold sV
   rw[iP (by omega)]
   congr 1
   omega
  rw[n1,v1,show((7:Nat):Int)=7 from rfl]at s1
  rw[n2,v2,show((7:Nat):Int)=7 from rfl]at s2
  unfold q56 qe1
  simp only[i1,dT,cT,yc,yd,yb,s1,s2,y5]
  rw[q07 (by omega)]
  exact ih (c+1) k (by omega) (by omega)
theorem j6i(ends more which:LI)(hV:∀t,t<26→-9223372036854775808≤sV ends more which t∧sV ends more which t≤9223372036854775807):∀(d i k:Nat),i+d=16→d<k→
  q57 600 k (sS ends more which (10+i)).1 (sS ends more which (10+i)).2.2 ((sS ends more which (10+i)).2.1:Int) which (i:Int)=some ((sS ends more which 26).1,(sS ends more which 26).2.2,()):=by
 intro d
 induction d with
 |zero=>
  intro i k h1 h2
  obtain⟨k,rfl⟩:∃k',k=k' +1:=⟨k-1,by omega⟩
  obtain rfl:i=16:=by omega
  unfold q57 qe2
  have:¬(((16:Nat):Int)<16):=by omega
  simp only[this,dF,cF]
 |succ d ih=>
  intro i k h1 h2
  obtain⟨k,rfl⟩:∃k',k=k' +1:=⟨k-1,by omega⟩
  have i1:(i:Int)<16:=by omega
  have hz:(!(((i+1:Nat):Int)==0))=true:=by
   rw[beqF (by omega)]
   rfl
  have s1:=z8f ends more which hV (t:=10+i) (by omega)
  have v1:sV ends more which (10+i)=which.getD i 0:=by
   unfold sV
   rw[iN (by omega),iN (by omega)]
   congr 1
   omega
  have hle:(if i=0 then 1 else 0:Nat)≤1:=by split<;>omega
  have ew:y0 .i64 (((if i=0 then 1 else 0:Nat):Int))=((if i=0 then 1 else 0:Nat):Int):=w64 (by omega) (by omega)
  have en:y0 .i64 (4-((if i=0 then 1 else 0:Nat):Int))=((sN (10+i):Nat):Int):=by
   by_cases h:i=0
   ·subst h
    rfl
   ·have:sN (10+i)=4:=by
     unfold sN
     rw[iN (by omega),iN (by omega),iN (by omega)]
    rw[this]
    simp only[h,if_false]
    rfl
  rw[v1]at s1
  unfold q57 qe2
  simp only[i1,dT,cT,yc,yd,yb]
  rw[q07 (by omega)]
  simp only[hz,cT,j4n,ew,en,s1,y5]
  exact ih (i+1) k (by omega) (by omega)
theorem six_base:q89 600 q09 6 1 1=some (ref09_SixT5836,0,()):=by kernel_rfl
theorem Six_is(ends more which:LI)(hV:∀t,t<26→-9223372036854775808≤sV ends more which t∧sV ends more which t≤9223372036854775807):
  qfs 600 ends more which=some (if(sS ends more which 26).2.2 then((sS ends more which 26).1,0,())else([],1,())):=by
 have l0:q56 600 600 ends more which ref09_SixT5836 true (7:Int) (0:Int)=_:=j6h ends more which hV 4 0 600 (by omega) (by omega)
 have s8:=z8f ends more which hV (t:=8) (by omega)
 have s9:=z8f ends more which hV (t:=9) (by omega)
 have v8:sV ends more which 8=more.getD 0 0:=rfl
 have v9:sV ends more which 9=more.getD 1 0:=rfl
 rw[v8,show((sN 8:Nat):Int)=1 from rfl]at s8
 rw[v9,show((sN 9:Nat):Int)=1 from rfl]at s9
 have l2:q57 600 600 (sS ends more which 10).1 (sS ends more which 10).2.2 ((sS ends more which 10).2.1:Int) which (0:Int)=_:=j6i ends more which hV 16 0 600 (by omega) (by omega)
 unfold qfs
 rw[six_base]
 simp only[y5,l0,s8,s9,l2]
 cases(sS ends more which 26).2.2<;>rfl
def okU(ends more which:LI)(t:Nat):Bool:=(w8 t).all (okS ends more which)
theorem z8g(ends more which:LI)(t:Nat):okU ends more which (t+1)=(okU ends more which t&&okS ends more which t):=by
 unfold okU
 rw[List.range_succ,List.all_append]
 simp
theorem sS_ok(ends more which:LI):∀t,(sS ends more which t).2.2=okU ends more which t∧(okU ends more which t=true→(sS ends more which t).1=z1s sA sN (sV ends more which) ref09_SixT5836 t)
 |0=>⟨rfl,fun _=>rfl⟩
 |t+1=>by
  obtain⟨h1,h2⟩:=sS_ok ends more which t
  have h3:=(j4s ends more which t).2.2.2
  rw[z8g]
  simp only[sS]
  by_cases h:((sS ends more which t).2.2&&okS ends more which t)=true
  ·rw[iP h]
   rw[h1]at h
   rw[h]
   have h4:=(Bool.and_eq_true_iff.1 h).1
   exact⟨rfl,fun _=>by rw[h2 h4,h3 (by rw[h1];exact h4)];rfl⟩
  ·rw[iN h]
   rw[h1,Bool.not_eq_true]at h
   rw[h]
   exact⟨rfl,fun e=>by cases e⟩
theorem j9d(ends more which:LI){s t:Nat}(h:s≤t)(ht:okU ends more which t=true):okU ends more which s=true:=by
 unfold okU at*
 rw[List.all_eq_true]at*
 intro x hx
 exact ht x (List.mem_range.2 (by have:=List.mem_range.1 hx;omega))
theorem zr8(ends more which:LI){s t:Nat}(h:s<t)(ht:okU ends more which t=true):okS ends more which s=true:=by
 unfold okU at ht
 rw[List.all_eq_true]at ht
 exact ht s (List.mem_range.2 h)
abbrev sL(ends more which:LI)(t:Nat):LI:=z1s sA sN (sV ends more which) ref09_SixT5836 t
theorem qi6:Bytes ref09_SixT5836:=(j4s [] [] [] 0).1
theorem z8h(ends more which:LI){t:Nat}(ht:t<26)(hv:0≤sV ends more which t∧sV ends more which t<2^sN t):
  q2b 600 (sL ends more which t) (sA t:Int) (sN t:Int) false (y0 .u64 (sV ends more which t))=some (sL ends more which (t+1),0,()):=by
 have h5:=j9c (show t+1≤26 by omega)
 simp only[sA]at h5
 have h2n:(2:Int)^sN t≤2^7:=q34 (sN_le t)
 have hlen:(z1s sA sN (sV ends more which) ref09_SixT5836 t).length=16:=by rw[qi3];rfl
 rw[wu64 hv.1 (by omega),zqy (by omega) (q74 _ _ _ qi6 t) (by omega) (by have:=sN_le t;omega) (by omega) hv]
 rfl
theorem j2b(ends more which:LI){c:Nat}(hc:c<4):∀(d i k:Nat),i+d=2→d<k→okU ends more which (2*c+i)=true→
  q80 600 k ends more which (sL ends more which (2*c+i)) (sA (2*c+i):Int) (c:Int) (i:Int)=some (if okU ends more which (2*(c+1))then .inr (ends,more,which,sL ends more which (2*(c+1)),(sA (2*(c+1)):Int),(c:Int),())else .inl ()):=by
 intro d
 induction d with
 |zero=>
  intro i k h1 h2 h3
  obtain⟨k,rfl⟩:∃k',k=k' +1:=⟨k-1,by omega⟩
  obtain rfl:i=2:=by omega
  unfold q80 qk2
  have:¬(((2:Nat):Int)<2):=by omega
  rw[show 2*(c+1)=2*c+2 by omega]
  simp only[this,dF,cF,h3,if_true]
 |succ d ih=>
  intro i k h1 h2 h3
  obtain⟨k,rfl⟩:∃k',k=k' +1:=⟨k-1,by omega⟩
  have i1:(i:Int)<2:=by omega
  have i2:(c:Int)<4:=by omega
  have n1:sN (2*c+i)=7:=iP (by omega)
  have v1:sV ends more which (2*c+i)=ends.getD (i*4+c) 0:=by
   unfold sV
   rw[iP (by omega),show(2*c+i)%2=i by omega,show(2*c+i)/2=c by omega]
  have bad:okS ends more which (2*c+i)=false→okU ends more which (2*(c+1))=false:=fun h=>by
   rw[←Bool.not_eq_true]
   intro e
   rw[zr8 ends more which (show 2*c+i<2*(c+1) by omega) e]at h
   cases h
  unfold q80 qk2
  simp only[i1,i2,dT,cT,yc,yd,yb]
  by_cases hlo:ends.getD (i*4+c) 0<0
  ·simp only[hlo,dT,cT]
   rw[bad (by
    unfold okS okV
    rw[v1]
    simp only[decide_eq_false_iff_not]
    omega)]
   rfl
  ·by_cases hhi:127<ends.getD (i*4+c) 0
   ·simp only[hlo,hhi,dT,dF,cT,cF]
    rw[bad (by
     unfold okS okV
     rw[v1,n1]
     simp only[decide_eq_false_iff_not]
     omega)]
    rfl
   ·have hok:0≤sV ends more which (2*c+i)∧sV ends more which (2*c+i)<2^sN (2*c+i):=by
     rw[v1,n1]
     omega
    have s1:=z8h ends more which (t:=2*c+i) (by omega) hok
    rw[v1,n1,show((7:Nat):Int)=7 from rfl]at s1
    have ha:=j9c (show 2*c+i≤26 by omega)
    have e7:y0 .i64 ((sA (2*c+i):Int)+7)=((sA (2*c+(i+1)):Nat):Int):=by
     rw[w64 (by omega) (by omega),show 2*c+(i+1)=(2*c+i)+1 from rfl]
     simp only[sA,n1]
     omega
    simp only[hlo,hhi,dF,cF,s1,y5,e7]
    rw[q07 (by omega)]
    exact ih (i+1) k (by omega) (by omega) (by
     rw[show 2*c+(i+1)=(2*c+i)+1 from rfl,z8g,h3]
     unfold okS okV
     simpa using hok)
theorem j2c(ends more which:LI):∀(d c k:Nat),c+d=4→d<k→okU ends more which (2*c)=true→
  q81 600 k ends more which (sL ends more which (2*c)) (sA (2*c):Int) (c:Int)=some (if okU ends more which 8 then .inr (more,which,sL ends more which 8,(sA 8:Int),())else .inl ()):=by
 intro d
 induction d with
 |zero=>
  intro c k h1 h2 h3
  obtain⟨k,rfl⟩:∃k',k=k' +1:=⟨k-1,by omega⟩
  obtain rfl:c=4:=by omega
  unfold q81 qk3
  have:¬(((4:Nat):Int)<4):=by omega
  have h3' :okU ends more which 8=true:=h3
  simp only[this,dF,cF,h3',if_true]
 |succ d ih=>
  intro c k h1 h2 h3
  obtain⟨k,rfl⟩:∃k',k=k' +1:=⟨k-1,by omega⟩
  have hc:c<4:=by omega
  have i1:(c:Int)<4:=by omega
  have l2:q80 600 600 ends more which (sL ends more which (2*c)) (sA (2*c):Int) (c:Int) (0:Int)=_:=j2b ends more which hc 2 0 600 (by omega) (by omega) h3
  unfold q81 qk3
  simp only[i1,dT,cT,l2,y5]
  by_cases h:okU ends more which (2*(c+1))=true
  ·simp only[h,if_true]
   rw[q07 (by omega)]
   exact ih (c+1) k (by omega) (by omega) h
  ·have h8:¬okU ends more which 8=true:=fun e=>h (j9d ends more which (by omega) e)
   simp only[h,h8,yn,if_false]
theorem j2d(ends more which:LI):∀(d i k:Nat),i+d=2→d<k→okU ends more which (8+i)=true→
  q82 600 k more which (sL ends more which (8+i)) (sA (8+i):Int) (i:Int)=some (if okU ends more which 10 then .inr (which,sL ends more which 10,(sA 10:Int),())else .inl ()):=by
 intro d
 induction d with
 |zero=>
  intro i k h1 h2 h3
  obtain⟨k,rfl⟩:∃k',k=k' +1:=⟨k-1,by omega⟩
  obtain rfl:i=2:=by omega
  unfold q82 qk4
  have:¬(((2:Nat):Int)<2):=by omega
  have h3' :okU ends more which 10=true:=h3
  simp only[this,dF,cF,h3',if_true]
 |succ d ih=>
  intro i k h1 h2 h3
  obtain⟨k,rfl⟩:∃k',k=k' +1:=⟨k-1,by omega⟩
  have i1:(i:Int)<2:=by omega
  have n1:sN (8+i)=1:=by
   unfold sN
   rw[iN (by omega),iP (by omega)]
  have v1:sV ends more which (8+i)=more.getD i 0:=by
   unfold sV
   rw[iN (by omega),iP (by omega)]
   congr 1
   omega
  have bad:okS ends more which (8+i)=false→okU ends more which 10=false:=fun h=>by
   rw[←Bool.not_eq_true]
   intro e
   rw[zr8 ends more which (show 8+i<10 by omega) e]at h
   cases h
  unfold q82 qk4
  simp only[i1,dT,cT,yc,yd,yb]
  by_cases hlo:more.getD i 0<0
  ·simp only[hlo,dT,cT]
   rw[bad (by
    unfold okS okV
    rw[v1]
    simp only[decide_eq_false_iff_not]
    omega)]
   rfl
  ·by_cases hhi:1<more.getD i 0
   ·simp only[hlo,hhi,dT,dF,cT,cF]
    rw[bad (by
     unfold okS okV
     rw[v1,n1]
     simp only[decide_eq_false_iff_not]
     omega)]
    rfl
   ·have hok:0≤sV ends more which (8+i)∧sV ends more which (8+i)<2^sN (8+i):=by
     rw[v1,n1]
     omega
    have s1:=z8h ends more which (t:=8+i) (by omega) hok
    rw[v1,n1,show((1:Nat):Int)=1 from rfl]at s1
    have ha:=j9c (show 8+i≤26 by omega)
    have e7:y0 .i64 ((sA (8+i):Int)+1)=((sA (8+(i+1)):Nat):Int):=by
     rw[w64 (by omega) (by omega),show 8+(i+1)=(8+i)+1 from rfl]
     simp only[sA,n1]
     omega
    simp only[hlo,hhi,dF,cF,s1,y5,e7]
    rw[q07 (by omega)]
    exact ih (i+1) k (by omega) (by omega) (by
     rw[show 8+(i+1)=(8+i)+1 from rfl,z8g,h3]
     unfold okS okV
     simpa using hok)
theorem j2e(ends more which:LI):∀(d i k:Nat),i+d=16→d<k→okU ends more which (10+i)=true→
  q83 600 k which (sL ends more which (10+i)) (sA (10+i):Int) (i:Int)=some (if okU ends more which 26 then .inr (sL ends more which 26,())else .inl ()):=by
 intro d
 induction d with
 |zero=>
  intro i k h1 h2 h3
  obtain⟨k,rfl⟩:∃k',k=k' +1:=⟨k-1,by omega⟩
  obtain rfl:i=16:=by omega
  unfold q83 qk5
  have:¬(((16:Nat):Int)<16):=by omega
  have h3' :okU ends more which 26=true:=h3
  simp only[this,dF,cF,h3',if_true]
 |succ d ih=>
  intro i k h1 h2 h3
  obtain⟨k,rfl⟩:∃k',k=k' +1:=⟨k-1,by omega⟩
  have i1:(i:Int)<16:=by omega
  have v1:sV ends more which (10+i)=which.getD i 0:=by
   unfold sV
   rw[iN (by omega),iN (by omega)]
   congr 1
   omega
  have bad:okS ends more which (10+i)=false→okU ends more which 26=false:=fun h=>by
   rw[←Bool.not_eq_true]
   intro e
   rw[zr8 ends more which (show 10+i<26 by omega) e]at h
   cases h
  have ha:=j9c (show 10+i≤26 by omega)
  have lo:which.getD i 0<0→okU ends more which 26=false:=fun h=>bad (by
   unfold okS okV
   rw[v1]
   simp only[decide_eq_false_iff_not]
   omega)
  unfold q83 qk5
  by_cases h0:i=0
  ·subst h0
   have n1:sN (10+0)=3:=rfl
   simp only[i1,dT,cT,beqT (show((0:Nat):Int)=0 from rfl),yc,yd,yb]
   by_cases hlo:which.getD 0 0<0
   ·simp only[hlo,dT,cT]
    rw[lo hlo]
    rfl
   ·by_cases hhi:7<which.getD 0 0
    ·simp only[hlo,hhi,dT,dF,cT,cF]
     rw[bad (by
      unfold okS okV
      rw[v1,n1]
      simp only[decide_eq_false_iff_not]
      omega)]
     rfl
    ·have hok:0≤sV ends more which (10+0)∧sV ends more which (10+0)<2^sN (10+0):=by
      rw[v1,n1]
      omega
     have s1:=z8h ends more which (t:=10+0) (by omega) hok
     rw[v1,n1,show((3:Nat):Int)=3 from rfl]at s1
     have e7:y0 .i64 ((sA (10+0):Int)+3)=((sA (10+(0+1)):Nat):Int):=by
      rw[w64 (by omega) (by omega)]
      rfl
     simp only[hlo,hhi,dF,cF,s1,y5,e7]
     rw[q07 (by omega)]
     exact ih (0+1) k (by omega) (by omega) (by
      rw[show 10+(0+1)=(10+0)+1 from rfl,z8g,h3]
      unfold okS okV
      simpa using hok)
  ·have n1:sN (10+i)=4:=by
    unfold sN
    rw[iN (by omega),iN (by omega),iN (by omega)]
   simp only[i1,dT,cT,beqF (show((i:Nat):Int)≠0 by omega),cF,yc,yd,yb]
   by_cases hlo:which.getD i 0<0
   ·simp only[hlo,dT,cT]
    rw[lo hlo]
    rfl
   ·by_cases hhi:15<which.getD i 0
    ·simp only[hlo,hhi,dT,dF,cT,cF]
     rw[bad (by
      unfold okS okV
      rw[v1,n1]
      simp only[decide_eq_false_iff_not]
      omega)]
     rfl
    ·have hok:0≤sV ends more which (10+i)∧sV ends more which (10+i)<2^sN (10+i):=by
      rw[v1,n1]
      omega
     have s1:=z8h ends more which (t:=10+i) (by omega) hok
     rw[v1,n1,show((4:Nat):Int)=4 from rfl]at s1
     have e7:y0 .i64 ((sA (10+i):Int)+4)=((sA (10+(i+1)):Nat):Int):=by
      rw[w64 (by omega) (by omega),show 10+(i+1)=(10+i)+1 from rfl]
      simp only[sA,n1]
      omega
     simp only[hlo,hhi,dF,cF,s1,y5,e7]
     rw[q07 (by omega)]
     exact ih (i+1) k (by omega) (by omega) (by
      rw[show 10+(i+1)=(10+i)+1 from rfl,z8g,h3]
      unfold okS okV
      simpa using hok)
theorem rSix_is(ends more which:LI):qws 600 ends more which=some (if okU ends more which 26 then(sL ends more which 26,0,())else([],1,())):=by
 have l0:q81 600 600 ends more which ref09_SixT5836 (7:Int) (0:Int)=_:=j2c ends more which 4 0 600 (by omega) (by omega) rfl
 unfold qws
 rw[l0]
 by_cases h8:okU ends more which 8=true
 ·have l4:q82 600 600 more which (sL ends more which 8) (sA 8:Int) (0:Int)=_:=j2d ends more which 2 0 600 (by omega) (by omega) h8
  simp only[h8,if_true,y5,l4]
  by_cases h10:okU ends more which 10=true
  ·have l6:q83 600 600 which (sL ends more which 10) (sA 10:Int) (0:Int)=_:=j2e ends more which 16 0 600 (by omega) (by omega) h10
   simp only[h10,if_true,y5,l6]
   by_cases h26:okU ends more which 26=true
   ·simp only[h26,if_true]
   ·simp only[h26,yn,if_false]
  ·have h26:¬okU ends more which 26=true:=fun e=>h10 (j9d ends more which (by omega) e)
   simp only[h10,h26,yn,if_false,y5]
 ·have h26:¬okU ends more which 26=true:=fun e=>h8 (j9d ends more which (by omega) e)
  simp only[h8,h26,yn,if_false,y5]
theorem j9e{l:LI}(h:∀x∈l,IntKind.i64.has x)(i:Nat): -9223372036854775808≤l.getD i 0∧l.getD i 0≤9223372036854775807:=by
 rw[ye]
 by_cases hi:i<l.length
 ·rw[yj hi]
  exact has_iff.1 (h _ (List.getElem_mem hi))
 ·rw[wa (by omega)]
  simp
theorem sV_has{ends more which:LI}(he:∀x∈ends,IntKind.i64.has x)(hm:∀x∈more,IntKind.i64.has x)(hw:∀x∈which,IntKind.i64.has x)(t:Nat): -9223372036854775808≤sV ends more which t∧sV ends more which t≤9223372036854775807:=by
 unfold sV
 split
 ·exact j9e he _
 ·split
  ·exact j9e hm _
  ·exact j9e hw _
theorem Six_both{ends more which:LI}(he:∀x∈ends,IntKind.i64.has x)(hm:∀x∈more,IntKind.i64.has x)(hw:∀x∈which,IntKind.i64.has x):
  qfs 600 ends more which=some (if okU ends more which 26 then(sL ends more which 26,0,())else([],1,())):=by
 rw[Six_is ends more which fun t _=>sV_has he hm hw t]
 obtain⟨h1,h2⟩:=sS_ok ends more which 26
 rw[h1]
 by_cases h:okU ends more which 26=true
 ·rw[iP h,iP h,h2 h]
 ·rw[iN h,iN h]
theorem j4t(ends more which:LI):(sL ends more which 26).length=16:=by rw[qi3];rfl
theorem zq3:bmOf 6=⟨1,0,0,0,7,7,1,0,4,0,7⟩:=by kernel_rfl
theorem zvq:((w8 26).all fun i=>decide (sA i+sN i≤128)&&(w8 26).all fun j=>decide (i=j)||decide (sA i+sN i≤sA j∨sA j+sN j≤sA i))=true:=by decide+kernel
theorem sL_lv{ends more which:LI}(h:okU ends more which 26=true){t:Nat}(ht:t<26):lv (sL ends more which 26) (sA t) (sN t)=sV ends more which t:=by
 have hr:∀i,i<26→sA i+sN i≤8*ref09_SixT5836.length:=fun i hi=>by
  have:=List.all_eq_true.1 zvq i (List.mem_range.2 hi)
  have:=(Bool.and_eq_true_iff.1 this).1
  have h128:sA i+sN i≤128:=by simpa using this
  exact h128
 have hd:∀i j,i<26→j<26→i≠j→sA i+sN i≤sA j∨sA j+sN j≤sA i:=fun i j hi hj hij=>by
  have:=List.all_eq_true.1 zvq i (List.mem_range.2 hi)
  have:=List.all_eq_true.1 (Bool.and_eq_true_iff.1 this).2 j (List.mem_range.2 hj)
  simpa[hij]using this
 have hok:0≤sV ends more which t∧sV ends more which t<2^sN t:=by
  have:=zr8 ends more which ht h
  simpa[okS,okV]using this
 refine zb3 hok fun q h1 h2=> ?_
 exact zll qi6 hr hd ht h1 h2 26 ht (wc _)
theorem sL_mode(ends more which:LI):qa7 ((sL ends more which 26).getD 0 0)=6:=by
 have hr:∀i,i<26→sA i+sN i≤8*ref09_SixT5836.length:=fun i hi=>by
  have:=List.all_eq_true.1 zvq i (List.mem_range.2 hi)
  have:=(Bool.and_eq_true_iff.1 this).1
  have h128:sA i+sN i≤128:=by simpa using this
  exact h128
 refine j9a qi6 (q74 _ _ _ qi6 26) rfl (j4t _ _ _) (k:=6) (by decide+kernel) (by omega) fun q hq=> ?_
 refine zlm qi6 hr (fun i hi hc=> ?_) 26 (wc _)
 have:=sA_mono (Nat.zero_le i)
 simp only[sA]at this
 omega
theorem zzr:((w8 256).all fun v=>zq1 8 v==(v:Int))=true:=by decide+kernel
theorem wide8{x:Int}(h:0≤x∧x≤255):q1h 8 x=x:=by
 unfold q1h
 have:=List.all_eq_true.1 zzr x.toNat (List.mem_range.2 (by omega))
 rw[beq_iff_eq]at this
 rw[show x%2^8=x by omega,this]
 omega
theorem zr9:((w8 8).all fun t=>sA t==7+7*t)&&((w8 16).all fun i=>posF 1 0 4 65 i==sA (10+i)&&(4-qkl 1 0 i==sN (10+i)))&&(sA 8==63&&sA 9==64)=true:=by decide+kernel
theorem sA8{t:Nat}(h:t<8):sA t=7+7*t:=by
 have:=zr9
 simp only[yl]at this
 simpa using List.all_eq_true.1 this.1.1 t (List.mem_range.2 h)
theorem sA10{i:Nat}(h:i<16):posF 1 0 4 65 i=sA (10+i)∧4-qkl 1 0 i=sN (10+i):=by
 have:=zr9
 simp only[yl]at this
 simpa using List.all_eq_true.1 this.1.2 i (List.mem_range.2 h)
theorem j9f{ends more which:LI}(h:okU ends more which 26=true){j:Nat}(hj:j<8):endF (sL ends more which 26) (bmOf 6) j=endV ends more j:=by
 have hl:∀t,t<8→lv (sL ends more which 26) (7+7*t) 7=sV ends more which t:=fun t ht=>by
  have:=sL_lv h (show t<26 by omega)
  rwa [sA8 ht,show sN t=7 from iP ht]at this
 have ho:∀t,t<26→0≤sV ends more which t∧sV ends more which t<2^sN t:=fun t ht=>by
  have:=zr8 ends more which ht h
  simpa[okS,okV]using this
 have hv:sV ends more which (2*(j%4)+j/4)=ends.getD j 0:=by
  unfold sV
  rw[iP (by omega)]
  congr 1
  omega
 have he:e0 (sL ends more which 26) (bmOf 6) (bp0 (bmOf 6)) j=ends.getD j 0:=by
  rw[zq3]
  unfold e0 bp0
  simp only
  by_cases h3:j%4=3
  ·rw[iP h3,show 7+0+0+0+6*1*7+j/4*7=7+7*(2*(j%4)+j/4) by omega,hl _ (by omega),hv]
  ·rw[iN h3,show 7+0+0+0+j%4*(2*1*7)+j/4*7=7+7*(2*(j%4)+j/4) by omega,hl _ (by omega),hv]
 have hm:sV ends more which (8+j/4)=more.getD (j/4) 0:=by
  unfold sV
  rw[iN (by omega),iP (by omega)]
  congr 1
  omega
 have hb:bitV (sL ends more which 26) (bmOf 6) (bp1 (bmOf 6)) (j/4)=more.getD (j/4) 0:=by
  have h8:=sL_lv h (show 8+j/4<26 by omega)
  have a8:sA (8+j/4)=63+j/4:=by
   rcases(by omega:j/4=0∨j/4=1)with e|e<;>rw[e]<;>rfl
  have n8:sN (8+j/4)=1:=by
   unfold sN
   rw[iN (by omega),iP (by omega)]
  rw[a8,n8,hm]at h8
  rw[zq3]
  exact h8
 have o1:=ho (2*(j%4)+j/4) (by omega)
 rw[hv,show sN (2*(j%4)+j/4)=7 from iP (by omega)]at o1
 have o2:=ho (8+j/4) (by omega)
 rw[hm,show sN (8+j/4)=1 by unfold sN;rw[iN (by omega),iP (by omega)]]at o2
 unfold endF eF
 rw[he,hb]
 rw[zq3]
 have hx:(2:Int)^(1+0)*ends.getD j 0+more.getD (j/4) 0=endV ends more j:=by
  unfold endV
  omega
 simp only[show¬(7:Nat)=0 by decide,if_false,hx,ite_self]
 exact wide8 (j6g ends more j)
theorem j9g{ends more which:LI}(h:okU ends more which 26=true){i:Nat}(hi:i<16):firF (sL ends more which 26) (bmOf 6) i=which.getD i 0∧0≤which.getD i 0∧which.getD i 0<16:=by
 have hv:sV ends more which (10+i)=which.getD i 0:=by
  unfold sV
  rw[iN (by omega),iN (by omega)]
  congr 1
  omega
 have hl:=sL_lv h (show 10+i<26 by omega)
 obtain⟨s1,s2⟩:=sA10 hi
 have ho:0≤sV ends more which (10+i)∧sV ends more which (10+i)<2^sN (10+i):=by
  have:=zr8 ends more which (show 10+i<26 by omega) h
  simpa[okS,okV]using this
 have h4:(2:Int)^sN (10+i)≤2^4:=q34 (by rw[←s2];omega)
 rw[hv]at ho hl
 refine⟨?_,ho.1,by omega⟩
 unfold firF qjh
 have hw:wN (sL ends more which 26) (bmOf 6)=0:=by
  rw[zq3]
  rfl
 rw[hw,zq3]
 show lv (sL ends more which 26) (posF 1 0 4 65 i) (4-qkl 1 0 i)=_
 rw[s1,s2,hl]
theorem six_dec{ends more which:LI}(h:okU ends more which 26=true):qbq 600 (sL ends more which 26)=some (tab 64 fun j=>mx (endV ends more (j%4)) (endV ends more (4+j%4)) (which.getD (j/4) 0) 4,0,()):=by
 rw[zbd (q74 _ _ _ qi6 26) (j4t _ _ _)]
 unfold qji
 rw[sL_mode,iN (by omega),q01 fun j hj=>show decF (sL ends more which 26) (bmOf 6) j=mx (endV ends more (j%4)) (endV ends more (4+j%4)) (which.getD (j/4) 0) 4 by
  have ht:¬0<tN (sL ends more which 26) (bmOf 6):=by
   rw[zq3]
   exact yv 0
  have hw:wN (sL ends more which 26) (bmOf 6)=0:=by
   rw[zq3]
   rfl
  have hP:(bmOf 6).P=1:=by rw[zq3]
  have hs:(bmOf 6).s=0:=by rw[zq3]
  have hf:(bmOf 6).f=4:=by rw[zq3]
  obtain⟨_,_,hp⟩:=part9 (P:=1) (w:=0) (i:=j/4) (by omega) (by omega) (by omega) (by omega)
  have hp0:q5v 1 0 (j/4)=0:=by omega
  unfold decF texV z8d
  rw[iN ht]
  unfold preV colP alpP aF z9F
  rw[hw,hP,hp0,hs]
  simp only[ne_eq,not_true_eq_false,false_and,if_false,(j9g h (show j/4<16 by omega)).1,hf]
  have e1:∀c,c<4→endF (sL ends more which 26) (bmOf 6) (2*0*4+c)=endV ends more c:=fun c hc=>by
   rw[show 2*0*4+c=c by omega]
   exact j9f h (by omega)
  have e2:∀c,c<4→endF (sL ends more which 26) (bmOf 6) ((2*0+1)*4+c)=endV ends more (4+c):=fun c hc=>by
   rw[show(2*0+1)*4+c=4+c by omega]
   exact j9f h (by omega)
  have hc:j%4<4:=Nat.mod_lt _ (by decide)
  by_cases h3:j%4=3
  ·rw[iP h3,h3,e1 3 (by omega),e2 3 (by omega)]
  ·rw[iN h3,e1 _ hc,e2 _ hc]]
theorem mx_first(a z:Int):mx a z 0 4=a:=by
 unfold mx mixV
 rw[show(wL 4).getD (y6 0) 0=0 from rfl]
 omega
abbrev Blk10:=Bool×Bool×LI×LI×LI×LI×Unit
def q4h(i:Nat):Nat:=4*(i%4)+i/4
theorem zvr:((w8 16).all fun i=>q1i 0 i==some ((q4h i:Int),()))=true:=by kernel_rfl
theorem zlz(F:Nat){i:Nat}(h:i<16):q1i F i=some ((q4h i:Int),()):=by
 have:=List.all_eq_true.1 zvr i (by simpa using h)
 have e:q1i F i=q1i 0 i:=rfl
 rw[e]
 simpa using this
theorem j9h{i:Nat}(h:i<16):y0 .i64 (y0 .i64 (4*yw (i:Int) 4)+y0 .i64 (yx (i:Int) 4))=(q4h i:Int):=by
 have:=zlz 0 h
 unfold q1i at this
 simpa using this
theorem zgb{i:Nat}(h:i<16):q4h i≤15:=by unfold q4h;omega
theorem zq4{F:Nat}(hF:66≤F){b:LI}(hb:Bytes b)(hl:b.length=8){a n:Nat}(hn:n≤16)(h:a+n≤64):q14 F a n b=some (hv b a n,()):=by
 unfold q14
 have h1:=q18 b a n
 have h2:(2:Int)^n≤2^16:=q34 hn
 rw[zva hF hb (by omega) (by omega) (by omega)]
 simp only[y5]
 rw[w64 (by omega) (by omega)]
theorem qi7{F:Nat}(hF:66≤F){b:LI}(hb:Bytes b)(hl:b.length=8){a n:Nat}(hn:n≤16)(h:a+n≤64):q23 F b a n=some (hv b a n,()):=by
 unfold q23
 have h1:=q18 b a n
 have h2:(2:Int)^n≤2^16:=q34 hn
 rw[j46 hF hb (by omega)]
 simp only[y5,if_true]
 rw[j4b (by omega) (by omega),w64 (by omega) (by omega)]
def sg3(x:Int):Int:=if 4≤x then x-8 else x
def eA(d:Bool)(b:LI)(c:Nat):Int:=if d then hv b (8*c) 5 else hv b (8*c) 4
def eB(d:Bool)(b:LI)(c:Nat):Int:=if d then sg3 (hv b (8*c+5) 3)else hv b (8*c+4) 4
def eAs(d:Bool)(b:LI):LI:=[eA d b 0,eA d b 1,eA d b 2]
def eBs(d:Bool)(b:LI):LI:=[eB d b 0,eB d b 1,eB d b 2]
def eWs(b:LI):LI:=(w8 16).map fun i=>2*hv b (47-q4h i) 1+hv b (63-q4h i) 1
def qd3(b:LI):Bool:=hv b 30 1==1
def j6j(b:LI):Bool:=hv b 31 1==1
def eP(b:LI):Blk10:=(qd3 b,j6j b,eAs (qd3 b) b,eBs (qd3 b) b,[hv b 24 3,hv b 27 3],eWs b,())
theorem z0w{N:Nat}(hN:N=3){x:LI}(hx:x.length=3)(a b c:Int):((x.set 0 a).set 1 b).set 2 c=[a,b,c]:=by
 match x,hx with
 |[p,q,r],_=>rfl
theorem qmn{F:Nat}(hF:66≤F){b:LI}(hb:Bytes b)(hl:b.length=8)(k:Nat)(x0 x1 x2 x3:LI)(d f:Bool)(A B:LI)(hA:A.length=3)(hB:B.length=3)(x8 x9:LI){i:Nat}(hi:i<3):
  q2n F (k+1) x0 x1 x2 x3 d f A B x8 x9 b i=q2n F k x0 x1 x2 x3 d f (A.set i (eA d b i)) (B.set i (eB d b i)) x8 x9 b ((i+1:Nat):Int):=by
 have h0:q2n F (k+1) x0 x1 x2 x3 d f A B x8 x9 b i=qc5 F (q2n F k) x0 x1 x2 x3 d f A B x8 x9 b i:=rfl
 rw[h0]
 unfold qc5
 have h1:(i:Int)<3:=by omega
 have e8:y0 .i64 ((8:Int)*(i:Int))=((8*i:Nat):Int):=by rw[w64 (by omega) (by omega)];omega
 have e4:y0 .i64 (((8*i:Nat):Int)+4)=((8*i+4:Nat):Int):=by rw[w64 (by omega) (by omega)];omega
 have e5:y0 .i64 (((8*i:Nat):Int)+5)=((8*i+5:Nat):Int):=by rw[w64 (by omega) (by omega)];omega
 have g1:=zq4 hF hb hl (a:=8*i) (n:=4) (by decide) (by omega)
 have g2:=zq4 hF hb hl (a:=8*i+4) (n:=4) (by decide) (by omega)
 have g3:=zq4 hF hb hl (a:=8*i) (n:=5) (by decide) (by omega)
 have g4:=zq4 hF hb hl (a:=8*i+5) (n:=3) (by decide) (by omega)
 have q4:=q18 b (8*i+5) 3
 simp only[yp]at g1 g2 g3 g4
 have hget:∀v,(B.set i v).getD i 0=v:=fun v=>by rw[z0r _ _ _ _ (by omega),iP rfl]
 have hset:∀v w,(B.set i v).set i w=B.set i w:=fun v w=>List.set_set ..
 simp only[h1,dT,cT,e8,e4,e5,yc,yd,g1,g2,g3,g4,y5,yb,hget,hset,q07 (show i<1000000000000 by omega)]
 cases d
 ·rfl
 ·simp only[Bool.not_true,cF]
  unfold eA eB sg3
  by_cases h:4≤hv b (8*i+5) 3
  ·simp only[h,dT,cT,if_true]
   rw[w64 (by omega) (by omega)]
   rfl
  ·simp only[h,dF,cF,if_true,if_false]
theorem zvs{F:Nat}(hF:66≤F){b:LI}(hb:Bytes b)(hl:b.length=8)(x0 x1 x2 x3:LI)(d f:Bool){A B:LI}(hA:A.length=3)(hB:B.length=3)(x8 x9:LI):
  q2n F F x0 x1 x2 x3 d f A B x8 x9 b 0=some (x0,x1,x2,x3,d,f,eAs d b,eBs d b,x8,x9,b,()):=by
 obtain⟨n,rfl⟩:∃n,F=n+4:=⟨F-4,by omega⟩
 have s0:=qmn hF hb hl (n+3) x0 x1 x2 x3 d f A B hA hB x8 x9 (i:=0) (by decide)
 have s1:=qmn hF hb hl (n+2) x0 x1 x2 x3 d f (A.set 0 (eA d b 0)) (B.set 0 (eB d b 0)) (by simp[hA]) (by simp[hB]) x8 x9 (i:=1) (by decide)
 have s2:=qmn hF hb hl (n+1) x0 x1 x2 x3 d f ((A.set 0 (eA d b 0)).set 1 (eA d b 1)) ((B.set 0 (eB d b 0)).set 1 (eB d b 1)) (by simp[hA]) (by simp[hB]) x8 x9 (i:=2) (by decide)
 simp only[Nat.zero_add,Nat.reduceAdd,yq]at s0 s1 s2
 rw[s0,s1,s2,z0w rfl hA,z0w rfl hB]
 rfl
theorem zvt{F:Nat}(hF:66≤F){b:LI}(hb:Bytes b)(hl:b.length=8)(x0 x1 x2 x3:LI)(d f:Bool)(A B T:LI){W:LI}(hW:W.length=16):
  q3z F F x0 x1 x2 x3 d f A B T W b 0=some (x0,x1,x2,x3,d,f,A,B,T,eWs b,()):=by
 refine q4r 16 (fun i=>2*hv b (47-q4h i) 1+hv b (63-q4h i) 1) (fun k w i=>q3z F k x0 x1 x2 x3 d f A B T w b i) (fun w=>some (x0,x1,x2,x3,d,f,A,B,T,w,())) ?_ ?_ _ hW F (by omega)
 ·intro k i w hi hw
  show q66 F (q3z F k) x0 x1 x2 x3 d f A B T w b i=_
  unfold q66
  have hc:=zgb hi
  have g1:=zq4 hF hb hl (a:=47-q4h i) (n:=1) (by decide) (by omega)
  have g2:=zq4 hF hb hl (a:=63-q4h i) (n:=1) (by decide) (by omega)
  have e1:y0 .i64 ((47:Int)-(q4h i:Int))=((47-q4h i:Nat):Int):=by rw[w64 (by omega) (by omega)];omega
  have e2:y0 .i64 ((63:Int)-(q4h i:Int))=((63-q4h i:Nat):Int):=by rw[w64 (by omega) (by omega)];omega
  have b1:=q18 b (47-q4h i) 1
  have b2:=q18 b (63-q4h i) 1
  simp only[yp]at g1 g2
  have h1:(i:Int)<16:=by omega
  simp only[h1,dT,cT,zlz F hi,y5,e1,e2,g1,g2,yc,yd,yb,q07 (show i<1000000000000 by omega)]
  rw[w64 (x:=2*_) (by omega) (by omega),w64 (by omega) (by omega)]
 ·intro k w hw
  show q66 F (q3z F k) x0 x1 x2 x3 d f A B T w b 16=_
  unfold q66
  simp
theorem zbe{F:Nat}(hF:66≤F){b:LI}(hb:Bytes b)(hl:b.length=8):q40 F b=some (eP b,0,()):=by
 unfold q40
 have e:((b.length:Int) !=8)=false:=by rw[hl];rfl
 have g1:=zq4 hF hb hl (a:=30) (n:=1) (by decide) (by decide)
 have g2:=zq4 hF hb hl (a:=31) (n:=1) (by decide) (by decide)
 have g3:=zq4 hF hb hl (a:=24) (n:=3) (by decide) (by decide)
 have g4:=zq4 hF hb hl (a:=27) (n:=3) (by decide) (by decide)
 simp only[yp]at g1 g2 g3 g4
 simp only[e,cF,g1,g2,y5]
 rw[zvs hF hb hl _ _ _ _ _ _ rfl rfl]
 simp only[y5,g3,g4]
 rw[zvt hF hb hl _ _ _ _ _ _ _ _ _ rfl]
 rfl
theorem j6k{F:Nat}(hF:66≤F){b:LI}(hb:Bytes b)(hl:b.length=8):qs7 F b=some (eWs b,()):=by
 have loop:∀T W:LI,W.length=16→q54 F F b T W 0=some (T,eWs b,()):=by
  intro T W hW
  refine q4r 16 (fun i=>2*hv b (47-q4h i) 1+hv b (63-q4h i) 1) (fun k w i=>q54 F k b T w i) (fun w=>some (T,w,())) ?_ ?_ _ hW F (by omega)
  ·intro k i w hi hw
   show q7j F (q54 F k) b T w i=_
   unfold q7j
   have hc:=zgb hi
   have g1:=qi7 hF hb hl (a:=47-q4h i) (n:=1) (by decide) (by omega)
   have g2:=qi7 hF hb hl (a:=63-q4h i) (n:=1) (by decide) (by omega)
   have e1:y0 .i64 ((47:Int)-(q4h i:Int))=((47-q4h i:Nat):Int):=by rw[w64 (by omega) (by omega)];omega
   have e2:y0 .i64 ((63:Int)-(q4h i:Int))=((63-q4h i:Nat):Int):=by rw[w64 (by omega) (by omega)];omega
   have b1:=q18 b (47-q4h i) 1
   have b2:=q18 b (63-q4h i) 1
   simp only[yp]at g1 g2
   have h1:(i:Int)<16:=by omega
   simp only[h1,dT,cT,j9h hi,y5,e1,e2,g1,g2,yc,yd,yb,q07 (show i<1000000000000 by omega)]
   rw[w64 (x:=2*_) (by omega) (by omega),w64 (by omega) (by omega)]
  ·intro k w hw
   show q7j F (q54 F k) b T w 16=_
   unfold q7j
   simp
 unfold qs7
 rw[loop _ _ rfl]
 rfl
theorem qj2{F:Nat}(hF:66≤F){b:LI}(hb:Bytes b)(hl:b.length=8)(k:Nat)(x1 x2 x3 x4:LI)(d f:Bool)(A B:LI)(hA:A.length=3)(hB:B.length=3)(x8 x9:LI){i:Nat}(hi:i<3):
  q3k F (k+1) b x1 x2 x3 x4 d f A B x8 x9 i=q3k F k b x1 x2 x3 x4 d f (A.set i (eA d b i)) (B.set i (eB d b i)) x8 x9 ((i+1:Nat):Int):=by
 have h0:q3k F (k+1) b x1 x2 x3 x4 d f A B x8 x9 i=qdz F (q3k F k) b x1 x2 x3 x4 d f A B x8 x9 i:=rfl
 rw[h0]
 unfold qdz
 have h1:(i:Int)<3:=by omega
 have e8:y0 .i64 ((8:Int)*(i:Int))=((8*i:Nat):Int):=by rw[w64 (by omega) (by omega)];omega
 have e4:y0 .i64 (((8*i:Nat):Int)+4)=((8*i+4:Nat):Int):=by rw[w64 (by omega) (by omega)];omega
 have e5:y0 .i64 (((8*i:Nat):Int)+5)=((8*i+5:Nat):Int):=by rw[w64 (by omega) (by omega)];omega
 have g1:=qi7 hF hb hl (a:=8*i) (n:=4) (by decide) (by omega)
 have g2:=qi7 hF hb hl (a:=8*i+4) (n:=4) (by decide) (by omega)
 have g3:=qi7 hF hb hl (a:=8*i) (n:=5) (by decide) (by omega)
 have g4:=qi7 hF hb hl (a:=8*i+5) (n:=3) (by decide) (by omega)
 have q4:=q18 b (8*i+5) 3
 simp only[yp]at g1 g2 g3 g4
 have hget:∀v,(B.set i v).getD i 0=v:=fun v=>by rw[z0r _ _ _ _ (by omega),iP rfl]
 have hset:∀v w,(B.set i v).set i w=B.set i w:=fun v w=>List.set_set ..
 simp only[h1,dT,cT,e8,e4,e5,yc,yd,g1,g2,g3,g4,y5,yb,hget,hset,q07 (show i<1000000000000 by omega)]
 cases d
 ·rfl
 ·simp only[cT]
  unfold eA eB sg3
  by_cases h:4≤hv b (8*i+5) 3
  ·have h' :3<hv b (8*i+5) 3:=by omega
   simp only[h,h',dT,cT,if_true]
   rw[w64 (by omega) (by omega)]
  ·have h' :¬3<hv b (8*i+5) 3:=by omega
   simp only[h,h',dF,cF,if_true,if_false]
theorem z59{F:Nat}(hF:66≤F){b:LI}(hb:Bytes b)(hl:b.length=8):q6u F b=some (eP b,0,()):=by
 unfold q6u
 have e:((b.length:Int) !=8)=false:=by rw[hl];rfl
 have g1:=qi7 hF hb hl (a:=30) (n:=1) (by decide) (by decide)
 have g2:=qi7 hF hb hl (a:=31) (n:=1) (by decide) (by decide)
 have g3:=qi7 hF hb hl (a:=24) (n:=3) (by decide) (by decide)
 have g4:=qi7 hF hb hl (a:=27) (n:=3) (by decide) (by decide)
 have loop:∀(x1 x2 x3 x4:LI) (d f:Bool) (A B:LI) (hA:A.length=3) (hB:B.length=3) (x8 x9:LI),q3k F F b x1 x2 x3 x4 d f A B x8 x9 0=some (b,x1,x2,x3,x4,d,f,eAs d b,eBs d b,x8,x9,()):=by
  intro x1 x2 x3 x4 d f A B hA hB x8 x9
  clear g1 g2 g3 g4
  obtain⟨n,rfl⟩:∃n,F=n+4:=⟨F-4,by omega⟩
  have s0:=qj2 hF hb hl (n+3) x1 x2 x3 x4 d f A B hA hB x8 x9 (i:=0) (by decide)
  have s1:=qj2 hF hb hl (n+2) x1 x2 x3 x4 d f (A.set 0 (eA d b 0)) (B.set 0 (eB d b 0)) (by simp[hA]) (by simp[hB]) x8 x9 (i:=1) (by decide)
  have s2:=qj2 hF hb hl (n+1) x1 x2 x3 x4 d f ((A.set 0 (eA d b 0)).set 1 (eA d b 1)) ((B.set 0 (eB d b 0)).set 1 (eB d b 1)) (by simp[hA]) (by simp[hB]) x8 x9 (i:=2) (by decide)
  simp only[Nat.zero_add,Nat.reduceAdd,yq]at s0 s1 s2
  rw[s0,s1,s2,z0w rfl hA,z0w rfl hB]
  rfl
 simp only[yp]at g1 g2 g3 g4
 simp only[e,cF,g1,g2,y5]
 rw[loop _ _ _ _ _ _ _ _ rfl rfl]
 simp only[y5,g3,g4,j6k hF hb hl]
 rfl
theorem iand15(x:Int):iand .i64 x 15=x%16:=qml (x:=x) (b:=4) (by decide)
theorem iand7(x:Int):iand .i64 x 7=x%8:=qml (x:=x) (b:=3) (by decide)
theorem iand3(x:Int):iand .i64 x 3=x%4:=qml (x:=x) (b:=2) (by decide)
theorem zgc(F:Nat){x m:Int}(hm:0<m∧m≤1000000000):qhn F x m=some (x%m,()):=by
 unfold qhn
 have h0:(!(m==(0:Int)))=true:=by simp;omega
 have hf:=j4e (x:=x) hm.1
 have h1:=Int.emod_nonneg x (show m≠0 by omega)
 have h2:=Int.emod_lt_of_pos x hm.1
 rw[h0]
 simp only[cT]
 by_cases hn:x.tmod m<0
 ·rw[iP hn]at hf
  simp only[hn,dT,cT]
  rw[hf,w64 (by omega) (by omega)]
 ·rw[iN hn]at hf
  simp only[hn,dF,cF]
  rw[hf]
def zzs:Nat→LI
 |0=>[2,8,-2,-8]
 |1=>[5,17,-5,-17]
 |2=>[9,29,-9,-29]
 |3=>[13,42,-13,-42]
 |4=>[18,60,-18,-60]
 |5=>[24,80,-24,-80]
 |6=>[33,106,-33,-106]
 |_=>[47,183,-47,-183]
theorem qct{p:Int→Prop}(h0:p 0){l:LI}(h:∀x∈l,p x)(i:Nat):p (l.getD i 0):=by
 rw[ye]
 by_cases hi:i<l.length
 ·rw[yj hi]
  exact h _ (List.getElem_mem hi)
 ·rw[wa (by omega)]
  exact h0
theorem zm0(n i:Nat): -183≤(zzs n).getD i 0∧(zzs n).getD i 0≤183:=by
 apply qct (p:=fun x=> -183≤x∧x≤183) (by decide)
 unfold zzs
 split<;>decide
theorem eight{v:Int}(h:0≤v∧v<8):v=0∨v=1∨v=2∨v=3∨v=4∨v=5∨v=6∨v=7:=by omega
theorem j6l(F:Nat)(n:Int):qn8 F n=some (zzs (n%8).toNat,()):=by
 unfold qn8
 rw[iand7]
 have h:0≤n%8∧n%8<8:=by omega
 generalize n%8=v at*
 rcases eight h with rfl|rfl|rfl|rfl|rfl|rfl|rfl|rfl<;>rfl
theorem j2f(F:Nat)(n:Int):qs8 F n=some (zzs (n%8).toNat,()):=by
 unfold qs8
 rw[zgc F (by decide)]
 have h:0≤n%8∧n%8<8:=by omega
 simp only[y5]
 generalize n%8=v at*
 rcases eight h with rfl|rfl|rfl|rfl|rfl|rfl|rfl|rfl<;>rfl
def q3g(f:Bool)(m:Int):Nat:=if f then(m%16).toNat/8 else(m%16).toNat%4/2
theorem qzz(f:Bool)(m:Int):q3g f m<2:=by
 unfold q3g
 split<;>omega
theorem z8i(F:Nat)(f:Bool)(m:Int):qlg F f m=some ((q3g f m:Int),())∧qpm F f m=some ((q3g f m:Int),()):=by
 unfold qlg qpm q3g
 rw[zgc F (by decide),iand15]
 have h:0≤m%16∧m%16<16:=by omega
 simp only[y5]
 generalize m%16=v at*
 obtain⟨n,rfl⟩:=yh h.1
 have e1:yx (n:Int) 8=((n/8:Nat):Int):=rfl
 have e2:yx (yw (n:Int) 4) 2=((n%4/2:Nat):Int):=rfl
 rw[e1,e2,w64 (x:=((n/8:Nat):Int)) (by omega) (by omega),w64 (by omega) (by omega)]
 cases f
 ·exact⟨rfl,rfl⟩
 ·exact⟨rfl,rfl⟩
def n10(d:Bool)(A B:LI)(c:Nat):Int:=if d then A.getD c 0+B.getD c 0 else B.getD c 0
def w10(d:Bool):Nat:=if d then 5 else 4
def q22(d:Bool)(A B:LI):LI:=
 [q1h (w10 d) (A.getD 0 0),q1h (w10 d) (A.getD 1 0),q1h (w10 d) (A.getD 2 0),255,q1h (w10 d) (n10 d A B 0),q1h (w10 d) (n10 d A B 1),q1h (w10 d) (n10 d A B 2),255]
def qd4(A B:LI)(c:Nat):Prop:=n10 true A B c<0∨31<n10 true A B c
instance (A B:LI) (c:Nat):Decidable (qd4 A B c):=by unfold qd4;exact inferInstance
def qw8(d:Bool)(A B:LI):Int:=if d then(if qd4 A B 0 then 0 else if qd4 A B 1 then 1 else if qd4 A B 2 then 2 else 3)else 3
def zco(A B:LI):Prop:=A.length=3∧B.length=3∧(∀c,0≤A.getD c 0∧A.getD c 0≤31)∧(∀c,-4≤B.getD c 0∧B.getD c 0≤15)
theorem z00{F:Nat}(hF:10≤F)(k:Nat)(d f:Bool){A B:LI}(hf:zco A B)(T W x6 x7:LI)(far:Int){i:Nat}(hi:i<3):
  q15 F (k+1) d f A B T W x6 x7 far i=q15 F k d f A B T W x6 ((x7.set i (q1h (w10 d) (A.getD i 0))).set (4+i) (q1h (w10 d) (n10 d A B i))) (if d=true∧far=3∧qd4 A B i then(i:Int)else far) ((i+1:Nat):Int):=by
 have h0:q15 F (k+1) d f A B T W x6 x7 far i=qc6 F (q15 F k) d f A B T W x6 x7 far i:=rfl
 rw[h0]
 unfold qc6
 have h1:(i:Int)<3:=by omega
 have h2:(i:Int)<4:=by omega
 have a1:=hf.2.2.1 i
 have a2:=hf.2.2.2 i
 have e1:y0 .i64 (A.getD i 0+B.getD i 0)=A.getD i 0+B.getD i 0:=w64 (by omega) (by omega)
 have w5:=fun x=>qgj (F:=F) hF (b:=5) (by decide) x
 have w4:=fun x=>qgj (F:=F) hF (b:=4) (by decide) x
 have s5:=zlt (x:=A.getD i 0+B.getD i 0) (k:=5) (by decide)
 simp only[yp]at w5 w4 s5
 simp only[h1,h2,dT,cT,yc,yd,yb,e1,w5,w4,s5,y5,q07 (show i<1000000000000 by omega)]
 cases d
 ·simp only[cF,w10,n10,yn,if_false,false_and]
 ·simp only[cT,w10,n10,if_true,true_and,qd4]
  by_cases hfar:far=3
  ·subst hfar
   simp only[beq_self_eq_true,cT,true_and]
   by_cases hn:A.getD i 0+B.getD i 0<0
   ·simp only[hn,dT,cT,true_or,if_true]
   ·simp only[hn,dF,cF,false_or]
    by_cases hg:31<A.getD i 0+B.getD i 0
    ·have:((A.getD i 0+B.getD i 0)/2^5 !=0)=true:=bneT (by omega)
     simp only[this,cT,hg,if_true]
    ·have:((A.getD i 0+B.getD i 0)/2^5 !=0)=false:=by
      have:(A.getD i 0+B.getD i 0)/2^5=0:=by omega
      rw[this];rfl
     simp only[this,cF,hg,if_false]
  ·simp only[beqF hfar,cF,hfar,false_and,if_false]
theorem j2g(d:Bool)(A B:LI):(if d=true∧(if d=true∧(if d=true∧(3:Int)=3∧qd4 A B 0 then((0:Nat):Int)else 3)=3∧qd4 A B 1 then((1:Nat):Int)else(if d=true∧(3:Int)=3∧qd4 A B 0 then((0:Nat):Int)else 3))=3∧qd4 A B 2 then((2:Nat):Int)else
  (if d=true∧(if d=true∧(3:Int)=3∧qd4 A B 0 then((0:Nat):Int)else 3)=3∧qd4 A B 1 then((1:Nat):Int)else(if d=true∧(3:Int)=3∧qd4 A B 0 then((0:Nat):Int)else 3)))=qw8 d A B:=by
 unfold qw8
 cases d
 ·simp
 ·by_cases h0:qd4 A B 0<;>by_cases h1:qd4 A B 1<;>by_cases h2:qd4 A B 2<;>simp[h0,h1,h2]
theorem zbf{F:Nat}(hF:10≤F)(d f:Bool){A B:LI}(hf:zco A B)(T W:LI):qda F (d,f,A,B,T,W,())=some (q22 d A B,qw8 d A B,()):=by
 unfold qda
 have s0:∀n far x6 x7,q15 F (n+1) d f A B T W x6 x7 far 0=_:=fun n far x6 x7=>z00 hF n d f hf T W x6 x7 far (i:=0) (by decide)
 have s1:∀n far x6 x7,q15 F (n+1) d f A B T W x6 x7 far 1=_:=fun n far x6 x7=>z00 hF n d f hf T W x6 x7 far (i:=1) (by decide)
 have s2:∀n far x6 x7,q15 F (n+1) d f A B T W x6 x7 far 2=_:=fun n far x6 x7=>z00 hF n d f hf T W x6 x7 far (i:=2) (by decide)
 have s3:∀n far x6 x7,q15 F (n+1) d f A B T W x6 x7 far 3=some (x6,x7,far,()):=fun n far x6 x7=>rfl
 obtain⟨n,hn⟩:∃n,F=n+4:=⟨F-4,by omega⟩
 have key:∀(m:Nat),m=n+4→∀x6 x7:LI,q15 F m d f A B T W x6 x7 3 0=some (x6,(((((((x7.set 0 (q1h (w10 d) (A.getD 0 0))).set 4 (q1h (w10 d) (n10 d A B 0))).set 1 (q1h (w10 d) (A.getD 1 0))).set 5 (q1h (w10 d) (n10 d A B 1))).set 2 (q1h (w10 d) (A.getD 2 0))).set 6 (q1h (w10 d) (n10 d A B 2)),qw8 d A B,()))):=by
  intro m hm x6 x7
  subst hm
  rw[←j2g d A B]
  refine(s0 _ _ _ _).trans ((s1 _ _ _ _).trans ((s2 _ _ _ _).trans (s3 _ _ _ _)))
 simp only[key F hn,y5]
 rfl
theorem take4{l:LI}{n:Nat}(h:n+4≤l.length):(l.drop n).take 4=[l.getD n 0,l.getD (n+1) 0,l.getD (n+2) 0,l.getD (n+3) 0]:=by
 have e:∀j,j<l.length→l.drop j=l.getD j 0::l.drop (j+1):=fun j hj=>by
  rw[List.drop_eq_getElem_cons hj,ye,yj hj]
  rfl
 rw[e n (by omega),e (n+1) (by omega),e (n+2) (by omega),e (n+3) (by omega)]
 rfl
theorem qkz(F:Nat)(x:Int):q6t F x 255=some (q4g x,()):=rfl
theorem z5a(F:Nat)(x:Int):q5k F x 255=some (q4g x,()):=by
 unfold q5k q4g
 by_cases h1:255<x
 ·have:max 0 (min x 255)=255:=by omega
  simp[h1,this]
 ·by_cases h2:x<0
  ·have:max 0 (min x 255)=0:=by omega
   simp[h1,h2,this]
  ·have:max 0 (min x 255)=x:=by omega
   simp[h1,h2,this]
def j2h(T W:LI)(f:Bool)(i:Nat):Int:=(zzs ((T.getD (q3g f i) 0)%8).toNat).getD ((W.getD i 0)%4).toNat 0
def zzt(bs T W:LI)(f:Bool)(i:Nat):LI:=
 [q4g (bs.getD (q3g f i*4) 0+j2h T W f i),q4g (bs.getD (q3g f i*4+1) 0+j2h T W f i),q4g (bs.getD (q3g f i*4+2) 0+j2h T W f i),bs.getD (q3g f i*4+3) 0]
def qj3(d f:Bool)(A B T W:LI):LI:=(w8 16).flatMap (zzt (q22 d A B) T W f)
theorem w10_b(d:Bool):1≤w10 d∧w10 d≤8:=by cases d<;>decide
theorem qtd(d:Bool)(A B:LI):(q22 d A B).length=8:=rfl
theorem qkm(d:Bool)(A B:LI)(j:Nat):0≤(q22 d A B).getD j 0∧(q22 d A B).getD j 0≤255:=by
 apply qct (p:=fun x=>0≤x∧x≤255) (by decide)
 intro x hx
 have hw:=fun y=>q0v (w10_b d) y
 simp only[q22,yr,List.not_mem_nil,or_false]at hx
 rcases hx with rfl|rfl|rfl|rfl|rfl|rfl|rfl|rfl<;>first|exact hw _|decide
theorem qmo{F k:Nat}(d f:Bool)(A B T W x6 bs P l Q x12:LI)(x13:Int){i:Nat}(hi:i<16)(hP:P.length=i*4)(hl:l.length=4)(hb:∀c,0≤l.getD c 0∧l.getD c 0≤255)(w:Int){h:Nat}(hh:h<2){c:Nat}(hc:c<3):
  q2c F (k+1) d f A B T W x6 bs (P++l++Q) i w h x12 x13 c=q2c F k d f A B T W x6 bs (P++l.set c (q4g (l.getD c 0+(zzs ((T.getD h 0)%8).toNat).getD (w%4).toNat 0))++Q) i w h x12 x13 ((c+1:Nat):Int):=by
 have h0:q2c F (k+1) d f A B T W x6 bs (P++l++Q) i w h x12 x13 c=qc7 F (q2c F k) d f A B T W x6 bs (P++l++Q) i w h x12 x13 c:=rfl
 rw[h0]
 unfold qc7
 have h1:(c:Int)<3:=by omega
 have h2:(c:Int)<4:=by omega
 have h3:(i:Int)<16:=by omega
 have h4:(h:Int)<2:=by omega
 have hw:0≤w%4∧w%4<4:=by omega
 have g1:=j8v P l Q hP (show c<l.length by omega)
 have g2:=j8w P l Q hP (show c<l.length by omega)
 have tb:=zm0 ((T.getD h 0)%8).toNat (w%4).toNat
 have lb:=hb c
 simp only[h1,h2,h3,h4,dT,cT,yc,yd,yb,j6l,y5,iand3,hw.1,hw.2,qkz,g1,g2,q07 (show c<1000000000000 by omega)]
 rw[w64 (by omega) (by omega)]
theorem qre{l:LI}(hb:∀c,0≤l.getD c 0∧l.getD c 0≤255)(i:Nat){v:Int}(hv:0≤v∧v≤255):∀c,0≤(l.set i v).getD c 0∧(l.set i v).getD c 0≤255:=by
 intro c
 by_cases h:i<l.length
 ·rw[z0r _ _ _ _ h]
  split
  ·exact hv
  ·exact hb c
 ·rw[List.set_eq_of_length_le (by omega)]
  exact hb c
theorem zvu{F:Nat}(hF:10≤F)(d f:Bool)(A B T W x6 bs P l Q x12:LI)(x13:Int){i:Nat}(hi:i<16)(hP:P.length=i*4)(hl:l.length=4)(hb:∀c,0≤l.getD c 0∧l.getD c 0≤255)(w:Int){h:Nat}(hh:h<2){n:Int}(hn:n=(zzs ((T.getD h 0)%8).toNat).getD (w%4).toNat 0):
  q2c F F d f A B T W x6 bs (P++l++Q) i w h x12 x13 0=some (d,f,A,B,T,W,x6,bs,P++[q4g (l.getD 0 0+n),q4g (l.getD 1 0+n),q4g (l.getD 2 0+n),l.getD 3 0]++Q,x12,x13,()):=by
 obtain⟨a,b,c,e,rfl⟩:∃a b c e,l=[a,b,c,e]:=by
  match l,hl with
  |[a,b,c,e],_=>exact⟨a,b,c,e,rfl⟩
 subst hn
 have key:∀m,m=F→∀k,m=k+4→q2c F m d f A B T W x6 bs (P++[a,b,c,e]++Q) i w h x12 x13 0=_:=fun m _ k hk=>by
  subst hk
  refine(qmo (k:=k+3) d f A B T W x6 bs P [a,b,c,e] Q x12 x13 hi hP rfl hb w hh (c:=0) (by decide)).trans ?_
  refine(qmo (k:=k+2) d f A B T W x6 bs P _ Q x12 x13 hi hP rfl (qre hb 0 (q26 _)) w hh (c:=1) (by decide)).trans ?_
  exact(qmo (k:=k+1) d f A B T W x6 bs P _ Q x12 x13 hi hP rfl (qre (qre hb 0 (q26 _)) 1 (q26 _)) w hh (c:=2) (by decide)).trans rfl
 rw[key F rfl (F-4) (by omega)]
 rfl
theorem zra{F:Nat}(hF:17≤F)(d f:Bool){A B T W:LI}(hf:zco A B)(hW:∀i,0≤W.getD i 0∧W.getD i 0≤3):qhm F (d,f,A,B,T,W,())=some (qj3 d f A B T W,()):=by
 unfold qhm
 have loop:∀x6 x8:LI,x8.length=64→q41 F F d f A B T W x6 (q22 d A B) x8 W 0=some (x6,qj3 d f A B T W,()):=by
  intro x6 x8 h8
  refine z0t 16 4 (zzt (q22 d A B) T W f) (fun i hi=>rfl) (fun k w i=>q41 F k d f A B T W x6 (q22 d A B) w W i) (fun w=>some (x6,w,())) ?_ ?_ _ h8 F (by omega)
  ·intro k i w hi hw
   show q67 F (q41 F k) d f A B T W x6 (q22 d A B) w W i=_
   unfold q67
   have h1:(i:Int)<16:=by omega
   have hh:=qzz f i
   have h2:(q3g f i:Int)<2:=by omega
   have t4:=take4 (l:=q22 d A B) (n:=q3g f i*4) (by rw[qtd];omega)
   have hP:(w.take (i*4)).length=i*4:=by rw[List.length_take];omega
   have l2:=zvu (by omega) d f A B T W x6 (q22 d A B) (w.take (i*4)) [(q22 d A B).getD (q3g f i*4) 0,(q22 d A B).getD (q3g f i*4+1) 0,(q22 d A B).getD (q3g f i*4+2) 0,(q22 d A B).getD (q3g f i*4+3) 0] (w.drop (i*4+4)) W i hi hP rfl
    (fun c=>qct (p:=fun x=>0≤x∧x≤255) (by decide) (fun x hx=>by
      simp only[yr,List.not_mem_nil,or_false]at hx
      rcases hx with rfl|rfl|rfl|rfl<;>exact qkm d A B _) c) (W.getD i 0) hh (n:=j2h T W f i) rfl (F:=F)
   simp only[h1,dT,cT,yc,yd,yb,(z8i F f i).1,y5,h2,t4,l2,q07 (show i<1000000000000 by omega)]
   rfl
  ·intro k w hw
   show q67 F (q41 F k) d f A B T W x6 (q22 d A B) w W 16=_
   unfold q67
   simp
 rw[zbf (by omega) d f hf]
 simp only[y5]
 rw[loop _ _ rfl]
 rfl
theorem zm1(F:Nat)(n a b:Int):q78 F n a b=some (decide (a≤n∧n≤b),()):=by
 unfold q78
 by_cases h:a≤n
 ·simp[h]
 ·simp[h]
theorem qte{F:Nat}(hF:10≤F)(k:Nat)(d f:Bool){A B:LI}(hf:zco A B)(T W x6 x7:LI)(far:Int){i:Nat}(hi:i<3):
  q1a F (k+1) d f A B T W x6 x7 far i=q1a F k d f A B T W x6 ((x7.set i (q1h (w10 d) (A.getD i 0))).set (4+i) (q1h (w10 d) (n10 d A B i))) (if d=true∧qd4 A B i then(i:Int)else far) ((i:Int)-1):=by
 have h0:q1a F (k+1) d f A B T W x6 x7 far i=qe0 F (q1a F k) d f A B T W x6 x7 far i:=rfl
 rw[h0]
 unfold qe0
 have h1:(i:Int)<3:=by omega
 have h2:(i:Int)<4:=by omega
 have a1:=hf.2.2.1 i
 have a2:=hf.2.2.2 i
 have e1:y0 .i64 (A.getD i 0+B.getD i 0)=A.getD i 0+B.getD i 0:=w64 (by omega) (by omega)
 have e2:y0 .i64 ((i:Int)-1)=(i:Int)-1:=w64 (by omega) (by omega)
 have w5:=fun x hx=>qa6 (F:=F) hF (b:=5) (by decide) (x:=x) hx
 have w4:=fun x hx=>qa6 (F:=F) hF (b:=4) (by decide) (x:=x) hx
 have g1:=w5 (A.getD i 0) (by omega)
 have g2:=w5 ((A.getD i 0+B.getD i 0)%32) (by omega)
 have g3:=w4 (A.getD i 0) (by omega)
 have g4:=w4 (B.getD i 0) (by omega)
 have g5:q1h 5 ((A.getD i 0+B.getD i 0)%32)=q1h 5 (A.getD i 0+B.getD i 0):=by unfold q1h;congr 2;omega
 simp only[yp]at g1 g2 g3 g4
 simp only[h1,h2,dT,cT,yc,yd,yb,e1,e2,zm1,zgc F (show(0:Int)<32∧(32:Int)≤1000000000 by decide),g1,g2,g3,g4,g5,y5]
 cases d
 ·simp only[cF,w10,n10,yn,if_false,false_and]
 ·simp only[cT,w10,n10,if_true,true_and,qd4]
  by_cases hn:0≤A.getD i 0+B.getD i 0∧A.getD i 0+B.getD i 0≤31
  ·have hb:¬(A.getD i 0+B.getD i 0<0∨31<A.getD i 0+B.getD i 0):=by omega
   simp only[hn,and_self,dT,Bool.not_true,cF,hb,if_false]
  ·have hb:(A.getD i 0+B.getD i 0<0∨31<A.getD i 0+B.getD i 0):=by omega
   simp only[hn,dF,Bool.not_false,cT,hb,if_true]
theorem zzu(d:Bool)(A B:LI):(if d=true∧qd4 A B 0 then((0:Nat):Int)else(if d=true∧qd4 A B 1 then((1:Nat):Int)else(if d=true∧qd4 A B 2 then((2:Nat):Int)else 3)))=qw8 d A B:=by
 unfold qw8
 cases d
 ·simp
 ·by_cases h0:qd4 A B 0<;>by_cases h1:qd4 A B 1<;>by_cases h2:qd4 A B 2<;>simp[h0,h1,h2]
theorem z5b{F:Nat}(hF:10≤F)(d f:Bool){A B:LI}(hf:zco A B)(T W:LI):qag F (d,f,A,B,T,W,())=some (q22 d A B,qw8 d A B,()):=by
 unfold qag
 have s0:∀n far x6 x7,q1a F (n+1) d f A B T W x6 x7 far 0=_:=fun n far x6 x7=>qte hF n d f hf T W x6 x7 far (i:=0) (by decide)
 have s1:∀n far x6 x7,q1a F (n+1) d f A B T W x6 x7 far 1=_:=fun n far x6 x7=>qte hF n d f hf T W x6 x7 far (i:=1) (by decide)
 have s2:∀n far x6 x7,q1a F (n+1) d f A B T W x6 x7 far 2=_:=fun n far x6 x7=>qte hF n d f hf T W x6 x7 far (i:=2) (by decide)
 have s3:∀n far x6 x7,q1a F (n+1) d f A B T W x6 x7 far (-1)=some (x6,x7,far,()):=fun n far x6 x7=>rfl
 obtain⟨n,hn⟩:∃n,F=n+4:=⟨F-4,by omega⟩
 have key:∀(m:Nat),m=n+4→∀x6 x7:LI,q1a F m d f A B T W x6 x7 3 2=some (x6,(((((x7.set 2 (q1h (w10 d) (A.getD 2 0))).set 6 (q1h (w10 d) (n10 d A B 2))).set 1 (q1h (w10 d) (A.getD 1 0))).set 5 (q1h (w10 d) (n10 d A B 1))).set 0 (q1h (w10 d) (A.getD 0 0))).set 4 (q1h (w10 d) (n10 d A B 0)),qw8 d A B,()):=by
  intro m hm x6 x7
  subst hm
  rw[←zzu d A B]
  refine(s2 _ _ _ _).trans ((s1 _ _ _ _).trans ((s0 _ _ _ _).trans (s3 _ _ _ _)))
 simp only[key F hn,y5]
 rfl
theorem zbg{F k:Nat}(n:Int)(hn: -183≤n∧n≤183)(l x2:LI)(hb:∀c,0≤l.getD c 0∧l.getD c 0≤255){c:Nat}(hc:c<3):
  q6e F (k+1) n l x2 c=q6e F k n (l.set c (q4g (l.getD c 0+n))) x2 ((c+1:Nat):Int):=by
 have h0:q6e F (k+1) n l x2 c=qjy F (q6e F k) n l x2 c:=rfl
 rw[h0]
 unfold qjy
 have h1:(c:Int)<3:=by omega
 have h2:(c:Int)<4:=by omega
 have lb:=hb c
 simp only[h1,h2,dT,cT,yc,yd,yb,y5,z5a,q07 (show c<1000000000000 by omega)]
 rw[w64 (by omega) (by omega)]
theorem j4u{F:Nat}(hF:10≤F){n:Int}(hn: -183≤n∧n≤183){a b c e:Int}(hb:∀i,0≤([a,b,c,e]:LI).getD i 0∧([a,b,c,e]:LI).getD i 0≤255):q1o F [a,b,c,e] n=some ([q4g (a+n),q4g (b+n),q4g (c+n),e],()):=by
 unfold q1o
 have key:∀m,m=F→∀k,m=k+4→∀x2:LI,q6e F m n [a,b,c,e] x2 0=some ([q4g (a+n),q4g (b+n),q4g (c+n),e],x2,()):=fun m _ k hk x2=>by
  subst hk
  refine(zbg (k:=k+3) n hn [a,b,c,e] x2 hb (c:=0) (by decide)).trans ?_
  refine(zbg (k:=k+2) n hn _ x2 (qre hb 0 (q26 _)) (c:=1) (by decide)).trans ?_
  exact(zbg (k:=k+1) n hn _ x2 (qre (qre hb 0 (q26 _)) 1 (q26 _)) (c:=2) (by decide)).trans rfl
 rw[key F rfl (F-4) (by omega)]
 rfl
theorem zm2{F:Nat}(hF:17≤F)(d f:Bool){A B T W:LI}(hf:zco A B)(hW:∀i,0≤W.getD i 0∧W.getD i 0≤3):qcz F (d,f,A,B,T,W,())=some (qj3 d f A B T W,()):=by
 unfold qcz
 have loop:∀x6 x8:LI,x8.length=64→q55 F F d f A B T W x6 (q22 d A B) x8 0=some (x6,qj3 d f A B T W,()):=by
  intro x6 x8 h8
  refine z0t 16 4 (zzt (q22 d A B) T W f) (fun i hi=>rfl) (fun k w i=>q55 F k d f A B T W x6 (q22 d A B) w i) (fun w=>some (x6,w,())) ?_ ?_ _ h8 F (by omega)
  ·intro k i w hi hw
   show q7k F (q55 F k) d f A B T W x6 (q22 d A B) w i=_
   unfold q7k
   have h1:(i:Int)<16:=by omega
   have hh:=qzz f i
   have h2:(q3g f i:Int)<2:=by omega
   have t4:=take4 (l:=q22 d A B) (n:=q3g f i*4) (by rw[qtd];omega)
   have hw3:=hW i
   have h3:W.getD i 0<4:=by omega
   have em:W.getD i 0%4=W.getD i 0:=we hw3.1 (by omega)
   have tb:=zm0 ((T.getD (q3g f i) 0)%8).toNat (W.getD i 0).toNat
   have hadd:=j4u (F:=F) (by omega) tb (a:=(q22 d A B).getD (q3g f i*4) 0) (b:=(q22 d A B).getD (q3g f i*4+1) 0) (c:=(q22 d A B).getD (q3g f i*4+2) 0) (e:=(q22 d A B).getD (q3g f i*4+3) 0)
    (fun c=>qct (p:=fun x=>0≤x∧x≤255) (by decide) (fun x hx=>by
      simp only[yr,List.not_mem_nil,or_false]at hx
      rcases hx with rfl|rfl|rfl|rfl<;>exact qkm d A B _) c)
   simp only[h1,dT,cT,yc,yd,yb,(z8i F f i).2,y5,h2,j2f,hw3.1,h3,t4,hadd,q07 (show i<1000000000000 by omega)]
   unfold zzt j2h
   rw[em]
  ·intro k w hw
   show q7k F (q55 F k) d f A B T W x6 (q22 d A B) w 16=_
   unfold q7k
   simp
 rw[z5b (by omega) d f hf]
 simp only[y5]
 rw[loop _ _ rfl]
 rfl
theorem zm3(b:LI):∀i,0≤(eWs b).getD i 0∧(eWs b).getD i 0≤3:=fun i=>qct (p:=fun x=>0≤x∧x≤3) (by decide) (fun x hx=>by
 obtain⟨j,_,rfl⟩:=List.mem_map.1 hx
 have h1:=q18 b (47-q4h j) 1
 have h2:=q18 b (63-q4h j) 1
 omega) i
theorem eFair(d:Bool)(b:LI):zco (eAs d b) (eBs d b):=by
 have ha:∀c,0≤eA d b c∧eA d b c≤31:=fun c=>by
  have h1:=q18 b (8*c) 5
  have h2:=q18 b (8*c) 4
  unfold eA
  split<;>omega
 have hb:∀c,-4≤eB d b c∧eB d b c≤15:=fun c=>by
  have h1:=q18 b (8*c+5) 3
  have h2:=q18 b (8*c+4) 4
  unfold eB sg3
  split
  ·split<;>omega
  ·omega
 refine⟨rfl,rfl,fun i=>qct (p:=fun x=>0≤x∧x≤31) (by decide) (fun x hx=> ?_) i,fun i=>qct (p:=fun x=> -4≤x∧x≤15) (by decide) (fun x hx=> ?_) i⟩
 ·simp only[eAs,yr,List.not_mem_nil,or_false]at hx
  rcases hx with rfl|rfl|rfl<;>exact ha _
 ·simp only[eBs,yr,List.not_mem_nil,or_false]at hx
  rcases hx with rfl|rfl|rfl<;>exact hb _
def j6m(b:LI):LI:=qj3 (qd3 b) (j6j b) (eAs (qd3 b) b) (eBs (qd3 b) b) [hv b 24 3,hv b 27 3] (eWs b)
theorem zm4{F:Nat}(hF:66≤F){b:LI}(hb:Bytes b)(hl:b.length=8):qjx F b=some (j6m b,0,())∧qho F b=some (j6m b,0,()):=by
 unfold qjx qho
 rw[zbe hF hb hl,z59 hF hb hl]
 simp only[y5,eP,bne_self_eq_false,cF]
 rw[zra (by omega) _ _ (eFair _ b) (zm3 b),zm2 (by omega) _ _ (eFair _ b) (zm3 b)]
 exact⟨rfl,rfl⟩
abbrev Fits(n:Nat)(v:Int):Prop:=0≤v∧v<2^n
def lay1(st:LI×Bool)(a n:Nat)(v:Int):LI×Bool:=if st.2=true∧Fits n v then(hset st.1 a n v,true)else(st.1,false)
theorem qtf{F:Nat}(hF:66≤F){out:LI}(hb:Bytes out)(hl:out.length=8){a n:Nat}(hn:n≤16)(h:a+n≤64){v:Int}(hv:IntKind.i64.has v)(fine:Bool):
  q0h F a n v out fine=some ((lay1 (out,fine) a n v).1,(lay1 (out,fine) a n v).2,()):=by
 have hv' :=has_iff.1 hv
 simp only[loB,hiB]at hv'
 have h2:(2:Int)^n≤2^16:=q34 hn
 have hp:=q87 n
 unfold q0h lay1
 by_cases hf:Fits n v
 ·have hf' :=hf
  obtain⟨f1,f2⟩:=hf
  rw[wu64 f1 (by omega),qrb hF hb (by omega) (by omega) (by omega) ⟨f1,f2⟩]
  cases fine
  ·rfl
  ·simp only[y5,cT,beq_self_eq_true,true_and,iP hf']
 ·have hw:∃u,y0 .u64 v=u∧0≤u∧u≤18446744073709551615∧2^n≤u:=by
   by_cases h0:0≤v
   ·exact⟨v,wu64 h0 (by omega),h0,by omega,by unfold Fits at hf;omega⟩
   ·refine⟨v+18446744073709551616,?_,by omega,by omega,by omega⟩
    simp only[y0,IntKind.bits,IntKind.signed]
    simp
    omega
  obtain⟨u,e,u1,u2,u3⟩:=hw
  rw[e,zqu hF hb (by omega) (by omega) ⟨u1,u2⟩]
  have hfit:qr9 out.length (a:Int) (n:Int) u=10:=by
   unfold qr9
   rw[iP (zli (by omega) (by omega)),iP]
   refine⟨by omega,?_⟩
   intro h0
   have h1:=Int.emod_add_mul_ediv u (2^(n:Int).toNat)
   have h3:=Int.emod_lt_of_pos u (q87 (n:Int).toNat)
   rw[h0]at h1
   simp only[yb]at h1 h3
   omega
  simp only[hfit,y5,hf,and_false,if_false]
  cases fine<;>rfl
structure Laid (A N:Nat→Nat) (V:Nat→Int) (m:Nat) (st:LI×Bool):Prop where
 len:st.1.length=8
 bytes:Bytes st.1
 fine:st.2=true↔∀i,i<m→Fits (N i) (V i)
 eq:st.2=true→st.1=qkj A N V [0,0,0,0,0,0,0,0] m
theorem Laid.nil(A N:Nat→Nat)(V:Nat→Int):Laid A N V 0 ([0,0,0,0,0,0,0,0],true):=
 ⟨rfl,fun x hx=>by simp at hx;omega,by simp,fun _=>rfl⟩
theorem z8j{st:LI×Bool}(hl:st.1.length=8)(hb:Bytes st.1)(a n:Nat)(v:Int):(lay1 st a n v).1.length=8∧Bytes (lay1 st a n v).1:=by
 unfold lay1
 split
 ·exact⟨by rw[z85,hl],qra hb _ _ _⟩
 ·exact⟨hl,hb⟩
theorem Laid.step{A N:Nat→Nat}{V:Nat→Int}{m:Nat}{st:LI×Bool}(h:Laid A N V m st):Laid A N V (m+1) (lay1 st (A m) (N m) (V m)):=by
 have hk:=z8j h.len h.bytes (A m) (N m) (V m)
 refine⟨hk.1,hk.2,?_,?_⟩
 ·unfold lay1
  by_cases hc:st.2=true∧Fits (N m) (V m)
  ·rw[iP hc]
   simp only[true_iff]
   intro i hi
   rcases Nat.lt_or_ge i m with h1|h1
   ·exact h.fine.1 hc.1 i h1
   ·have:i=m:=by omega
    subst this
    exact hc.2
  ·rw[iN hc]
   simp only[yn,false_iff]
   exact fun hall=>hc ⟨h.fine.2 fun i hi=>hall i (by omega),hall m (by omega)⟩
 ·unfold lay1
  split
  ·rename_i hc
   intro _
   show hset st.1 (A m) (N m) (V m)=_
   rw[h.eq hc.1]
   rfl
  ·intro h2;cases h2
theorem Laid.bad{A N:Nat→Nat}{V:Nat→Int}{m:Nat}{st st' :LI×Bool}(h:Laid A N V m st)(hl:st'.1.length=8)(hb:Bytes st'.1)(hf:st'.2=false)(hv:¬Fits (N m) (V m)):Laid A N V (m+1) st' :=
 ⟨hl,hb,by rw[hf];simp only[yn,false_iff];exact fun hall=>hv (hall m (by omega)),by rw[hf];intro h2;cases h2⟩
def jA(d:Bool)(j:Nat):Nat:=if j<6 then(if d then(if j%2=0 then 8*(j/2)else 8*(j/2)+5)else 4*j)else if j=6 then 24 else if j=7 then 27 else if j=8 then 30 else if j=9 then 31
 else if j%2=0 then 47-q4h ((j-10)/2)else 63-q4h ((j-10)/2)
def jN(d:Bool)(j:Nat):Nat:=if j<6 then(if d then(if j%2=0 then 5 else 3)else 4)else if j<8 then 3 else 1
def q7v(b:Bool):Int:=if b then 1 else 0
def jV(d f:Bool)(A B T W:LI)(j:Nat):Int:=
 if j<6 then(if j%2=0 then A.getD (j/2) 0 else if d then(if-4≤B.getD (j/2) 0∧B.getD (j/2) 0<4 then B.getD (j/2) 0%8 else-1)else B.getD (j/2) 0)
 else if j=6 then T.getD 0 0 else if j=7 then T.getD 1 0 else if j=8 then q7v d else if j=9 then q7v f
 else if 0≤W.getD ((j-10)/2) 0∧W.getD ((j-10)/2) 0≤3 then(if j%2=0 then W.getD ((j-10)/2) 0/2 else W.getD ((j-10)/2) 0%2)else-1
theorem j_pos:∀d:Bool,∀i,i<42→jA d i+jN d i≤64∧jN d i≤8:=by decide+kernel
theorem j_apart:∀d:Bool,∀i,i<42→∀j,j<42→i≠j→jA d i+jN d i≤jA d j∨jA d j+jN d j≤jA d i:=by decide+kernel
def Ok10(d:Bool)(A B T W:LI):Prop:=
 (∀c,c<3→if d then(0≤A.getD c 0∧A.getD c 0≤31)∧(-4≤B.getD c 0∧B.getD c 0≤3)else(0≤A.getD c 0∧A.getD c 0≤15)∧(0≤B.getD c 0∧B.getD c 0≤15))∧
 (∀i,i<16→0≤W.getD i 0∧W.getD i 0≤3)∧(0≤T.getD 0 0∧T.getD 0 0≤7)∧(0≤T.getD 1 0∧T.getD 1 0≤7)
theorem zm5(d f:Bool)(A B T W:LI):Ok10 d A B T W↔∀j,j<42→Fits (jN d j) (jV d f A B T W j):=by
 have p1:(2:Int)^1=2:=rfl
 have p3:(2:Int)^3=8:=rfl
 have p4:(2:Int)^4=16:=rfl
 have p5:(2:Int)^5=32:=rfl
 constructor
 ·rintro⟨h1,h2,h3,h4⟩ j hj
  by_cases c6:j<6
  ·have hc:=h1 (j/2) (by omega)
   unfold jV jN Fits
   rw[iP c6,iP c6]
   cases d
   ·simp only[yn,if_false]at hc⊢
    rw[p4]
    split<;>omega
   ·simp only[if_true]at hc⊢
    rcases Nat.mod_two_eq_zero_or_one j with e|e
    ·simp only[e,if_true]
     rw[p5]
     omega
    ·have:¬(1:Nat)=0:=by omega
     simp only[e,this,if_false]
     rw[iP (by omega),p3]
     omega
  ·by_cases c6' :j=6
   ·subst c6';show Fits 3 (T.getD 0 0);unfold Fits;omega
   by_cases c7:j=7
   ·subst c7;show Fits 3 (T.getD 1 0);unfold Fits;omega
   by_cases c8:j=8
   ·subst c8;show Fits 1 (q7v d);cases d<;>decide
   by_cases c9:j=9
   ·subst c9;show Fits 1 (q7v f);cases f<;>decide
   have hw:=h2 ((j-10)/2) (by omega)
   unfold jV jN Fits
   rw[iN c6,iN (show¬j<8 by omega),iN c6,iN c6',iN c7,iN c8,iN c9,iP (by omega),p1]
   split<;>omega
 ·intro h
  refine⟨fun c hc=> ?_,fun i hi=> ?_,?_,?_⟩
  ·have h1:=h (2*c) (by omega)
   have h2:=h (2*c+1) (by omega)
   unfold jV jN Fits at h1 h2
   rw[iP (show 2*c<6 by omega),iP (show 2*c<6 by omega),iP (show 2*c%2=0 by omega),show 2*c/2=c by omega]at h1
   rw[iP (show 2*c+1<6 by omega),iP (show 2*c+1<6 by omega),iN (show¬(2*c+1)%2=0 by omega),show(2*c+1)/2=c by omega]at h2
   cases d
   ·simp only[yn,if_false]at h1 h2⊢
    rw[p4]at h1 h2
    omega
   ·simp only[if_true,show 2*c%2=0 by omega]at h1
    simp only[if_true,show¬(2*c+1)%2=0 by omega,if_false]at h2
    rw[p5]at h1
    simp only[if_true]
    split at h2<;>omega
  ·have h1:=h (10+2*i) (by omega)
   unfold jV jN Fits at h1
   rw[iN (show¬10+2*i<6 by omega),iN (show¬10+2*i<6 by omega),iN (show¬10+2*i=6 by omega),iN (show¬10+2*i=7 by omega),iN (show¬10+2*i=8 by omega),iN (show¬10+2*i=9 by omega),
    show(10+2*i-10)/2=i by omega]at h1
   split at h1<;>omega
  ·have:Fits 3 (T.getD 0 0):=h 6 (by omega)
   unfold Fits at this
   omega
  ·have:Fits 3 (T.getD 1 0):=h 7 (by omega)
   unfold Fits at this
   omega
theorem j4v(F:Nat)(b:Bool):qd9 F b=some (q7v b,()):=by cases b<;>rfl
theorem bit10_is(F:Nat)(b:Bool):z68 F b=some (q7v b,()):=by cases b<;>rfl
def Is64(l:LI):Prop:=∀i,IntKind.i64.has (l.getD i 0)
theorem Is64.of{l:LI}(h:∀x∈l,IntKind.i64.has x):Is64 l:=fun i=>qct (p:=fun x=>IntKind.i64.has x) (has_iff.2 (by decide)) h i
theorem qp2{F:Nat}(hF:66≤F)(k:Nat)(d f:Bool){A B:LI}(T W:LI)(hA:Is64 A)(hB:Is64 B){c:Nat}(hc:c<3){st:LI×Bool}(h:Laid (jA d) (jN d) (jV d f A B T W) (2*c) st):
  ∃st',q2l F (k+1) d f A B T W st.1 st.2 c=q2l F k d f A B T W st'.1 st'.2 ((c+1:Nat):Int)∧Laid (jA d) (jN d) (jV d f A B T W) (2*c+2) st' :=by
 obtain⟨out,fine⟩:=st
 have h0:q2l F (k+1) d f A B T W out fine c=qdx F (q2l F k) d f A B T W out fine c:=rfl
 simp only[h0]
 unfold qdx
 have h1:(c:Int)<3:=by omega
 have e8:y0 .i64 ((8:Int)*(c:Int))=((8*c:Nat):Int):=by rw[w64 (by omega) (by omega)];omega
 have e4:y0 .i64 (((8*c:Nat):Int)+4)=((8*c+4:Nat):Int):=by rw[w64 (by omega) (by omega)];omega
 have e5:y0 .i64 (((8*c:Nat):Int)+5)=((8*c+5:Nat):Int):=by rw[w64 (by omega) (by omega)];omega
 have hb0:=has_iff.1 (hB c)
 simp only[loB,hiB]at hb0
 have step1:=h.step
 have k1:=z8j h.len h.bytes (jA d (2*c)) (jN d (2*c)) (jV d f A B T W (2*c))
 cases d
 ·have aA:jA false (2*c)=8*c:=by simp[jA,show 2*c<6 by omega];omega
  have aN:jN false (2*c)=4:=by simp[jN,show 2*c<6 by omega]
  have aV:jV false f A B T W (2*c)=A.getD c 0:=by simp[jV,show 2*c<6 by omega]
  have bA:jA false (2*c+1)=8*c+4:=by simp[jA,show 2*c+1<6 by omega];omega
  have bN:jN false (2*c+1)=4:=by simp[jN,show 2*c+1<6 by omega]
  have bV:jV false f A B T W (2*c+1)=B.getD c 0:=by simp[jV,show 2*c+1<6 by omega,show(2*c+1)%2=1 by omega,show(2*c+1)/2=c by omega]
  have step2:=step1.step
  rw[aA,aN,aV]at k1 step1 step2
  rw[bA,bN,bV]at step2
  have g1:=qtf hF h.bytes h.len (a:=8*c) (n:=4) (by decide) (by omega) (hA c) fine
  have g2:=qtf hF k1.2 k1.1 (a:=8*c+4) (n:=4) (by decide) (by omega) (hB c) (lay1 (out,fine) (8*c) 4 (A.getD c 0)).2
  simp only[yp]at g1 g2
  refine⟨_,?_,step2⟩
  simp only[h1,dT,cT,Bool.not_false,yc,yd,yb,e8,e4,g1,g2,y5,q07 (show c<1000000000000 by omega)]
 ·have aA:jA true (2*c)=8*c:=by simp[jA,show 2*c<6 by omega]
  have aN:jN true (2*c)=5:=by simp[jN,show 2*c<6 by omega]
  have aV:jV true f A B T W (2*c)=A.getD c 0:=by simp[jV,show 2*c<6 by omega]
  have bA:jA true (2*c+1)=8*c+5:=by simp[jA,show 2*c+1<6 by omega,show(2*c+1)%2=1 by omega,show(2*c+1)/2=c by omega]
  have bN:jN true (2*c+1)=3:=by simp[jN,show 2*c+1<6 by omega,show(2*c+1)%2=1 by omega]
  have bV:jV true f A B T W (2*c+1)=if-4≤B.getD c 0∧B.getD c 0<4 then B.getD c 0%8 else-1:=by simp[jV,show 2*c+1<6 by omega,show(2*c+1)%2=1 by omega,show(2*c+1)/2=c by omega]
  rw[aA,aN,aV]at k1 step1
  have g1:=qtf hF h.bytes h.len (a:=8*c) (n:=5) (by decide) (by omega) (hA c) fine
  have g2:=fun v hv=>qtf hF k1.2 k1.1 (a:=8*c+5) (n:=3) (by decide) (by omega) (v:=v) hv (lay1 (out,fine) (8*c) 5 (A.getD c 0)).2
  have step2:=step1.step
  rw[bA,bN,bV]at step2
  have bad2:=fun(st' :LI×Bool) hl hb hf hv=>step1.bad (st' :=st') hl hb hf hv
  rw[bN,bV]at bad2
  have keep2:=fun v=>z8j k1.1 k1.2 (8*c+5) 3 v
  simp only[yp]at g1 g2
  generalize hst:lay1 (out,fine) (8*c) 5 (A.getD c 0)=st1 at*
  generalize hB' :B.getD c 0=y at*
  simp only[h1,dT,cT,Bool.not_true,cF,yc,yd,yb,e8,e5,g1,hB',y5,j4v,q07 (show c<1000000000000 by omega)]
  by_cases hneg:y<0
  ·simp only[hneg,dT,cT]
   by_cases hm4: -4≤y
   ·have et:y0 .i64 (y-y0 .i64 (-8*q7v (decide (-4≤y))))=y+8:=by
     simp only[hm4,dT,q7v,if_true]
     rw[w64 (x:= -8*1) (by decide) (by decide),w64 (by omega) (by omega)]
     omega
    rw[iP ⟨hm4,by omega⟩,show y%8=y+8 by omega]at step2
    have hy4:y<4:=by omega
    simp only[et,g2 (y+8) (has_iff.2 (by simp only[loB,hiB];omega)),y5,hy4,dT]
    refine⟨lay1 st1 (8*c+5) 3 (y+8),?_,step2⟩
    cases hq:(lay1 st1 (8*c+5) 3 (y+8)).2<;>rfl
   ·have et:y0 .i64 (y-y0 .i64 (-8*q7v (decide (-4≤y))))=y:=by
     simp only[hm4,dF,q7v,yn,if_false]
     rw[w64 (x:= -8*0) (by decide) (by decide),w64 (by omega) (by omega)]
     omega
    rw[iN (by omega)]at bad2
    have hq:(lay1 st1 (8*c+5) 3 y).2=false:=by unfold lay1;rw[iN];unfold Fits;omega
    simp only[et,g2 y (has_iff.2 (by simp only[loB,hiB];omega)),y5,hq,cF]
    exact⟨((lay1 st1 (8*c+5) 3 y).1,false),rfl,bad2 _ (keep2 y).1 (keep2 y).2 rfl (by unfold Fits;omega)⟩
  ·have et:y0 .i64 (y-y0 .i64 (-8*q7v false))=y:=by
    simp only[q7v,yn,if_false]
    rw[w64 (x:= -8*0) (by decide) (by decide),w64 (by omega) (by omega)]
    omega
   simp only[hneg,dF,cF,et,g2 y (has_iff.2 (by simp only[loB,hiB];omega)),y5]
   by_cases hy4:y<4
   ·rw[iP ⟨by omega,hy4⟩,show y%8=y by omega]at step2
    simp only[hy4,dT]
    refine⟨lay1 st1 (8*c+5) 3 y,?_,step2⟩
    cases hq:(lay1 st1 (8*c+5) 3 y).2<;>rfl
   ·rw[iN (by omega)]at bad2
    simp only[hy4,dF]
    refine⟨((lay1 st1 (8*c+5) 3 y).1,false),?_,bad2 _ (keep2 y).1 (keep2 y).2 rfl (by unfold Fits;omega)⟩
    cases hq:(lay1 st1 (8*c+5) 3 y).2<;>rfl
theorem Laid.off{A N:Nat→Nat}{V:Nat→Int}{m:Nat}{st st' :LI×Bool}(h:Laid A N V m st)(h0:st.2=false)(hl:st'.1.length=8)(hb:Bytes st'.1)(hf:st'.2=false):Laid A N V (m+1) st' :=by
 refine⟨hl,hb,?_,?_⟩
 ·rw[hf]
  simp only[yn,false_iff]
  intro hall
  rw[h.fine.2 fun i hi=>hall i (by omega)]at h0
  cases h0
 ·rw[hf]
  intro h2
  cases h2
theorem zgd{F:Nat}(hF:66≤F){st:LI×Bool}(hb:Bytes st.1)(hl:st.1.length=8){a n:Nat}(hn:n≤16)(h:a+n≤64){v:Int}(hv:IntKind.i64.has v):
  q0h F a n v st.1 st.2=some ((lay1 st a n v).1,(lay1 st a n v).2,()):=qtf hF hb hl hn h hv st.2
theorem j4w(out:LI)(a n:Nat)(v:Int):lay1 (out,false) a n v=(out,false):=by unfold lay1;rw[iN];simp
theorem iand1(x:Int):iand .i64 x 1=x%2:=qml (x:=x) (b:=1) (by decide)
theorem zq5{F:Nat}(hF:66≤F)(k:Nat)(d f:Bool)(A B T:LI){W:LI}(hW:Is64 W){i:Nat}(hi:i<16){st:LI×Bool}(h:Laid (jA d) (jN d) (jV d f A B T W) (10+2*i) st):
  ∃st',q3j F (k+1) st.1 st.2 W i=q3j F k st'.1 st'.2 W ((i+1:Nat):Int)∧Laid (jA d) (jN d) (jV d f A B T W) (10+2*(i+1)) st' :=by
 obtain⟨out,fine⟩:=st
 have h0:q3j F (k+1) out fine W i=qdy F (q3j F k) out fine W i:=rfl
 simp only[h0]
 unfold qdy
 have h1:(i:Int)<16:=by omega
 have hc:=zgb hi
 have e1:y0 .i64 ((47:Int)-(q4h i:Int))=((47-q4h i:Nat):Int):=by rw[w64 (by omega) (by omega)];omega
 have e2:y0 .i64 ((63:Int)-(q4h i:Int))=((63-q4h i:Nat):Int):=by rw[w64 (by omega) (by omega)];omega
 have hw:=has_iff.1 (hW i)
 simp only[loB,hiB]at hw
 have aA:jA d (10+2*i)=47-q4h i:=by
  unfold jA
  rw[iN (by omega),iN (by omega),iN (by omega),iN (by omega),iN (by omega),iP (by omega),show(10+2*i-10)/2=i by omega]
 have bA:jA d (10+2*i+1)=63-q4h i:=by
  unfold jA
  rw[iN (by omega),iN (by omega),iN (by omega),iN (by omega),iN (by omega),iN (by omega),show(10+2*i+1-10)/2=i by omega]
 have aN:jN d (10+2*i)=1:=by unfold jN;rw[iN (by omega),iN (by omega)]
 have bN:jN d (10+2*i+1)=1:=by unfold jN;rw[iN (by omega),iN (by omega)]
 have aV:jV d f A B T W (10+2*i)=if 0≤W.getD i 0∧W.getD i 0≤3 then W.getD i 0/2 else-1:=by
  unfold jV
  rw[iN (by omega),iN (by omega),iN (by omega),iN (by omega),iN (by omega),show(10+2*i-10)/2=i by omega,iP (show(10+2*i)%2=0 by omega)]
 have bV:jV d f A B T W (10+2*i+1)=if 0≤W.getD i 0∧W.getD i 0≤3 then W.getD i 0%2 else-1:=by
  unfold jV
  rw[iN (by omega),iN (by omega),iN (by omega),iN (by omega),iN (by omega),show(10+2*i+1-10)/2=i by omega,iN (show¬(10+2*i+1)%2=0 by omega)]
 have sh:ishr .i64 (W.getD i 0) 1=W.getD i 0/2:=zlt (x:=W.getD i 0) (k:=1) (by decide)
 have l1:=fun(o:LI) (hb:Bytes o) (hl:o.length=8) (fl:Bool) (v:Int) (hv:IntKind.i64.has v)=>qtf hF hb hl (a:=47-q4h i) (n:=1) (by decide) (by omega) hv fl
 have l2:=fun(o:LI) (hb:Bytes o) (hl:o.length=8) (fl:Bool) (v:Int) (hv:IntKind.i64.has v)=>qtf hF hb hl (a:=63-q4h i) (n:=1) (by decide) (by omega) hv fl
 have m1:IntKind.i64.has (W.getD i 0/2%2):=has_iff.2 (by simp only[loB,hiB];omega)
 have m2:IntKind.i64.has (W.getD i 0%2):=has_iff.2 (by simp only[loB,hiB];omega)
 simp only[yp]at l1 l2
 have off:∀v1 v2,q0h F ((47-q4h i:Nat):Int) 1 v1 out false=some (out,false,())→q0h F ((63-q4h i:Nat):Int) 1 v2 out false=some (out,false,())→True:=fun _ _ _ _=>trivial
 have o1:q0h F ((47-q4h i:Nat):Int) 1 (W.getD i 0/2%2) out false=some (out,false,()):=by rw[l1 out h.bytes h.len false _ m1,j4w]
 have o2:q0h F ((63-q4h i:Nat):Int) 1 (W.getD i 0%2) out false=some (out,false,()):=by rw[l2 out h.bytes h.len false _ m2,j4w]
 simp only[h1,dT,cT,yc,yd,yb,zlz F hi,y5,e1,e2,sh,iand1,q07 (show i<1000000000000 by omega)]
 cases fine
 ·simp only[cF,o1,o2,y5]
  exact⟨(out,false),rfl,(h.off rfl (st' :=(out,false)) h.len h.bytes rfl).off rfl h.len h.bytes rfl⟩
 ·simp only[cT]
  by_cases hg:0≤W.getD i 0∧W.getD i 0≤3
  ·have h4:W.getD i 0<4:=by omega
   have step1:=h.step
   have k1:=z8j h.len h.bytes (47-q4h i) 1 (W.getD i 0/2)
   have step2:=step1.step
   rw[aA,aN,aV,iP hg]at step1 step2
   rw[bA,bN,bV,iP hg]at step2
   have em:W.getD i 0/2%2=W.getD i 0/2:=by omega
   rw[em]at m1
   simp only[hg.1,dT,cT,h4,em,l1 out h.bytes h.len true _ m1,y5,l2 _ k1.2 k1.1 _ _ m2]
   exact⟨_,rfl,step2⟩
  ·have b1:=h.bad (st' :=(out,false)) h.len h.bytes rfl (by rw[aN,aV,iN hg];unfold Fits;omega)
   refine⟨(out,false),?_,b1.off rfl h.len h.bytes rfl⟩
   by_cases hn:0≤W.getD i 0
   ·have h4:¬W.getD i 0<4:=by omega
    simp only[hn,h4,dT,dF,cT,o1,o2,y5]
   ·simp only[hn,dF,cF,o1,o2,y5]
theorem zcp{F:Nat}(hF:66≤F)(d f:Bool)(A B T:LI){W:LI}(hW:Is64 W):∀(k i:Nat) (st:LI×Bool),i≤16→16-i<k→Laid (jA d) (jN d) (jV d f A B T W) (10+2*i) st→
  ∃st',q3j F k st.1 st.2 W i=some (st'.1,st'.2,())∧Laid (jA d) (jN d) (jV d f A B T W) 42 st'
 |0,i,st,_,h,_=>by omega
 |k+1,i,st,hi,hk,h=>by
  by_cases h16:i<16
  ·obtain⟨st',e,h'⟩:=zq5 hF k d f A B T hW h16 h
   rw[e]
   exact zcp hF d f A B T hW k (i+1) st' (by omega) (by omega) h'
  ·have:i=16:=by omega
   subst this
   exact⟨st,rfl,h⟩
instance (d:Bool) (A B T W:LI):Decidable (Ok10 d A B T W):=by
 unfold Ok10
 have:∀c,Decidable (if d then(0≤A.getD c 0∧A.getD c 0≤31)∧(-4≤B.getD c 0∧B.getD c 0≤3)else(0≤A.getD c 0∧A.getD c 0≤15)∧(0≤B.getD c 0∧B.getD c 0≤15)):=fun c=>by
  cases d<;>simp only[yn,if_false,if_true]<;>exact inferInstance
 exact inferInstance
def qmp(d f:Bool)(A B T W:LI):LI:=qkj (jA d) (jN d) (jV d f A B T W) [0,0,0,0,0,0,0,0] 42
theorem j9i{F:Nat}(hF:66≤F)(d f:Bool){A B T W:LI}(hA:Is64 A)(hB:Is64 B)(hT:Is64 T)(hW:Is64 W):
  qlf F (d,f,A,B,T,W,())=if Ok10 d A B T W then some (qmp d f A B T W,0,())else some ([],1,()):=by
 unfold qlf
 obtain⟨n,hn⟩:∃n,F=n+4:=⟨F-4,by omega⟩
 have colours:∀(m:Nat),m=n+4→∃st:LI×Bool,q2l F m d f A B T W [0,0,0,0,0,0,0,0] true 0=some (d,f,A,B,T,W,st.1,st.2,())∧Laid (jA d) (jN d) (jV d f A B T W) 6 st:=by
  intro m hm
  subst hm
  obtain⟨s1,e1,h1⟩:=qp2 hF (n+3) d f T W hA hB (c:=0) (by decide) (Laid.nil _ _ _)
  obtain⟨s2,e2,h2⟩:=qp2 hF (n+2) d f T W hA hB (c:=1) (by decide) h1
  obtain⟨s3,e3,h3⟩:=qp2 hF (n+1) d f T W hA hB (c:=2) (by decide) h2
  exact⟨s3,e1.trans (e2.trans (e3.trans rfl)),h3⟩
 obtain⟨st6,e6,l6⟩:=colours F hn
 have l7:=l6.step
 have l8:=l7.step
 have l9:=l8.step
 have l10:=l9.step
 have f6:jA d 6=24∧jN d 6=3∧jV d f A B T W 6=T.getD 0 0:=⟨rfl,rfl,rfl⟩
 have f7:jA d 7=27∧jN d 7=3∧jV d f A B T W 7=T.getD 1 0:=⟨rfl,rfl,rfl⟩
 have f8:jA d 8=30∧jN d 8=1∧jV d f A B T W 8=q7v d:=⟨rfl,rfl,rfl⟩
 have f9:jA d 9=31∧jN d 9=1∧jV d f A B T W 9=q7v f:=⟨rfl,rfl,rfl⟩
 rw[f6.1,f6.2.1,f6.2.2]at l7 l8 l9 l10
 rw[f7.1,f7.2.1,f7.2.2]at l8 l9 l10
 rw[f8.1,f8.2.1,f8.2.2]at l9 l10
 rw[f9.1,f9.2.1,f9.2.2]at l10
 have g6:=zgd hF l6.bytes l6.len (a:=24) (n:=3) (by decide) (by decide) (hT 0)
 have g7:=zgd hF l7.bytes l7.len (a:=27) (n:=3) (by decide) (by decide) (hT 1)
 have g8:=zgd hF l8.bytes l8.len (a:=30) (n:=1) (by decide) (by decide) (v:=q7v d) (by cases d<;>exact has_iff.2 (by decide))
 have g9:=zgd hF l9.bytes l9.len (a:=31) (n:=1) (by decide) (by decide) (v:=q7v f) (by cases f<;>exact has_iff.2 (by decide))
 obtain⟨st,e,l42⟩:=zcp hF d f A B T hW F 0 _ (by omega) (by omega) l10
 simp only[yp]at g6 g7 g8 g9
 rw[yq]at e
 have e6' :q2l F F d f A B T W qb1 true 0=_:=e6
 simp only[e6',y5,g6,g7,g8,g9,j4v,e]
 have hfine:=l42.fine
 rw[←zm5]at hfine
 by_cases hok:Ok10 d A B T W
 ·have:=hfine.2 hok
  rw[iP hok,this,l42.eq this]
  rfl
 ·have:st.2=false:=by
   cases hq:st.2
   ·rfl
   ·exact absurd (hfine.1 hq) hok
  rw[iN hok,this]
  rfl
def okc(d:Bool)(A B:LI)(c:Nat):Prop:=if d then(0≤A.getD c 0∧A.getD c 0≤31)∧(-4≤B.getD c 0∧B.getD c 0≤3)else(0≤A.getD c 0∧A.getD c 0≤15)∧(0≤B.getD c 0∧B.getD c 0≤15)
theorem zvv(F k:Nat)(d f:Bool)(A B T W:LI){c:Nat}(hc:c<3):
  (okc d A B c→q42 F (k+1) d f A B T W c=q42 F k d f A B T W ((c+1:Nat):Int))∧(¬okc d A B c→q42 F (k+1) d f A B T W c=some (.inl ())):=by
 have h0:q42 F (k+1) d f A B T W c=qjz F (q42 F k) d f A B T W c:=rfl
 rw[h0]
 unfold qjz okc
 have h1:(c:Int)<3:=by omega
 simp only[h1,dT,cT,yc,yd,yb,zm1,y5,q07 (show c<1000000000000 by omega)]
 cases d
 ·simp only[cF,cT,Bool.not_false,yn,if_false]
  by_cases h2:0≤A.getD c 0∧A.getD c 0≤15<;>by_cases h3:0≤B.getD c 0∧B.getD c 0≤15<;>
   simp only[h2,h3,dT,dF,Bool.not_true,Bool.not_false,cT,cF,and_self,and_true,true_and,and_false,false_and,not_true_eq_false,not_false_eq_true,false_implies,forall_const,true_implies,imp_self]
 ·simp only[cF,cT,Bool.not_true,if_true]
  by_cases h2:0≤A.getD c 0∧A.getD c 0≤31<;>by_cases h3: -4≤B.getD c 0∧B.getD c 0≤3<;>
   simp only[h2,h3,dT,dF,Bool.not_true,Bool.not_false,cT,cF,and_self,and_true,true_and,and_false,false_and,not_true_eq_false,not_false_eq_true,false_implies,forall_const,true_implies,imp_self]
theorem zm6(F:Nat)(d f:Bool)(A B T W:LI):∀(k i:Nat),i≤3→3-i<k→
  ((∀c,i≤c→c<3→okc d A B c)→q42 F k d f A B T W i=some (.inr (d,f,A,B,T,W,())))∧((∃c,i≤c∧c<3∧¬okc d A B c)→q42 F k d f A B T W i=some (.inl ()))
 |0,i,_,h=>by omega
 |k+1,i,hi,hk=>by
  by_cases h3:i<3
  ·obtain⟨s1,s2⟩:=zvv F k d f A B T W h3
   have ih:=zm6 F d f A B T W k (i+1) (by omega) (by omega)
   constructor
   ·intro h
    rw[s1 (h i (wc _) h3)]
    exact ih.1 fun c h1 h2=>h c (by omega) h2
   ·rintro⟨c,h1,h2,h4⟩
    by_cases hc:okc d A B i
    ·rw[s1 hc]
     refine ih.2 ⟨c,?_,h2,h4⟩
     rcases Nat.eq_or_lt_of_le h1 with e|e
     ·subst e;exact absurd hc h4
     ·exact e
    ·exact s2 hc
  ·have:i=3:=by omega
   subst this
   exact⟨fun _=>rfl,fun⟨c,h1,h2,_⟩=>by omega⟩
theorem zm7(F:Nat)(d f:Bool)(A B T W:LI):∀(k i:Nat),i≤16→16-i<k→
  ((∀c,i≤c→c<16→0≤W.getD c 0∧W.getD c 0≤3)→q7z F k d f A B T W i=some (.inr (d,f,A,B,T,W,())))∧((∃c,i≤c∧c<16∧¬(0≤W.getD c 0∧W.getD c 0≤3))→q7z F k d f A B T W i=some (.inl ()))
 |0,i,_,h=>by omega
 |k+1,i,hi,hk=>by
  by_cases h3:i<16
  ·have ih:=zm7 F d f A B T W k (i+1) (by omega) (by omega)
   have h0:q7z F (k+1) d f A B T W i=qk0 F (q7z F k) d f A B T W i:=rfl
   rw[h0]
   unfold qk0
   have h1:(i:Int)<16:=by omega
   simp only[h1,dT,cT,yc,yd,yb,zm1,y5,q07 (show i<1000000000000 by omega)]
   constructor
   ·intro h
    simp only[h i (wc _) h3,and_self,dT,Bool.not_true,cF]
    exact ih.1 fun c h1 h2=>h c (by omega) h2
   ·rintro⟨c,h1,h2,h4⟩
    by_cases hc:0≤W.getD i 0∧W.getD i 0≤3
    ·simp only[hc,and_self,dT,Bool.not_true,cF]
     refine ih.2 ⟨c,?_,h2,h4⟩
     rcases Nat.eq_or_lt_of_le h1 with e|e
     ·subst e;exact absurd hc h4
     ·exact e
    ·simp only[hc,dF,Bool.not_false,cT]
  ·have:i=16:=by omega
   subst this
   exact⟨fun _=>rfl,fun⟨c,h1,h2,_⟩=>by omega⟩
theorem May10_is{F:Nat}(hF:17≤F)(d f:Bool)(A B T W:LI):z67 F (d,f,A,B,T,W,())=some (decide (Ok10 d A B T W),()):=by
 unfold z67
 have m0:=zm6 F d f A B T W F 0 (by omega) (by omega)
 have m2:=zm7 F d f A B T W F 0 (by omega) (by omega)
 rw[yq]at m0 m2
 by_cases h0:∀c,0≤c→c<3→okc d A B c
 ·simp only[m0.1 h0,y5]
  by_cases h2:∀c,0≤c→c<16→0≤W.getD c 0∧W.getD c 0≤3
  ·simp only[m2.1 h2,y5,zm1]
   have e:Ok10 d A B T W↔(0≤T.getD 0 0∧T.getD 0 0≤7)∧(0≤T.getD 1 0∧T.getD 1 0≤7):=⟨fun h=>h.2.2,fun h=>⟨fun c hc=>h0 c (by omega) hc,fun i hi=>h2 i (by omega) hi,h⟩⟩
   by_cases h3:0≤T.getD 0 0∧T.getD 0 0≤7
   ·have e2:Ok10 d A B T W↔0≤T.getD 1 0∧T.getD 1 0≤7:=e.trans ⟨fun h=>h.2,fun h=>⟨h3,h⟩⟩
    simp only[h3,and_self,dT,cT,e2]
   ·have e2:¬Ok10 d A B T W:=fun h=>h3 (e.1 h).1
    simp only[h3,dF,cF,e2]
  ·have:∃c,0≤c∧c<16∧¬(0≤W.getD c 0∧W.getD c 0≤3):=by
    apply Classical.byContradiction
    intro hn
    exact h2 fun c h1 h3=>Classical.byContradiction fun h4=>hn ⟨c,h1,h3,h4⟩
   have e:¬Ok10 d A B T W:=fun h=>h2 fun c _ hc=>h.2.1 c hc
   simp only[m2.2 this,y5,e,dF]
 ·have:∃c,0≤c∧c<3∧¬okc d A B c:=by
   apply Classical.byContradiction
   intro hn
   exact h0 fun c h1 h3=>Classical.byContradiction fun h4=>hn ⟨c,h1,h3,h4⟩
  have e:¬Ok10 d A B T W:=fun h=>h0 fun c _ hc=>h.1 c hc
  simp only[m0.2 this,y5,e,dF]
theorem set10_is{F:Nat}(hF:66≤F){b:LI}(hb:Bytes b)(hl:b.length=8){a n:Nat}(hn:n≤16)(h:a+n≤64){v:Int}(hv:Fits n v):q6f F b a n v=some (hset b a n v,()):=by
 have h2:(2:Int)^n≤2^16:=q34 hn
 obtain⟨h3,h4⟩:=hv
 unfold q6f
 rw[wu64 h3 (by omega),z88 hF hb (by omega) (by omega) (by omega) ⟨h3,h4⟩]
 rfl
def jl(d f:Bool)(A B T W:LI)(m:Nat):LI:=qkj (jA d) (jN d) (jV d f A B T W) [0,0,0,0,0,0,0,0] m
theorem j4x:Bytes [0,0,0,0,0,0,0,0]:=fun x hx=>by simp at hx;omega
theorem j4y(d f:Bool)(A B T W:LI)(m:Nat):Bytes (jl d f A B T W m):=q3f _ _ _ j4x m
theorem jl_len(d f:Bool)(A B T W:LI)(m:Nat):(jl d f A B T W m).length=8:=by unfold jl;rw[q4d];rfl
theorem q9x{F:Nat}(hF:66≤F){d f:Bool}{A B T W:LI}(hok:Ok10 d A B T W){m:Nat}(hm:m<42){a n:Nat}{v:Int}(ha:jA d m=a)(hn:jN d m=n)(hv:jV d f A B T W m=v):
  q6f F (jl d f A B T W m) a n v=some (jl d f A B T W (m+1),()):=by
 have hp:=j_pos d m hm
 have hf:=(zm5 d f A B T W).1 hok m hm
 rw[ha,hn]at hp
 rw[hn,hv]at hf
 rw[set10_is hF (j4y d f A B T W m) (jl_len d f A B T W m) (by omega) hp.1 hf,←ha,←hn,←hv]
 rfl
theorem qmq{F:Nat}(hF:66≤F)(k:Nat){d f:Bool}{A B T W:LI}(hok:Ok10 d A B T W){c:Nat}(hc:c<3):
  q3l F (k+1) d f A B T W (jl d f A B T W (2*c)) c=q3l F k d f A B T W (jl d f A B T W (2*(c+1))) ((c+1:Nat):Int):=by
 have h0:q3l F (k+1) d f A B T W (jl d f A B T W (2*c)) c=qgv F (q3l F k) d f A B T W (jl d f A B T W (2*c)) c:=rfl
 rw[h0]
 unfold qgv
 have h1:(c:Int)<3:=by omega
 have e8:y0 .i64 ((8:Int)*(c:Int))=((8*c:Nat):Int):=by rw[w64 (by omega) (by omega)];omega
 have e4:y0 .i64 (((8*c:Nat):Int)+4)=((8*c+4:Nat):Int):=by rw[w64 (by omega) (by omega)];omega
 have e5:y0 .i64 (((8*c:Nat):Int)+5)=((8*c+5:Nat):Int):=by rw[w64 (by omega) (by omega)];omega
 have hcc:=hok.1 c hc
 cases d
 ·have g1:=q9x hF (f:=f) hok (m:=2*c) (by omega) (a:=8*c) (n:=4) (v:=A.getD c 0) (by simp[jA,show 2*c<6 by omega];omega) (by simp[jN,show 2*c<6 by omega]) (by simp[jV,show 2*c<6 by omega])
  have g2:=q9x hF (f:=f) hok (m:=2*c+1) (by omega) (a:=8*c+4) (n:=4) (v:=B.getD c 0) (by simp[jA,show 2*c+1<6 by omega];omega) (by simp[jN,show 2*c+1<6 by omega])
   (by simp[jV,show 2*c+1<6 by omega,show(2*c+1)%2=1 by omega,show(2*c+1)/2=c by omega])
  simp only[yp]at g1 g2
  simp only[h1,dT,cT,cF,yc,yd,yb,e8,e4,g1,g2,y5,q07 (show c<1000000000000 by omega)]
  rfl
 ·simp only[if_true]at hcc
  have g1:=q9x hF (f:=f) hok (m:=2*c) (by omega) (a:=8*c) (n:=5) (v:=A.getD c 0) (by simp[jA,show 2*c<6 by omega]) (by simp[jN,show 2*c<6 by omega]) (by simp[jV,show 2*c<6 by omega])
  have g2:=q9x hF (f:=f) hok (m:=2*c+1) (by omega) (a:=8*c+5) (n:=3) (v:=B.getD c 0%8) (by simp[jA,show 2*c+1<6 by omega,show(2*c+1)%2=1 by omega,show(2*c+1)/2=c by omega])
   (by simp[jN,show 2*c+1<6 by omega,show(2*c+1)%2=1 by omega])
   (by
    unfold jV
    rw[iP (by omega),iN (by omega),show(2*c+1)/2=c by omega,iP rfl,iP (by omega)])
  simp only[yp]at g1 g2
  simp only[h1,dT,cT,yc,yd,yb,e8,e5,g1,zgc F (show(0:Int)<8∧(8:Int)≤1000000000 by decide),g2,y5,q07 (show c<1000000000000 by omega)]
  rfl
theorem zzv{F:Nat}(hF:66≤F){d f:Bool}{A B T W:LI}(hok:Ok10 d A B T W):∀(k i:Nat),i≤16→16-i<k→qah F k (jl d f A B T W (10+2*i)) W i=some (jl d f A B T W 42,())
 |0,i,_,h=>by omega
 |k+1,i,hi,hk=>by
  by_cases h16:i<16
  ·have ih:=zzv hF (f:=f) hok k (i+1) (by omega) (by omega)
   have h0:qah F (k+1) (jl d f A B T W (10+2*i)) W i=qk1 F (qah F k) (jl d f A B T W (10+2*i)) W i:=rfl
   rw[h0]
   unfold qk1
   have h1:(i:Int)<16:=by omega
   have hc:=zgb h16
   have hg:=hok.2.1 i h16
   have e1:y0 .i64 ((47:Int)-(q4h i:Int))=((47-q4h i:Nat):Int):=by rw[w64 (by omega) (by omega)];omega
   have e2:y0 .i64 ((63:Int)-(q4h i:Int))=((63-q4h i:Nat):Int):=by rw[w64 (by omega) (by omega)];omega
   have g1:=q9x hF (f:=f) hok (m:=10+2*i) (by omega) (a:=47-q4h i) (n:=1) (v:=W.getD i 0/2)
    (by unfold jA;rw[iN (by omega),iN (by omega),iN (by omega),iN (by omega),iN (by omega),iP (by omega),show(10+2*i-10)/2=i by omega])
    (by unfold jN;rw[iN (by omega),iN (by omega)])
    (by unfold jV;rw[iN (by omega),iN (by omega),iN (by omega),iN (by omega),iN (by omega),show(10+2*i-10)/2=i by omega,iP hg,iP (show(10+2*i)%2=0 by omega)])
   have g2:=q9x hF (f:=f) hok (m:=10+2*i+1) (by omega) (a:=63-q4h i) (n:=1) (v:=W.getD i 0%2)
    (by unfold jA;rw[iN (by omega),iN (by omega),iN (by omega),iN (by omega),iN (by omega),iN (by omega),show(10+2*i+1-10)/2=i by omega])
    (by unfold jN;rw[iN (by omega),iN (by omega)])
    (by unfold jV;rw[iN (by omega),iN (by omega),iN (by omega),iN (by omega),iN (by omega),show(10+2*i+1-10)/2=i by omega,iP hg,iN (show¬(10+2*i+1)%2=0 by omega)])
   simp only[yp]at g1 g2
   have t1:y0 .i64 (yx (W.getD i 0) 2)=W.getD i 0/2:=by rw[q1g hg.1,w64 (by omega) (by omega)]
   have t2:yw (W.getD i 0) 2=W.getD i 0%2:=tmod_nonneg hg.1
   simp only[h1,dT,cT,yc,yd,yb,j9h h16,e1,e2,t1,t2,g1,g2,y5,q07 (show i<1000000000000 by omega)]
   exact ih
  ·have:i=16:=by omega
   subst this
   rfl
theorem j6n{F:Nat}(hF:66≤F)(d f:Bool)(A B T W:LI):
  qpn F (d,f,A,B,T,W,())=if Ok10 d A B T W then some (qmp d f A B T W,0,())else some ([],1,()):=by
 unfold qpn
 rw[May10_is (by omega)]
 by_cases hok:Ok10 d A B T W
 ·obtain⟨n,hn⟩:∃n,F=n+4:=⟨F-4,by omega⟩
  have colours:∀(m:Nat),m=n+4→q3l F m d f A B T W [0,0,0,0,0,0,0,0] 0=some (d,f,A,B,T,W,jl d f A B T W 6,()):=by
   intro m hm
   subst hm
   have s0:=qmq hF (n+3) (f:=f) hok (c:=0) (by decide)
   have s1:=qmq hF (n+2) (f:=f) hok (c:=1) (by decide)
   have s2:=qmq hF (n+1) (f:=f) hok (c:=2) (by decide)
   have z0:jl d f A B T W 0=[0,0,0,0,0,0,0,0]:=rfl
   simp only[Nat.mul_zero,Nat.reduceMul,Nat.reduceAdd,Nat.zero_add,yq,yp]at s0 s1 s2
   rw[z0]at s0
   rw[s0,s1,s2]
   rfl
  have e6:q3l F F d f A B T W qb1 0=_:=colours F hn
  have g6:=q9x hF (f:=f) hok (m:=6) (by decide) (a:=24) (n:=3) (v:=T.getD 0 0) rfl rfl rfl
  have g7:=q9x hF (f:=f) hok (m:=7) (by decide) (a:=27) (n:=3) (v:=T.getD 1 0) rfl rfl rfl
  have g8:=q9x hF (f:=f) hok (m:=8) (by decide) (a:=30) (n:=1) (v:=q7v d) rfl rfl rfl
  have g9:=q9x hF (f:=f) hok (m:=9) (by decide) (a:=31) (n:=1) (v:=q7v f) rfl rfl rfl
  have g10:=zzv hF (f:=f) hok F 0 (by omega) (by omega)
  simp only[yp]at g6 g7 g8 g9
  rw[yq,Nat.mul_zero,Nat.add_zero]at g10
  have lay:z69 F (jl d f A B T W 10) W=some (jl d f A B T W 42,()):=by
   unfold z69
   rw[g10]
   simp only[y5]
  simp only[hok,dT,Bool.not_true,cF,if_true,e6,y5,g6,g7,g8,g9,bit10_is,lay]
  rw[show qmp d f A B T W=jl d f A B T W 42 from rfl]
 ·simp only[hok,dF,Bool.not_false,cT,if_false,y5]
theorem Ok10.which{d:Bool}{A B T W:LI}(h:Ok10 d A B T W)(hW:W.length=16):∀i,0≤W.getD i 0∧W.getD i 0≤3:=fun i=>by
 rcases Nat.lt_or_ge i 16 with hc|hc
 ·exact h.2.1 i hc
 ·rw[ye,wa (by omega)];decide
theorem list3{l:LI}(h:l.length=3):[l.getD 0 0,l.getD 1 0,l.getD 2 0]=l:=by
 match l,h with
 |[a,b,c],_=>rfl
theorem list2{l:LI}(h:l.length=2):[l.getD 0 0,l.getD 1 0]=l:=by
 match l,h with
 |[a,b],_=>rfl
theorem j6o{l:LI}{n:Nat}(h:l.length=n):(w8 n).map (fun i=>l.getD i 0)=l:=by
 subst h
 apply List.ext_getElem (by simp)
 intro i h1 h2
 simp[ye,h2]
theorem qc2{d f:Bool}{A B T W:LI}(h:Ok10 d A B T W){j:Nat}(hj:j<42){a n:Nat}{v:Int}(ha:jA d j=a)(hn:jN d j=n)(hv' :jV d f A B T W j=v):hv (qmp d f A B T W) a n=v:=by
 subst ha hn hv'
 exact zvd j4x (fun i hi=>(j_pos d i hi).1) (fun i j hi hj=>j_apart d i hi j hj) ((zm5 d f A B T W).1 h) hj
theorem eP_join{d f:Bool}{A B T W:LI}(h:Ok10 d A B T W)(lA:A.length=3)(lB:B.length=3)(lT:T.length=2)(lW:W.length=16):eP (qmp d f A B T W)=(d,f,A,B,T,W,()):=by
 have hd:qd3 (qmp d f A B T W)=d:=by
  unfold qd3
  rw[qc2 h (j:=8) (by decide) (a:=30) (n:=1) (v:=q7v d) rfl rfl rfl]
  cases d<;>rfl
 have hf:j6j (qmp d f A B T W)=f:=by
  unfold j6j
  rw[qc2 h (j:=9) (by decide) (a:=31) (n:=1) (v:=q7v f) rfl rfl rfl]
  cases f<;>rfl
 have hA:eAs d (qmp d f A B T W)=A:=by
  have key:∀c,c<3→eA d (qmp d f A B T W) c=A.getD c 0:=by
   intro c hc
   unfold eA
   cases d
   ·rw[iN (by decide)]
    exact qc2 h (j:=2*c) (by omega) (by simp[jA,show 2*c<6 by omega];omega) (by simp[jN,show 2*c<6 by omega]) (by simp[jV,show 2*c<6 by omega])
   ·rw[iP rfl]
    exact qc2 h (j:=2*c) (by omega) (by simp[jA,show 2*c<6 by omega]) (by simp[jN,show 2*c<6 by omega]) (by simp[jV,show 2*c<6 by omega])
  unfold eAs
  rw[key 0 (by decide),key 1 (by decide),key 2 (by decide)]
  exact list3 lA
 have hB:eBs d (qmp d f A B T W)=B:=by
  have key:∀c,c<3→eB d (qmp d f A B T W) c=B.getD c 0:=by
   intro c hc
   unfold eB
   cases d
   ·rw[iN (by decide)]
    exact qc2 h (j:=2*c+1) (by omega) (by simp[jA,show 2*c+1<6 by omega];omega) (by simp[jN,show 2*c+1<6 by omega])
     (by simp[jV,show 2*c+1<6 by omega,show(2*c+1)%2=1 by omega,show(2*c+1)/2=c by omega])
   ·have hc2:=h.1 c hc
    simp only[if_true]at hc2
    rw[iP rfl,qc2 h (j:=2*c+1) (by omega) (a:=8*c+5) (n:=3) (v:=B.getD c 0%8) (by simp[jA,show 2*c+1<6 by omega,show(2*c+1)%2=1 by omega,show(2*c+1)/2=c by omega])
     (by simp[jN,show 2*c+1<6 by omega,show(2*c+1)%2=1 by omega])
     (by
      unfold jV
      rw[iP (by omega),iN (by omega),show(2*c+1)/2=c by omega,iP rfl,iP (by omega)])]
    unfold sg3
    split<;>omega
  unfold eBs
  rw[key 0 (by decide),key 1 (by decide),key 2 (by decide)]
  exact list3 lB
 have hW:eWs (qmp d f A B T W)=W:=by
  unfold eWs
  conv=>rhs;rw[←j6o lW]
  refine List.map_congr_left fun i hi=> ?_
  have hi:i<16:=by simpa using hi
  have hg:=h.2.1 i hi
  rw[qc2 h (j:=10+2*i) (by omega) (a:=47-q4h i) (n:=1) (v:=W.getD i 0/2)
    (by unfold jA;rw[iN (by omega),iN (by omega),iN (by omega),iN (by omega),iN (by omega),iP (by omega),show(10+2*i-10)/2=i by omega])
    (by unfold jN;rw[iN (by omega),iN (by omega)])
    (by unfold jV;rw[iN (by omega),iN (by omega),iN (by omega),iN (by omega),iN (by omega),show(10+2*i-10)/2=i by omega,iP hg,iP (show(10+2*i)%2=0 by omega)]),
   qc2 h (j:=10+2*i+1) (by omega) (a:=63-q4h i) (n:=1) (v:=W.getD i 0%2)
    (by unfold jA;rw[iN (by omega),iN (by omega),iN (by omega),iN (by omega),iN (by omega),iN (by omega),show(10+2*i+1-10)/2=i by omega])
    (by unfold jN;rw[iN (by omega),iN (by omega)])
    (by unfold jV;rw[iN (by omega),iN (by omega),iN (by omega),iN (by omega),iN (by omega),show(10+2*i+1-10)/2=i by omega,iP hg,iN (show¬(10+2*i+1)%2=0 by omega)])]
  omega
 unfold eP
 rw[hd,hf,hA,hB,hW,qc2 h (j:=6) (by decide) (a:=24) (n:=3) rfl rfl rfl,qc2 h (j:=7) (by decide) (a:=27) (n:=3) rfl rfl rfl]
 show(d,f,A,B,[T.getD 0 0,T.getD 1 0],W,())=_
 rw[list2 lT]
theorem j6p(d f:Bool)(A B T W:LI):(qmp d f A B T W).length=8:=jl_len d f A B T W 42
theorem zzw(d f:Bool)(A B T W:LI):Bytes (qmp d f A B T W):=j4y d f A B T W 42
def pk(b:LI)(L:List Nat):Nat→Int
 |0=>0
 |i+1=>2*pk b L i+hv b (L.getD i 0) 1
theorem z8k(b:LI)(L:List Nat):∀i,0≤pk b L i∧pk b L i<2^i
 |0=>by simp[pk]
 |i+1=>by
  have h:=z8k b L i
  have h1:=q18 b (L.getD i 0) 1
  simp only[pk,Int.pow_succ]
  omega
theorem j9j:((w8 2048).all fun n=>(w8 2).all fun v=>ior .i64 (ishl .i64 (n:Int) 1) v==2*(n:Int)+v)=true:=by kernel_rfl
theorem or_bit{n v:Int}(hn:0≤n∧n<2048)(hv:0≤v∧v≤1):ior .i64 (ishl .i64 n 1) v=2*n+v:=by
 obtain⟨n,rfl⟩:=yh hn.1
 obtain⟨v,rfl⟩:=yh hv.1
 have:=List.all_eq_true.1 (List.all_eq_true.1 j9j n (List.mem_range.2 (by omega))) v (List.mem_range.2 (by omega))
 simpa using this
theorem j6q:((w8 2048).all fun n=>ishl .i64 (n:Int) 1==2*(n:Int))=true:=by kernel_rfl
theorem shl_one{n:Int}(hn:0≤n∧n<2048):ishl .i64 n 1=2*n:=by
 obtain⟨n,rfl⟩:=yh hn.1
 have:=List.all_eq_true.1 j6q n (List.mem_range.2 (by omega))
 simpa using this
def q4s(L:List Nat):LI:=List.map (fun a:Nat=>Int.ofNat a) L
theorem z8l(L:List Nat)(i:Nat):(q4s L).getD i 0=((L.getD i 0:Nat):Int):=by
 unfold q4s
 rw[ye,ye,List.getElem?_map]
 cases L[i]? <;>rfl
theorem qi8(L:List Nat):(q4s L).length=L.length:=by simp[q4s]
def Posn(L:List Nat):Prop:=L.length≤12∧∀i,L.getD i 0<64
theorem hvT(b:LI)(a n:Nat)(hn:n≤16):y0 .i64 (hv b a n)=hv b a n:=by
 have h1:=q18 b a n
 have h2:(2:Int)^n≤2^16:=q34 hn
 exact w64 (by omega) (by omega)
theorem j6r{b:LI}(hb:Bytes b)(hl:b.length=8)(x1:Bool)(x2:Bool)(x3:LI)(x4:LI)(x5:LI)(x6:LI)(x7:Bool){L:List Nat}(hL:Posn L):
  ∀(d i k:Nat),i+d=L.length→d<k→q2e 600 k b x1 x2 x3 x4 x5 x6 x7 (pk b L i) (q4s L) ((L.length:Int)) ((i:Int))=some (pk b L L.length,()):=by
 intro d
 induction d with
 |zero=>
  intro i k h1 h2
  obtain⟨k,rfl⟩:∃k',k=k' +1:=⟨k-1,by omega⟩
  obtain rfl:i=L.length:=by omega
  unfold q2e q7b
  simp only[yv,dF,cF]
 |succ d ih=>
  intro i k h1 h2
  obtain⟨k,rfl⟩:∃k',k=k' +1:=⟨k-1,by omega⟩
  have hlen:=hL.1
  have i1:(i:Int)<(L.length:Int):=by omega
  have hp:=z8k b L i
  have hp2:(2:Int)^i≤2^11:=q34 (by omega)
  have hv1:=q18 b (L.getD i 0) 1
  have ha:=hL.2 i
  have r:qdu 600 b ((L.getD i 0:Nat):Int) (1:Int)=_:=zva (n:=1) (by omega) hb (by omega) (by omega) (by omega)
  unfold q2e q7b
  simp only[i1,dT,cT,yc,yd,yb,qi8,z8l,r,y5,hvT b _ 1 (by omega)]
  rw[q07 (by omega),or_bit (by omega) (by omega),show 2*pk b L i+hv b (L.getD i 0) 1=pk b L (i+1)from rfl]
  exact ih (i+1) k (by omega) (by omega)
theorem z3z{b:LI}(hb:Bytes b)(hl:b.length=8)(a1 a2:Bool)(a3 a4 a5 a6:LI)(a7:Bool){L:List Nat}(hL:Posn L):q0f 600 b a1 a2 a3 a4 a5 a6 a7 (q4s L)=some (pk b L L.length,()):=by
 unfold q0f
 have h:=j6r hb hl a1 a2 a3 a4 a5 a6 a7 hL L.length 0 600 (by omega) (by have:=hL.1;omega)
 rw[show pk b L 0=0 from rfl,show((0:Nat):Int)=0 from rfl]at h
 rw[qi8,h]
 rfl
theorem j2i{b:LI}(hb:Bytes b)(hl:b.length=8){L:List Nat}(hL:Posn L):
  ∀(d i k:Nat),i+d=L.length→d<k→q8e 600 k b (q4s L) (pk b L i) (i:Int)=some (pk b L L.length,()):=by
 intro d
 induction d with
 |zero=>
  intro i k h1 h2
  obtain⟨k,rfl⟩:∃k',k=k' +1:=⟨k-1,by omega⟩
  obtain rfl:i=L.length:=by omega
  unfold q8e qgz
  simp only[qi8,yv,dF,cF]
 |succ d ih=>
  intro i k h1 h2
  obtain⟨k,rfl⟩:∃k',k=k' +1:=⟨k-1,by omega⟩
  have hlen:=hL.1
  have i1:(i:Int)<(L.length:Int):=by omega
  have hp:=z8k b L i
  have hp2:(2:Int)^i≤2^11:=q34 (by omega)
  have hv1:=q18 b (L.getD i 0) 1
  have ha:=hL.2 i
  have r:q23 600 b ((L.getD i 0:Nat):Int) (1:Int)=_:=qi7 (n:=1) (by omega) hb hl (by omega) (by omega)
  unfold q8e qgz
  simp only[qi8,i1,dT,cT,yc,yd,yb,z8l,r,y5]
  rw[q07 (by omega),w64 (x:=2*pk b L i) (by omega) (by omega),w64 (by omega) (by omega),show 2*pk b L i+hv b (L.getD i 0) 1=pk b L (i+1)from rfl]
  exact ih (i+1) k (by omega) (by omega)
theorem z01{b:LI}(hb:Bytes b)(hl:b.length=8){L:List Nat}(hL:Posn L):q2r 600 b (q4s L)=some (pk b L L.length,()):=by
 unfold q2r
 have h:=j2i hb hl hL L.length 0 600 (by omega) (by have:=hL.1;omega)
 rw[show pk b L 0=0 from rfl,show((0:Nat):Int)=0 from rfl]at h
 rw[h]
 rfl
theorem qfm{b:LI}(hb:Bytes b)(hl:b.length=8)(a1 a2:Bool)(a3 a4 a5 a6:LI)(a7:Bool){x y:Int}{a n:Nat}(hx:x=a)(hy:y=(a:Int)+n-1)(hn:n≤16)(h:a+n≤64):
  q0c 600 b a1 a2 a3 a4 a5 a6 a7 x y=some (hv b a n,())∧q2f 600 b x y=some (hv b a n,()):=by
 subst hx
 subst hy
 have e:y0 .i64 (y0 .i64 ((a:Int)+n-1-a)+1)=(n:Int):=by
  rw[w64 (x:=(a:Int)+n-1-a) (by omega) (by omega),w64 (by omega) (by omega)]
  omega
 unfold q0c q2f
 rw[e,zva (by omega) hb (by omega) (by omega) (by omega),qi7 (by omega) hb hl hn h]
 simp only[y5,hvT b a n hn,and_self]
theorem zrb(x y z:Int){p q r:Nat}(hp:1≤p∧p≤8)(hq:1≤q∧q≤8)(hr:1≤r∧r≤8)(k:Nat)(x1:LI):
  q3q 600 (k+4) [(p:Int),(q:Int),(r:Int)] x1 [0,0,0,255] [x,y,z] 0=some (x1,[q1h p x,q1h q y,q1h r z,255],()):=by
 have e0:=qgj (F:=600) (by omega) hp x
 have e1:=qgj (F:=600) (by omega) hq y
 have e2:=qgj (F:=600) (by omega) hr z
 unfold q3q q7n
 simp only[show(0:Int)<3 by decide,show(0:Int)<4 by decide,dT,cT,Int.le_refl,yd,show y6 0=0 from rfl,yt,e0,y5,List.set_cons_zero,show y0 .i64 (0+1)=1 from rfl]
 unfold q3q q7n
 simp only[show(1:Int)<3 by decide,show(1:Int)<4 by decide,show(0:Int)≤1 by decide,dT,cT,yd,show y6 1=1 from rfl,yt,yu,e1,y5,List.set_cons_zero,List.set_cons_succ,show y0 .i64 (1+1)=2 from rfl]
 unfold q3q q7n
 simp only[show(2:Int)<3 by decide,show(2:Int)<4 by decide,show(0:Int)≤2 by decide,dT,cT,yd,show y6 2=2 from rfl,yt,yu,e2,y5,List.set_cons_zero,List.set_cons_succ,show y0 .i64 (2+1)=3 from rfl]
 unfold q3q q7n
 simp only[yv,dF,cF]
def qc3(x y z:Int):LI:=[q1h 4 x,q1h 4 y,q1h 4 z,255]
def qf6(x y z:Int):LI:=[q1h 6 x,q1h 7 y,q1h 6 z,255]
theorem j4z(x y z:Int):q6h 600 [x,y,z]=some (qc3 x y z,()):=by
 unfold q6h qli
 have h:=zrb x y z (p:=4) (q:=4) (r:=4) (by omega) (by omega) (by omega) 596 [0,0,0,0]
 rw[show(596+4:Nat)=600 from rfl]at h
 simp only[show((4:Nat):Int)=4 from rfl]at h
 rw[h]
 rfl
theorem plane_is(x y z:Int):qdb 600 [x,y,z]=some (qf6 x y z,()):=by
 unfold qdb qli
 have h:=zrb x y z (p:=6) (q:=7) (r:=6) (by omega) (by omega) (by omega) 596 [0,0,0,0]
 rw[show(596+4:Nat)=600 from rfl]at h
 simp only[show((6:Nat):Int)=6 from rfl,show((7:Nat):Int)=7 from rfl]at h
 rw[h]
 rfl
def Small(x:Int):Prop:=0≤x∧x<100000
theorem Small.w{x:Int}(h:Small x): -9000000000000000000≤x∧x≤9000000000000000000:=by unfold Small at h;omega
theorem z0x{x y z:Int}(hx:Small x)(hy:Small y)(hz:Small z):q2g 600 [x,y,z]=some (qc3 x y z,()):=by
 unfold q2g
 have e0:q0e 600 x 4=_:=qa6 (b:=4) (by omega) (by omega) hx.w
 have e1:q0e 600 y 4=_:=qa6 (b:=4) (by omega) (by omega) hy.w
 have e2:q0e 600 z 4=_:=qa6 (b:=4) (by omega) (by omega) hz.w
 simp only[yt,yu,e0,e1,e2,y5]
 rfl
theorem j6s{l:LI}(h:∀i,-9000000000000000000≤l.getD i 0∧l.getD i 0≤9000000000000000000):qfu 600 l=some (qf6 (l.getD 0 0) (l.getD 1 0) (l.getD 2 0),()):=by
 unfold qfu
 have e0:q0e 600 (l.getD 0 0) 6=_:=qa6 (b:=6) (by omega) (by omega) (h 0)
 have e1:q0e 600 (l.getD 1 0) 7=_:=qa6 (b:=7) (by omega) (by omega) (h 1)
 have e2:q0e 600 (l.getD 2 0) 6=_:=qa6 (b:=6) (by omega) (by omega) (h 2)
 simp only[e0,e1,e2,y5]
 rfl
def qf7(n:Int):Int:=etctwo_DistanceT1261.getD (n%8).toNat 0
theorem z5c(n:Int):q7o 600 n=some (qf7 n,()):=by
 unfold q7o qf7
 rw[iand7]
 have h1:(0:Int)≤n%8:=by omega
 have h2:n%8<8:=by omega
 simp only[h1,h2,dT,yd,cT]
theorem zcq{n:Int}(hn: -9223372036854775808≤n∧n≤9223372036854775807):q9d 600 n=some (qf7 n,()):=by
 unfold q9d qf7
 have hf:=j4e (x:=n) (m:=8) (by decide)
 by_cases h:yw n 8<0
 ·rw[iP h]at hf
  have hlo: -8<yw n 8:=Int.lt_tmod_of_pos n (by decide)
  have e:y0 .i64 (yw n 8+8)=n%8:=by
   rw[w64 (by omega) (by omega),hf]
  have h1:(0:Int)≤n%8:=by omega
  have h2:n%8<8:=by omega
  simp only[h,dT,cT,e,h1,h2,yd]
 ·rw[iN h]at hf
  have h1:(0:Int)≤n%8:=by omega
  have h2:n%8<8:=by omega
  have h3:¬n%8<0:=by omega
  simp only[hf,h3,dF,cF,h1,h2,dT,yd,cT]
theorem z5d(n:Int):0≤qf7 n∧qf7 n≤64:=by
 unfold qf7
 exact qct (p:=fun x=>0≤x∧x≤64) (by decide) (by decide) _
def addV(l:LI)(n:Int):LI:=[q4g (l.getD 0 0+n),q4g (l.getD 1 0+n),q4g (l.getD 2 0+n),l.getD 3 0]
theorem j6t{a b c e n:Int}(ha:0≤a∧a≤255)(hb:0≤b∧b≤255)(hc:0≤c∧c≤255)(hn: -64≤n∧n≤64)(k:Nat)(x2:LI):
  q2q 600 (k+4) n [a,b,c,e] x2 0=some ([q4g (a+n),q4g (b+n),q4g (c+n),e],x2,()):=by
 have ea:y0 .i64 (a+n)=a+n:=w64 (by omega) (by omega)
 have eb:y0 .i64 (b+n)=b+n:=w64 (by omega) (by omega)
 have ec:y0 .i64 (c+n)=c+n:=w64 (by omega) (by omega)
 unfold q2q q68
 simp only[show(0:Int)<3 by decide,show(0:Int)<4 by decide,dT,cT,Int.le_refl,yd,show y6 0=0 from rfl,yt,ea,qkz,y5,List.set_cons_zero,show y0 .i64 (0+1)=1 from rfl]
 unfold q2q q68
 simp only[show(1:Int)<3 by decide,show(1:Int)<4 by decide,show(0:Int)≤1 by decide,dT,cT,yd,show y6 1=1 from rfl,yt,yu,eb,qkz,y5,List.set_cons_zero,List.set_cons_succ,show y0 .i64 (1+1)=2 from rfl]
 unfold q2q q68
 simp only[show(2:Int)<3 by decide,show(2:Int)<4 by decide,show(0:Int)≤2 by decide,dT,cT,yd,show y6 2=2 from rfl,yt,yu,ec,qkz,y5,List.set_cons_zero,List.set_cons_succ,show y0 .i64 (2+1)=3 from rfl]
 unfold q2q q68
 simp only[yv,dF,cF]
theorem zzx(x y z:Int)(i:Nat):0≤(qc3 x y z).getD i 0∧(qc3 x y z).getD i 0≤255:=by
 have h1:=q0v (b:=4) (by omega) x
 have h2:=q0v (b:=4) (by omega) y
 have h3:=q0v (b:=4) (by omega) z
 exact qct (p:=fun x=>0≤x∧x≤255) (by decide) (fun v hv=>by
  simp only[qc3,yr,List.not_mem_nil,or_false]at hv
  rcases hv with rfl|rfl|rfl|rfl<;>omega) i
theorem z02(x y z:Int)(i:Nat):0≤(qf6 x y z).getD i 0∧(qf6 x y z).getD i 0≤255:=by
 have h1:=q0v (b:=6) (by omega) x
 have h2:=q0v (b:=7) (by omega) y
 have h3:=q0v (b:=6) (by omega) z
 exact qct (p:=fun x=>0≤x∧x≤255) (by decide) (fun v hv=>by
  simp only[qf6,yr,List.not_mem_nil,or_false]at hv
  rcases hv with rfl|rfl|rfl|rfl<;>omega) i
theorem qhd(x y z:Int){n:Int}(hn: -64≤n∧n≤64):q0s 600 (qc3 x y z) n=some (addV (qc3 x y z) n,())∧q1o 600 (qc3 x y z) n=some (addV (qc3 x y z) n,()):=by
 have hb:=zzx x y z
 have h:=j6t (a:=q1h 4 x) (b:=q1h 4 y) (c:=q1h 4 z) (e:=255) (n:=n) (hb 0) (hb 1) (hb 2) hn 596 [0,0,0,0]
 rw[show(596+4:Nat)=600 from rfl]at h
 refine⟨?_,j4u (by omega) (by omega) hb⟩
 unfold q0s qc3
 rw[h]
 rfl
def qvr(o h v:Int)(i:Nat):Int:=((i%4:Nat):Int)*(h-o)+((i/4:Nat):Int)*(v-o)+4*o+2
def q5z(o h v:LI)(j:Nat):Int:=if j%4=3 then 255 else q4g (qvr (o.getD (j%4) 0) (h.getD (j%4) 0) (v.getD (j%4) 0) (j/4)/4)
def z8m(l:LI):Prop:=∀i,0≤l.getD i 0∧l.getD i 0≤255
theorem j6u{o h v:Int}(ho:0≤o∧o≤255)(hh:0≤h∧h≤255)(hv:0≤v∧v≤255){i:Nat}(hi:i<16):
  y0 .i64 (y0 .i64 (y0 .i64 (y0 .i64 (yw (i:Int) 4*y0 .i64 (h-o))+y0 .i64 (y0 .i64 (yx (i:Int) 4)*y0 .i64 (v-o)))+y0 .i64 (4*o))+2)=qvr o h v i∧-4000≤qvr o h v i∧qvr o h v i≤4000:=by
 have em:yw (i:Int) 4=((i%4:Nat):Int):=by rw[tmod_nonneg (by omega)];omega
 have ed:yx (i:Int) 4=((i/4:Nat):Int):=by rw[q1g (by omega)];omega
 have m1:=mulB' (n:=h-o) (t:=((i%4:Nat):Int)) (c:=255) (d:=3) (by omega) (by omega) (by decide)
 have m2:=mulB' (n:=v-o) (t:=((i/4:Nat):Int)) (c:=255) (d:=3) (by omega) (by omega) (by decide)
 rw[Int.mul_comm (h-o)]at m1
 rw[Int.mul_comm (v-o)]at m2
 rw[em,ed,w64 (x:=h-o) (by omega) (by omega),w64 (x:=v-o) (by omega) (by omega),w64 (x:=((i/4:Nat):Int)) (by omega) (by omega),w64 (x:=4*o) (by omega) (by omega)]
 unfold qvr
 rw[w64 (x:=((i%4:Nat):Int)*(h-o)) (by omega) (by omega),w64 (x:=((i/4:Nat):Int)*(v-o)) (by omega) (by omega),w64 (x:=((i%4:Nat):Int)*(h-o)+((i/4:Nat):Int)*(v-o)) (by omega) (by omega),
  w64 (x:=((i%4:Nat):Int)*(h-o)+((i/4:Nat):Int)*(v-o)+4*o) (by omega) (by omega),w64 (by omega) (by omega)]
 omega
theorem zzy{o h v:LI}(ho:z8m o)(hh:z8m h)(hv:z8m v)(q:Nat→Int)(x3:LI)(x6:Int){i:Nat}(hi:i<16):∀(d c k:Nat),c+d=3→d<k→
  q5p 600 k o h v x3 (tab 64 fun j=>if j/4=i∧(j%4<c∨j%4=3)then q5z o h v j else q j) (i:Int) x6 (c:Int)=some (o,h,v,x3,tab 64 (fun j=>if j/4=i then q5z o h v j else q j),x6,())∧
  q6w 600 k o h v x3 (tab 64 fun j=>if j/4=i∧(j%4<c∨j%4=3)then q5z o h v j else q j) (i:Int) (c:Int)=some (o,h,v,x3,tab 64 (fun j=>if j/4=i then q5z o h v j else q j),(i:Int),()):=by
 intro d
 induction d with
 |zero=>
  intro c k h1 h2
  obtain⟨k,rfl⟩:∃k',k=k' +1:=⟨k-1,by omega⟩
  obtain rfl:c=3:=by omega
  unfold q5p qcj q6w qe3
  have:¬(((3:Nat):Int)<3):=by omega
  simp only[this,dF,cF]
  rw[q01 fun j hj=>show(if j/4=i∧(j%4<3∨j%4=3)then q5z o h v j else q j)=if j/4=i then q5z o h v j else q j by
   have:j%4<3∨j%4=3:=by omega
   simp only[this,and_true]]
  exact⟨rfl,rfl⟩
 |succ d ih=>
  intro c k h1 h2
  obtain⟨k,rfl⟩:∃k',k=k' +1:=⟨k-1,by omega⟩
  have hc:c<4:=by omega
  have i1:(c:Int)<3:=by omega
  have i1' :(c:Int)<4:=by omega
  have i2:(i:Int)<16:=by omega
  obtain⟨e,b1,b2⟩:=j6u (ho c) (hh c) (hv c) hi
  have es:ishr .i64 (qvr (o.getD c 0) (h.getD c 0) (v.getD c 0) i) 2=qvr (o.getD c 0) (h.getD c 0) (v.getD c 0) i/4:=zlt (k:=2) (by omega)
  have em:=(zqz 600 (a:=0) (b:=qvr (o.getD c 0) (h.getD c 0) (v.getD c 0) i) (k:=1) (o:=4) (add:=0) (by omega) (by omega) (by omega) (by omega) (by omega) (by omega)).2.1
  have emv:mixV 0 (qvr (o.getD c 0) (h.getD c 0) (v.getD c 0) i) 1 4 0=qvr (o.getD c 0) (h.getD c 0) (v.getD c 0) i/4:=by
   unfold mixV
   congr 1
   omega
  rw[emv]at em
  have ef:q4g (qvr (o.getD c 0) (h.getD c 0) (v.getD c 0) i/4)=q5z o h v (i*4+c):=by
   unfold q5z
   rw[(mul4 i c hc).1,(mul4 i c hc).2,iN (by omega)]
  unfold q5p qcj q6w qe3
  simp only[i1,i1',i2,dT,cT,yc,yd,yb,e,es,em,qkz,z5a,y5,ef,q60]
  rw[q07 (by omega),q01 fun j hj=>show(if j=i*4+c then q5z o h v (i*4+c)else if j/4=i∧(j%4<c∨j%4=3)then q5z o h v j else q j)=if j/4=i∧(j%4<c+1∨j%4=3)then q5z o h v j else q j by
   by_cases h3:j=i*4+c
   ·rw[iP h3,iP (by omega),h3]
   ·rw[iN h3]
    by_cases h5:j/4=i∧(j%4<c∨j%4=3)
    ·rw[iP h5,iP (by omega)]
    ·rw[iN h5,iN (by omega)]]
  exact ih (c+1) k (by omega) (by omega)
theorem zzz{o h v:LI}(ho:z8m o)(hh:z8m h)(hv:z8m v)(x3:LI):∀(d i k:Nat),i+d=16→d<k→
  q5q 600 k o h v x3 (tab 64 (upR i 0 (q5z o h v))) (i:Int)=some (x3,tab 64 (q5z o h v),())∧q6x 600 k o h v x3 (tab 64 (upR i 0 (q5z o h v))) (i:Int)=some (x3,tab 64 (q5z o h v),()):=by
 intro d
 induction d with
 |zero=>
  intro i k h1 h2
  obtain⟨k,rfl⟩:∃k',k=k' +1:=⟨k-1,by omega⟩
  obtain rfl:i=16:=by omega
  unfold q5q qck q6x qe4
  have:¬(((16:Nat):Int)<16):=by omega
  simp only[this,dF,cF,j8y (i:=16) (q5z o h v) (show 64≤16*4 by omega),and_self]
 |succ d ih=>
  intro i k h1 h2
  obtain⟨k,rfl⟩:∃k',k=k' +1:=⟨k-1,by omega⟩
  have hi:i<16:=by omega
  have i2:(i:Int)<16:=by omega
  obtain⟨l1,l2⟩:=zzy ho hh hv (upR i 0 (q5z o h v)) x3 (i:Int) hi 3 0 600 (by omega) (by omega)
  rw[show((0:Nat):Int)=0 from rfl]at l1 l2
  have es:(tab 64 (upR i 0 (q5z o h v))).set (3+i*4) 255=tab 64 fun j=>if j/4=i∧(j%4<0∨j%4=3)then q5z o h v j else upR i 0 (q5z o h v) j:=by
   rw[q60]
   refine q01 fun j hj=> ?_
   by_cases h3:j=3+i*4
   ·rw[iP h3,iP (by omega)]
    unfold q5z
    rw[iP (by omega)]
   ·rw[iN h3,iN (by omega)]
  have en:(tab 64 fun j=>if j/4=i then q5z o h v j else upR i 0 (q5z o h v) j)=tab 64 (upR (i+1) 0 (q5z o h v)):=q01 fun j hj=>by
   unfold upR
   by_cases h3:j/4=i
   ·rw[iP h3,iP (by omega)]
   ·rw[iN h3]
    by_cases h4:j<i*4+0
    ·rw[iP h4,iP (by omega)]
    ·rw[iN h4,iN (by omega)]
  rw[en]at l1 l2
  unfold q5q qck q6x qe4
  simp only[i2,dT,cT,yc,yd,yb,es,l1,l2,y5]
  rw[q07 (by omega)]
  exact ih (i+1) k (by omega) (by omega)
theorem j9k:q04=tab 64 fun _=>0:=by decide+kernel
theorem Plane_is{o h v:LI}(ho:z8m o)(hh:z8m h)(hv:z8m v):qnb 600 o h v=some (tab 64 (q5z o h v),())∧qsb 600 o h v=some (tab 64 (q5z o h v),()):=by
 obtain⟨h1,h2⟩:=zzz ho hh hv q04 16 0 600 (by omega) (by omega)
 rw[j4f,←j9k,show((0:Nat):Int)=0 from rfl]at h1 h2
 unfold qnb qsb
 rw[h1,h2]
 exact⟨rfl,rfl⟩
def plO(b:LI):LI:=qf6 (hv b 1 6) (pk b [7,9,10,11,12,13,14] 7) (pk b [15,19,20,22,23,24] 6)
def plH(b:LI):LI:=qf6 (pk b [25,26,27,28,29,31] 6) (hv b 32 7) (hv b 39 6)
def plV(b:LI):LI:=qf6 (hv b 45 6) (hv b 51 7) (hv b 58 6)
def z5e(b:LI)(j:Nat):Int:=q5z (plO b) (plH b) (plV b) j
theorem qp3{L:List Nat}(h:(decide (L.length≤12)&&L.all fun a=>decide (a<64))=true):Posn L:=by
 simp only[yl,decide_eq_true_eq,List.all_eq_true]at h
 refine⟨h.1,fun i=> ?_⟩
 rw[ye]
 by_cases hi:i<L.length
 ·rw[yj hi]
  exact h.2 _ (List.getElem_mem hi)
 ·rw[wa (by omega)]
  decide
theorem hvw(b:LI)(a n:Nat)(hn:n≤16):Small (hv b a n):=by
 have h1:=q18 b a n
 have h2:(2:Int)^n≤2^16:=q34 hn
 unfold Small
 omega
theorem pkw(b:LI)(L:List Nat)(n:Nat)(hn:n≤16):Small (pk b L n):=by
 have h1:=z8k b L n
 have h2:(2:Int)^n≤2^16:=q34 hn
 unfold Small
 omega
theorem zm8{x y z:Int}(hx:Small x)(hy:Small y)(hz:Small z):qfu 600 [x,y,z]=some (qf6 x y z,()):=
 j6s fun i=>qct (p:=fun x=> -9000000000000000000≤x∧x≤9000000000000000000) (by decide) (fun v hv=>by
  simp only[yr,List.not_mem_nil,or_false]at hv
  rcases hv with rfl|rfl|rfl
  ·exact hx.w
  ·exact hy.w
  ·exact hz.w) i
theorem j00{b:LI}(hb:Bytes b)(hl:b.length=8)(a1 a2:Bool)(a3 a4 a5 a6:LI)(a7:Bool):
  q8d 600 b a1 a2 a3 a4 a5 a6 a7=some (tab 64 (z5e b),())∧qnc 600 b=some (tab 64 (z5e b),()):=by
 have t1:q9a=q4s [7,9,10,11,12,13,14]:=rfl
 have t2:q9b=q4s [15,19,20,22,23,24]:=rfl
 have t3:q9c=q4s [25,26,27,28,29,31]:=rfl
 have p1:=qp3 (L:=[7,9,10,11,12,13,14]) (by decide)
 have p2:=qp3 (L:=[15,19,20,22,23,24]) (by decide)
 have p3:=qp3 (L:=[25,26,27,28,29,31]) (by decide)
 have g1:=z3z hb hl a1 a2 a3 a4 a5 a6 a7 p1
 have g2:=z3z hb hl a1 a2 a3 a4 a5 a6 a7 p2
 have g3:=z3z hb hl a1 a2 a3 a4 a5 a6 a7 p3
 have k1:=z01 hb hl p1
 have k2:=z01 hb hl p2
 have k3:=z01 hb hl p3
 obtain⟨r1,s1⟩:=qfm hb hl a1 a2 a3 a4 a5 a6 a7 (x:=1) (y:=6) (a:=1) (n:=6) rfl rfl (by omega) (by omega)
 obtain⟨r2,s2⟩:=qfm hb hl a1 a2 a3 a4 a5 a6 a7 (x:=32) (y:=38) (a:=32) (n:=7) rfl rfl (by omega) (by omega)
 obtain⟨r3,s3⟩:=qfm hb hl a1 a2 a3 a4 a5 a6 a7 (x:=39) (y:=44) (a:=39) (n:=6) rfl rfl (by omega) (by omega)
 obtain⟨r4,s4⟩:=qfm hb hl a1 a2 a3 a4 a5 a6 a7 (x:=45) (y:=50) (a:=45) (n:=6) rfl rfl (by omega) (by omega)
 obtain⟨r5,s5⟩:=qfm hb hl a1 a2 a3 a4 a5 a6 a7 (x:=51) (y:=57) (a:=51) (n:=7) rfl rfl (by omega) (by omega)
 obtain⟨r6,s6⟩:=qfm hb hl a1 a2 a3 a4 a5 a6 a7 (x:=58) (y:=63) (a:=58) (n:=6) rfl rfl (by omega) (by omega)
 obtain⟨q1,q2⟩:=Plane_is (o:=plO b) (h:=plH b) (v:=plV b) (z02 _ _ _) (z02 _ _ _) (z02 _ _ _)
 have w1:=zm8 (hvw b 1 6 (by omega)) (pkw b [7,9,10,11,12,13,14] 7 (by omega)) (pkw b [15,19,20,22,23,24] 6 (by omega))
 have w2:=zm8 (pkw b [25,26,27,28,29,31] 6 (by omega)) (hvw b 32 7 (by omega)) (hvw b 39 6 (by omega))
 have w3:=zm8 (hvw b 45 6 (by omega)) (hvw b 51 7 (by omega)) (hvw b 58 6 (by omega))
 unfold q8d qnc
 rw[t1,t2,t3]
 simp only[g1,g2,g3,k1,k2,k3,r1,r2,r3,r4,r5,r6,s1,s2,s3,s4,s5,s6,y5,plane_is,List.length_cons,List.length_nil,Nat.zero_add,Nat.reduceAdd,w1,w2,w3]
 rw[show qf6 (hv b 1 6) (pk b [7,9,10,11,12,13,14] 7) (pk b [15,19,20,22,23,24] 6)=plO b from rfl,show qf6 (pk b [25,26,27,28,29,31] 6) (hv b 32 7) (hv b 39 6)=plH b from rfl,show qf6 (hv b 45 6) (hv b 51 7) (hv b 58 6)=plV b from rfl,q1,q2]
 exact⟨rfl,rfl⟩
def tA(b:LI):LI:=qc3 (pk b [3,4,6,7] 4) (hv b 8 4) (hv b 12 4)
def tZ(b:LI):LI:=qc3 (hv b 16 4) (hv b 20 4) (hv b 24 4)
def tD(b:LI):Int:=qf7 (pk b [28,29,31] 3)
def qj4(b:LI):LI:=tA b++(addV (tZ b) (tD b)++(tZ b++addV (tZ b) (0-tD b)))
def hL(b:LI):LI:=qc3 (hv b 1 4) (pk b [5,6,7,11] 4) (pk b [12,14,15,16] 4)
def hM(b:LI):LI:=qc3 (hv b 17 4) (hv b 21 4) (hv b 25 4)
def hX(b:LI):Int:=256*hv b 1 4+16*pk b [5,6,7,11] 4+pk b [12,14,15,16] 4
def hY(b:LI):Int:=256*hv b 17 4+16*hv b 21 4+hv b 25 4
def hD(b:LI):Int:=qf7 (if hY b≤hX b then 2*pk b [29,31] 2+1 else 2*pk b [29,31] 2)
def qgm(b:LI):LI:=addV (hL b) (hD b)++(addV (hL b) (0-hD b)++(addV (hM b) (hD b)++addV (hM b) (0-hD b)))
theorem q7w(b:LI)(a n:Nat):hv b a (n+1)=2*hv b a n+hv b (a+n) 1:=by
 simp only[hv,qfd,Nat.add_zero]
 omega
theorem j9l(b:LI)(a:Nat):hv b a 0=0:=rfl
theorem hX_is(b:LI):pk b [1,2,3,4,5,6,7,11,12,14,15,16] 12=hX b:=by
 unfold hX
 rw[q7w b 1 3,q7w b 1 2,q7w b 1 1]
 simp only[pk,yt,yu,Nat.reduceAdd]
 omega
theorem hY_is(b:LI):hv b 17 12=hY b:=by
 unfold hY
 rw[q7w b 17 11,q7w b 17 10,q7w b 17 9,q7w b 17 8,q7w b 17 7,q7w b 17 6,q7w b 17 5,q7w b 17 4,q7w b 21 3,q7w b 21 2,q7w b 21 1,q7w b 25 3,q7w b 25 2,q7w b 25 1]
 simp only[Nat.reduceAdd]
 omega
def qd5(l W:LI)(j:Nat):Int:=l.getD ((W.getD (j/4) 0).toNat*4+j%4) 0
theorem j2j{l W:LI}(hl:l.length=16)(hW:∀i,0≤W.getD i 0∧W.getD i 0≤3)(x1:LI):∀(d i k:Nat),i+d=16→d<k→
  q24 600 k l x1 (tab 64 (upR i 0 (qd5 l W))) W (i:Int)=some (x1,tab 64 (qd5 l W),()):=by
 intro d
 induction d with
 |zero=>
  intro i k h1 h2
  obtain⟨k,rfl⟩:∃k',k=k' +1:=⟨k-1,by omega⟩
  obtain rfl:i=16:=by omega
  unfold q24 q6i
  have:¬(((16:Nat):Int)<16):=by omega
  simp only[this,dF,cF,j8y (i:=16) (qd5 l W) (show 64≤16*4 by omega)]
 |succ d ih=>
  intro i k h1 h2
  obtain⟨k,rfl⟩:∃k',k=k' +1:=⟨k-1,by omega⟩
  have i1:(i:Int)<16:=by omega
  have hw:=hW i
  have j1:(0:Int)≤W.getD i 0:=hw.1
  have j2:W.getD i 0<4:=by omega
  unfold q24 q6i
  simp only[i1,j1,j2,dT,cT,yc,yd,yb,q7u hl (show(W.getD i 0).toNat*4+4≤16 by omega),qf5 (show i*4+4≤64 by omega)]
  rw[q07 (by omega),q01 fun j hj=>show(if j/4=i then l.getD ((W.getD i 0).toNat*4+j%4) 0 else upR i 0 (qd5 l W) j)=upR (i+1) 0 (qd5 l W) j by
   unfold upR
   by_cases h3:j/4=i
   ·rw[iP h3,iP (by omega)]
    unfold qd5
    rw[h3]
   ·rw[iN h3]
    by_cases h4:j<i*4+0
    ·rw[iP h4,iP (by omega)]
    ·rw[iN h4,iN (by omega)]]
  exact ih (i+1) k (by omega) (by omega)
theorem j9m{l W:LI}(hl:l.length=16)(hW:∀i,0≤W.getD i 0∧W.getD i 0≤3)(a0:LI)(a1 a2:Bool)(a3 a4 a5:LI)(a7:Bool):
  q5e 600 a0 a1 a2 a3 a4 a5 W a7 l=some (tab 64 (qd5 l W),()):=by
 unfold q5e
 have h:=j2j hl hW q04 16 0 600 (by omega) (by omega)
 rw[j4f,←j9k,show((0:Nat):Int)=0 from rfl]at h
 rw[h]
 rfl
theorem neg_w{d:Int}(h:0≤d∧d≤64):y0 .i64 (0-d)=0-d:=w64 (by omega) (by omega)
theorem ofT_is{b:LI}(hb:Bytes b)(hl:b.length=8)(a1 a2:Bool)(a3 a4 a5:LI){W:LI}(hW:∀i,0≤W.getD i 0∧W.getD i 0≤3)(a7:Bool):
  qch 600 b a1 a2 a3 a4 a5 W a7=some (tab 64 (qd5 (qj4 b) W),())∧qfv 600 b 1=some (qj4 b,()):=by
 have t1:[(3:Int),4,6,7]=q4s [3,4,6,7]:=rfl
 have t2:[(28:Int),29,31]=q4s [28,29,31]:=rfl
 have p1:=qp3 (L:=[3,4,6,7]) (by decide)
 have p2:=qp3 (L:=[28,29,31]) (by decide)
 have g1:q0f 600 b a1 a2 a3 a4 a5 W a7 (q4s [3,4,6,7])=some (pk b [3,4,6,7] 4,()):=z3z hb hl a1 a2 a3 a4 a5 W a7 p1
 have g2:q0f 600 b a1 a2 a3 a4 a5 W a7 (q4s [28,29,31])=some (pk b [28,29,31] 3,()):=z3z hb hl a1 a2 a3 a4 a5 W a7 p2
 have k1:q2r 600 b (q4s [3,4,6,7])=some (pk b [3,4,6,7] 4,()):=z01 hb hl p1
 have k2:q2r 600 b (q4s [28,29,31])=some (pk b [28,29,31] 3,()):=z01 hb hl p2
 obtain⟨r1,s1⟩:=qfm hb hl a1 a2 a3 a4 a5 W a7 (x:=8) (y:=11) (a:=8) (n:=4) rfl rfl (by omega) (by omega)
 obtain⟨r2,s2⟩:=qfm hb hl a1 a2 a3 a4 a5 W a7 (x:=12) (y:=15) (a:=12) (n:=4) rfl rfl (by omega) (by omega)
 obtain⟨r3,s3⟩:=qfm hb hl a1 a2 a3 a4 a5 W a7 (x:=16) (y:=19) (a:=16) (n:=4) rfl rfl (by omega) (by omega)
 obtain⟨r4,s4⟩:=qfm hb hl a1 a2 a3 a4 a5 W a7 (x:=20) (y:=23) (a:=20) (n:=4) rfl rfl (by omega) (by omega)
 obtain⟨r5,s5⟩:=qfm hb hl a1 a2 a3 a4 a5 W a7 (x:=24) (y:=27) (a:=24) (n:=4) rfl rfl (by omega) (by omega)
 have c1:=z0x (pkw b [3,4,6,7] 4 (by omega)) (hvw b 8 4 (by omega)) (hvw b 12 4 (by omega))
 have c2:=z0x (hvw b 16 4 (by omega)) (hvw b 20 4 (by omega)) (hvw b 24 4 (by omega))
 have d1:=z5c (pk b [28,29,31] 3)
 have d2:=zcq (n:=pk b [28,29,31] 3) (by have:=pkw b [28,29,31] 3 (by omega);unfold Small at this;omega)
 have db:=z5d (pk b [28,29,31] 3)
 obtain⟨m1,n1⟩:=qhd (hv b 16 4) (hv b 20 4) (hv b 24 4) (n:=qf7 (pk b [28,29,31] 3)) (by omega)
 obtain⟨m2,n2⟩:=qhd (hv b 16 4) (hv b 20 4) (hv b 24 4) (n:=0-qf7 (pk b [28,29,31] 3)) (by omega)
 have f:=j9m (l:=qj4 b) rfl hW b a1 a2 a3 a4 a5 a7
 unfold qj4 tA tZ tD at f
 unfold qch qfv qj4 tA tZ tD
 rw[t1,t2]
 simp only[g1,g2,k1,k2,r1,r2,r3,r4,r5,s1,s2,s3,s4,s5,c1,c2,d1,d2,m1,m2,n1,n2,neg_w db,j4z,y5,f,beq_self_eq_true,cT]
 refine⟨?_,?_⟩<;>first|trivial|rfl
theorem j01{x y z:Int}(hx:Small x)(hy:Small y)(hz:Small z):qhr 600 [x,y,z]=some (256*x+16*y+z,()):=by
 unfold Small at hx hy hz
 unfold qhr
 simp only[yt,yu]
 rw[w64 (x:=256*x) (by omega) (by omega),w64 (x:=16*y) (by omega) (by omega),w64 (x:=256*x+16*y) (by omega) (by omega),w64 (by omega) (by omega)]
theorem ofH_is{b:LI}(hb:Bytes b)(hl:b.length=8)(a1 a2:Bool)(a3 a4 a5:LI){W:LI}(hW:∀i,0≤W.getD i 0∧W.getD i 0≤3)(a7:Bool):
  qci 600 b a1 a2 a3 a4 a5 W a7=some (tab 64 (qd5 (qgm b) W),())∧qfv 600 b 2=some (qgm b,()):=by
 have t1:[(5:Int),6,7,11]=q4s [5,6,7,11]:=rfl
 have t2:[(12:Int),14,15,16]=q4s [12,14,15,16]:=rfl
 have t3:[(29:Int),31]=q4s [29,31]:=rfl
 have t4:qhq=q4s [1,2,3,4,5,6,7,11,12,14,15,16]:=rfl
 have p1:=qp3 (L:=[5,6,7,11]) (by decide)
 have p2:=qp3 (L:=[12,14,15,16]) (by decide)
 have p3:=qp3 (L:=[29,31]) (by decide)
 have p4:=qp3 (L:=[1,2,3,4,5,6,7,11,12,14,15,16]) (by decide)
 have g1:q0f 600 b a1 a2 a3 a4 a5 W a7 (q4s [5,6,7,11])=some (pk b [5,6,7,11] 4,()):=z3z hb hl a1 a2 a3 a4 a5 W a7 p1
 have g2:q0f 600 b a1 a2 a3 a4 a5 W a7 (q4s [12,14,15,16])=some (pk b [12,14,15,16] 4,()):=z3z hb hl a1 a2 a3 a4 a5 W a7 p2
 have g3:q0f 600 b a1 a2 a3 a4 a5 W a7 (q4s [29,31])=some (pk b [29,31] 2,()):=z3z hb hl a1 a2 a3 a4 a5 W a7 p3
 have g4:q0f 600 b a1 a2 a3 a4 a5 W a7 (q4s [1,2,3,4,5,6,7,11,12,14,15,16])=some (hX b,()):=(z3z hb hl a1 a2 a3 a4 a5 W a7 p4).trans (by rw[show([1,2,3,4,5,6,7,11,12,14,15,16]:List Nat).length=12 from rfl,hX_is])
 have k1:q2r 600 b (q4s [5,6,7,11])=some (pk b [5,6,7,11] 4,()):=z01 hb hl p1
 have k2:q2r 600 b (q4s [12,14,15,16])=some (pk b [12,14,15,16] 4,()):=z01 hb hl p2
 have k3:q2r 600 b (q4s [29,31])=some (pk b [29,31] 2,()):=z01 hb hl p3
 obtain⟨r1,s1⟩:=qfm hb hl a1 a2 a3 a4 a5 W a7 (x:=1) (y:=4) (a:=1) (n:=4) rfl rfl (by omega) (by omega)
 obtain⟨r2,s2⟩:=qfm hb hl a1 a2 a3 a4 a5 W a7 (x:=17) (y:=20) (a:=17) (n:=4) rfl rfl (by omega) (by omega)
 obtain⟨r3,s3⟩:=qfm hb hl a1 a2 a3 a4 a5 W a7 (x:=21) (y:=24) (a:=21) (n:=4) rfl rfl (by omega) (by omega)
 obtain⟨r4,s4⟩:=qfm hb hl a1 a2 a3 a4 a5 W a7 (x:=25) (y:=28) (a:=25) (n:=4) rfl rfl (by omega) (by omega)
 obtain⟨r5,_⟩:=qfm hb hl a1 a2 a3 a4 a5 W a7 (x:=17) (y:=28) (a:=17) (n:=12) rfl rfl (by omega) (by omega)
 rw[hY_is]at r5
 have c1:=z0x (hvw b 1 4 (by omega)) (pkw b [5,6,7,11] 4 (by omega)) (pkw b [12,14,15,16] 4 (by omega))
 have c2:=z0x (hvw b 17 4 (by omega)) (hvw b 21 4 (by omega)) (hvw b 25 4 (by omega))
 have u1:=j01 (hvw b 1 4 (by omega)) (pkw b [5,6,7,11] 4 (by omega)) (pkw b [12,14,15,16] 4 (by omega))
 have u2:=j01 (hvw b 17 4 (by omega)) (hvw b 21 4 (by omega)) (hvw b 25 4 (by omega))
 have hpk:=z8k b [29,31] 2
 have e1:=shl_one (n:=pk b [29,31] 2) (by omega)
 have e2:y0 .i64 (2*pk b [29,31] 2)=2*pk b [29,31] 2:=w64 (by omega) (by omega)
 have e3:y0 .i64 (2*pk b [29,31] 2+1)=2*pk b [29,31] 2+1:=w64 (by omega) (by omega)
 have dR:=fun n (hn:0≤n∧n≤100)=>zcq (n:=n) (by omega)
 have f:=j9m (l:=qgm b) rfl hW b a1 a2 a3 a4 a5 a7
 have db:=z5d (2*pk b [29,31] 2+1)
 have db' :=z5d (2*pk b [29,31] 2)
 have z21:((2:Int)==1)=false:=rfl
 rw[show 256*hv b 1 4+16*pk b [5,6,7,11] 4+pk b [12,14,15,16] 4=hX b from rfl]at u1
 rw[show 256*hv b 17 4+16*hv b 21 4+hv b 25 4=hY b from rfl]at u2
 unfold qci qfv
 rw[t1,t2,t3,t4]
 simp only[z21,cF,g1,g2,g3,g4,k1,k2,k3,r1,r2,r3,r4,r5,s1,s2,s3,s4,c1,c2,u1,u2,e1,e2,e3,j4z,y5]
 rw[show qc3 (hv b 1 4) (pk b [5,6,7,11] 4) (pk b [12,14,15,16] 4)=hL b from rfl,show qc3 (hv b 17 4) (hv b 21 4) (hv b 25 4)=hM b from rfl]
 by_cases h:hY b≤hX b
 ·have hd:hD b=qf7 (2*pk b [29,31] 2+1):=by
   unfold hD
   rw[iP h]
  unfold qgm at f
  rw[hd]at f
  have d2:=dR (2*pk b [29,31] 2+1) (by omega)
  obtain⟨m1,n1⟩:q0s 600 (hL b) (qf7 (2*pk b [29,31] 2+1))=_∧q1o 600 (hL b) (qf7 (2*pk b [29,31] 2+1))=_:=qhd _ _ _ (by omega)
  obtain⟨m2,n2⟩:q0s 600 (hL b) (0-qf7 (2*pk b [29,31] 2+1))=_∧q1o 600 (hL b) (0-qf7 (2*pk b [29,31] 2+1))=_:=qhd _ _ _ (by omega)
  obtain⟨m3,n3⟩:q0s 600 (hM b) (qf7 (2*pk b [29,31] 2+1))=_∧q1o 600 (hM b) (qf7 (2*pk b [29,31] 2+1))=_:=qhd _ _ _ (by omega)
  obtain⟨m4,n4⟩:q0s 600 (hM b) (0-qf7 (2*pk b [29,31] 2+1))=_∧q1o 600 (hM b) (0-qf7 (2*pk b [29,31] 2+1))=_:=qhd _ _ _ (by omega)
  simp only[h,dT,cT,z5c,d2,neg_w db,m1,m2,m3,m4,n1,n2,n3,n4,y5]
  unfold qgm
  rw[hd]
  exact⟨by
   rw[show qc3 (hv b 1 4) (pk b [5,6,7,11] 4) (pk b [12,14,15,16] 4)=hL b from rfl,show qc3 (hv b 17 4) (hv b 21 4) (hv b 25 4)=hM b from rfl,f]
   rfl,rfl⟩
 ·have hd:hD b=qf7 (2*pk b [29,31] 2):=by
   unfold hD
   rw[iN h]
  unfold qgm at f
  rw[hd]at f
  have d2:=dR (2*pk b [29,31] 2) (by omega)
  obtain⟨m1,n1⟩:q0s 600 (hL b) (qf7 (2*pk b [29,31] 2))=_∧q1o 600 (hL b) (qf7 (2*pk b [29,31] 2))=_:=qhd _ _ _ (by omega)
  obtain⟨m2,n2⟩:q0s 600 (hL b) (0-qf7 (2*pk b [29,31] 2))=_∧q1o 600 (hL b) (0-qf7 (2*pk b [29,31] 2))=_:=qhd _ _ _ (by omega)
  obtain⟨m3,n3⟩:q0s 600 (hM b) (qf7 (2*pk b [29,31] 2))=_∧q1o 600 (hM b) (qf7 (2*pk b [29,31] 2))=_:=qhd _ _ _ (by omega)
  obtain⟨m4,n4⟩:q0s 600 (hM b) (0-qf7 (2*pk b [29,31] 2))=_∧q1o 600 (hM b) (0-qf7 (2*pk b [29,31] 2))=_:=qhd _ _ _ (by omega)
  simp only[h,dF,cF,z5c,d2,neg_w db',m1,m2,m3,m4,n1,n2,n3,n4,y5]
  unfold qgm
  rw[hd]
  exact⟨by
   rw[show qc3 (hv b 1 4) (pk b [5,6,7,11] 4) (pk b [12,14,15,16] 4)=hL b from rfl,show qc3 (hv b 17 4) (hv b 21 4) (hv b 25 4)=hM b from rfl,f]
   rfl,rfl⟩
def bb(b:LI)(p:Bool):LI:=if p then hset b 30 1 1 else b
def qrf(b:LI)(p:Bool):Bool:= !p||(hv b 30 1==1)
def xD(b:LI)(p:Bool):Bool:=qd3 (bb b p)
def xF(b:LI)(p:Bool):Bool:=j6j (bb b p)
def xA(b:LI)(p:Bool):LI:=eAs (qd3 (bb b p)) (bb b p)
def xB(b:LI)(p:Bool):LI:=eBs (qd3 (bb b p)) (bb b p)
def xT(b:LI)(p:Bool):LI:=[hv (bb b p) 24 3,hv (bb b p) 27 3]
def xW(b:LI)(p:Bool):LI:=eWs (bb b p)
def qmx(b:LI)(p:Bool):Int:=if qw8 (xD b p) (xA b p) (xB b p)=3 then 0 else 1+qw8 (xD b p) (xA b p) (xB b p)
theorem bb_ok{b:LI}(hb:Bytes b)(hl:b.length=8)(p:Bool):Bytes (bb b p)∧(bb b p).length=8:=by
 unfold bb
 cases p
 ·exact⟨hb,hl⟩
 ·exact⟨qra hb 30 1 1,by rw[iP rfl,z85,hl]⟩
theorem z5f(d:Bool)(A B:LI):0≤qw8 d A B∧qw8 d A B≤3:=by
 unfold qw8
 cases d
 ·simp
 ·simp only[if_true]
  split
  ·omega
  ·split
   ·omega
   ·split<;>omega
theorem j9n{b:LI}(hb:Bytes b)(hl:b.length=8)(p:Bool):qlh 600 b p=some (b,xD b p,xF b p,xA b p,xB b p,xT b p,xW b p,qrf b p,()):=by
 have hP:=zbe (F:=600) (by omega) (bb_ok hb hl p).1 (bb_ok hb hl p).2
 unfold qlh
 cases p
 ·have hP' :q40 600 b=some (eP b,0,()):=hP
  simp only[Bool.not_false,cT,cF,hP',y5]
  rfl
 ·have hP' :q40 600 (hset b 30 1 1)=some (eP (hset b 30 1 1),0,()):=hP
  have g:q0f 600 b false false [0,0,0] [0,0,0] [0,0] q6v false [(30:Int)]=some (pk b [30] 1,()):=z3z hb hl false false [0,0,0] [0,0,0] [0,0] q6v false (qp3 (L:=[30]) (by decide))
  have hs:q2t 600 b (30:Int) (1:Int) (1:Int)=some (hset b 30 1 1,0,()):=qrb (a:=30) (n:=1) (by omega) hb (by omega) (by omega) (by omega) (by omega)
  have hk:pk b [30] 1=hv b 30 1:=by
   simp only[pk,yt]
   omega
  simp only[Bool.not_true,cT,cF,g,hs,hP',y5,hk]
  rfl
theorem zm9{b:LI}(hb:Bytes b)(hl:b.length=8)(p:Bool):qft 600 b p=some ((xD b p,xF b p,xA b p,xB b p,xT b p,xW b p,()),()):=by
 have hP:=z59 (F:=600) (by omega) (bb_ok hb hl p).1 (bb_ok hb hl p).2
 unfold qft
 cases p
 ·have hP' :q6u 600 b=some (eP b,0,()):=hP
  simp only[cF,hP',y5]
  rfl
 ·have hP' :q6u 600 (hset b 30 1 1)=some (eP (hset b 30 1 1),0,()):=hP
  have hs:q2b 600 b (30:Int) (1:Int) true (1:Int)=some (hset b 30 1 1,0,()):=z88 (a:=30) (n:=1) (by omega) hb (by omega) (by omega) (by omega) (by omega)
  simp only[cT,hs,hP',y5]
  rfl
theorem j6v(b:LI)(p:Bool):zco (xA b p) (xB b p):=eFair _ _
theorem z0y(b:LI)(p:Bool):∀i,0≤(xW b p).getD i 0∧(xW b p).getD i 0≤3:=zm3 _
theorem j9o(b:LI)(p:Bool)(a0:LI)(a7:Bool):q7m 600 a0 (xD b p) (xF b p) (xA b p) (xB b p) (xT b p) (xW b p) a7=some (qmx b p,()):=by
 unfold q7m qmx
 rw[zbf (by omega) _ _ (j6v b p)]
 have hf:=z5f (xD b p) (xA b p) (xB b p)
 simp only[y5]
 by_cases h:qw8 (xD b p) (xA b p) (xB b p)=3
 ·rw[iP h,beqT h]
  rfl
 ·rw[iN h,beqF h,w64 (by omega) (by omega)]
  rfl
theorem Kind_is{b:LI}(hb:Bytes b)(hl:b.length=8)(p:Bool):zhn 600 b p=some (qmx b p,())∧z0p 600 b p=some (qmx b p,()):=by
 have hn:(((b.length:Nat):Int) !=8)=false:=by rw[hl];rfl
 unfold zhn z0p
 rw[hn,j9n hb hl p,zm9 hb hl p]
 simp only[cF,y5,j9o,true_and]
 unfold qmx
 rw[z5b (by omega) _ _ (j6v b p)]
 have hf:=z5f (xD b p) (xA b p) (xB b p)
 simp only[y5]
 by_cases h:qw8 (xD b p) (xA b p) (xB b p)=3
 ·rw[iP h,beqT h]
  rfl
 ·rw[iN h,beqF h,w64 (by omega) (by omega),Int.add_comm]
  rfl
def qw9(s f:Bool)(W bs:LI)(q:Nat→Int)(j:Nat):Int:=if s=false∧W.getD (j/4) 0=0 then bs.getD (q3g f (j/4:Nat)*4+j%4) 0 else q j
def upTo(i:Nat)(g q:Nat→Int)(j:Nat):Int:=if j/4<i then g j else q j
theorem qo7{i:Nat}{g q h:Nat→Int}(hh:∀c,c<4→h c=g (i*4+c)):(tab 64 fun j=>if j/4=i then h (j%4)else upTo i g q j)=tab 64 (upTo (i+1) g q):=q01 fun j hj=>by
 unfold upTo
 by_cases h3:j/4=i
 ·rw[iP h3,iP (by omega),hh _ (Nat.mod_lt _ (by decide)),←h3]
  congr 1
  omega
 ·rw[iN h3]
  by_cases h4:j/4<i
  ·rw[iP h4,iP (by omega)]
  ·rw[iN h4,iN (by omega)]
theorem z03{i:Nat}{g q:Nat→Int}(hh:∀j,j/4=i→q j=g j):tab 64 (upTo i g q)=tab 64 (upTo (i+1) g q):=q01 fun j hj=>by
 unfold upTo
 by_cases h4:j/4<i
 ·rw[iP h4,iP (by omega)]
 ·rw[iN h4]
  by_cases h3:j/4=i
  ·rw[iP (by omega),hh j h3]
  ·rw[iN (by omega)]
theorem z04(g q:Nat→Int):tab 64 (upTo 0 g q)=tab 64 q:=q01 fun j hj=>iN (by omega)
theorem z8n(g q:Nat→Int):tab 64 (upTo 16 g q)=tab 64 g:=q01 fun j hj=>iP (by omega)
theorem zvw(x0:LI)(x1:Bool)(x3:LI)(x4:LI)(x5:LI)(x6:LI)(x8:LI)(s f:Bool){W bs:LI}(hbs:bs.length=8)(q:Nat→Int):∀(d i k:Nat),i+d=16→d<k→
  q1d 600 k x0 x1 f x3 x4 x5 x6 s x8 (tab 64 (upTo i (qw9 s f W bs q) q)) bs W ((i:Int))=some (x8,tab 64 (qw9 s f W bs q),()):=by
 intro d
 induction d with
 |zero=>
  intro i k h1 h2
  obtain⟨k,rfl⟩:∃k',k=k' +1:=⟨k-1,by omega⟩
  obtain rfl:i=16:=by omega
  unfold q1d q4v
  have:¬(((16:Nat):Int)<16):=by omega
  simp only[this,dF,cF,z8n]
 |succ d ih=>
  intro i k h1 h2
  obtain⟨k,rfl⟩:∃k',k=k' +1:=⟨k-1,by omega⟩
  have hi:i<16:=by omega
  have i1:(i:Int)<16:=by omega
  have fin:=ih (i+1) k (by omega) (by omega)
  unfold q1d q4v
  cases s
  ·by_cases hw:W.getD i 0=0
   ·have hh:=qzz f i
    have j2:((q3g f (i:Nat):Nat):Int)<2:=by omega
    simp only[i1,dT,cT,yc,yd,yb,Bool.not_false,beqT hw,(z8i 600 f i).1,y5,j2,q7u hbs (show q3g f (i:Nat)*4+4≤8 by omega),qf5 (show i*4+4≤64 by omega)]
    rw[q07 (by omega),show(tab 64 fun j=>if j/4=i then bs.getD (q3g f (i:Int)*4+j%4) 0 else upTo i (qw9 false f W bs q) q j)=tab 64 (upTo (i+1) (qw9 false f W bs q) q)from qo7 (h:=fun c=>bs.getD (q3g f (i:Int)*4+c) 0) (fun c hc=>by
     unfold qw9
     rw[(mul4 i c hc).1,(mul4 i c hc).2,iP ⟨rfl,hw⟩])]
    exact fin
   ·simp only[i1,dT,cT,yc,yd,yb,Bool.not_false,beqF hw,cF]
    rw[q07 (by omega),z03 (i:=i) (fun j hj=>by
     unfold qw9
     rw[hj,iN (fun h=>hw h.2)])]
    exact fin
  ·simp only[i1,dT,cT,yc,yd,yb,Bool.not_true,cF]
   rw[q07 (by omega),z03 (i:=i) (fun j hj=>by
    unfold qw9
    rw[iN (fun h=>by cases h.1)])]
   exact fin
theorem z5g(d f:Bool)(A B T W:LI):(qj3 d f A B T W).length=64:=zlu (m:=4) _ (fun _ _=>rfl)
def z40(b:LI)(p:Bool)(j:Nat):Int:=(qj3 (xD b p) (xF b p) (xA b p) (xB b p) (xT b p) (xW b p)).getD j 0
def z41(b:LI)(p:Bool):LI:=q22 (xD b p) (xA b p) (xB b p)
theorem j02(b:LI)(p:Bool):qj3 (xD b p) (xF b p) (xA b p) (xB b p) (xT b p) (xW b p)=tab 64 (z40 b p):=qgl (z5g _ _ _ _ _ _)
def j2k(b:LI)(p:Bool):Nat→Int:=qw9 (qrf b p) (xF b p) (xW b p) (z41 b p) (z40 b p)
theorem j9p(b:LI)(p:Bool)(a0:LI):q8c 600 a0 (xD b p) (xF b p) (xA b p) (xB b p) (xT b p) (xW b p) (qrf b p)=some (tab 64 (j2k b p),()):=by
 unfold q8c
 rw[zra (by omega) _ _ (j6v b p) (z0y b p),zbf (by omega) _ _ (j6v b p),j02]
 have h:=zvw a0 (xD b p) (xA b p) (xB b p) (xT b p) (xW b p) q04 (qrf b p) (xF b p) (W:=xW b p) (bs:=z41 b p) (qtd _ _ _) (z40 b p) 16 0 600 (by omega) (by omega)
 rw[z04,show((0:Nat):Int)=0 from rfl]at h
 simp only[y5]
 rw[show q22 (xD b p) (xA b p) (xB b p)=z41 b p from rfl,h]
 rfl
def zF(s:Bool)(kind:Int)(W:LI)(g:Nat→Int)(j:Nat):Int:=if s=false∧kind≠3∧W.getD (j/4) 0=2 then 0 else g j
theorem zero_row:[(0:Int),0,0,0]=tab 4 fun _=>0:=rfl
theorem j6w(x0:LI)(x1:LI)(x2:Bool)(x3:Bool)(x4:LI)(x5:LI)(x6:LI)(x7:LI)(s:Bool)(kind:Int)(W:LI)(g:Nat→Int):∀(d i k:Nat),i+d=16→d<k→
  q1x 600 k x0 x1 x2 x3 x4 x5 x6 x7 s kind (tab 64 (upTo i (zF s kind W g) g)) W ((i:Int))=some (x0,tab 64 (zF s kind W g),()):=by
 intro d
 induction d with
 |zero=>
  intro i k h1 h2
  obtain⟨k,rfl⟩:∃k',k=k' +1:=⟨k-1,by omega⟩
  obtain rfl:i=16:=by omega
  unfold q1x qba
  have:¬(((16:Nat):Int)<16):=by omega
  simp only[this,dF,cF,z8n]
 |succ d ih=>
  intro i k h1 h2
  obtain⟨k,rfl⟩:∃k',k=k' +1:=⟨k-1,by omega⟩
  have i1:(i:Int)<16:=by omega
  have fin:=ih (i+1) k (by omega) (by omega)
  have keep:(¬(s=false∧kind≠3∧W.getD i 0=2))→tab 64 (upTo i (zF s kind W g) g)=tab 64 (upTo (i+1) (zF s kind W g) g):=fun h=>z03 fun j hj=>by
   unfold zF
   rw[hj,iN h]
  unfold q1x qba
  cases s
  ·by_cases hk:kind=3
   ·simp only[i1,dT,cT,yc,yd,yb,Bool.not_false,hk,show((3:Int) !=3)=false from rfl,cF]
    rw[hk]at keep fin
    rw[q07 (by omega),keep (fun h=>h.2.1 rfl)]
    exact fin
   ·by_cases hw:W.getD i 0=2
    ·simp only[i1,dT,cT,yc,yd,yb,Bool.not_false,bneT hk,beqT hw,zero_row,qf5 (show i*4+4≤64 by omega)]
     rw[q07 (by omega),show(tab 64 fun j=>if j/4=i then 0 else upTo i (zF false kind W g) g j)=tab 64 (upTo (i+1) (zF false kind W g) g)from qo7 (h:=fun _=>0) (fun c hc=>by
      unfold zF
      rw[(mul4 i c hc).1,iP ⟨rfl,hk,hw⟩])]
     exact fin
    ·simp only[i1,dT,cT,yc,yd,yb,Bool.not_false,bneT hk,beqF hw,cF]
     rw[q07 (by omega),keep (fun h=>hw h.2.2)]
     exact fin
  ·simp only[i1,dT,cT,yc,yd,yb,Bool.not_true,cF]
   rw[q07 (by omega),keep (fun h=>by cases h.1)]
   exact fin
def j6x(b:LI)(p:Bool):Nat→Int:=if qmx b p=0 then j2k b p else if qmx b p=1 then qd5 (qj4 b) (xW b p)else if qmx b p=2 then qd5 (qgm b) (xW b p)else z5e b
def qmr(b:LI)(p:Bool):Nat→Int:=zF (qrf b p) (qmx b p) (xW b p) (j6x b p)
theorem kind4(b:LI)(p:Bool):qmx b p=0∨qmx b p=1∨qmx b p=2∨qmx b p=3:=by
 have:=z5f (xD b p) (xA b p) (xB b p)
 unfold qmx
 split<;>omega
theorem z5h{b:LI}(hb:Bytes b)(hl:b.length=8)(p:Bool):qbb 600 b p=some (tab 64 (qmr b p),0,()):=by
 have hn:(((b.length:Nat):Int) !=8)=false:=by rw[hl];rfl
 unfold qbb
 rw[hn,j9n hb hl p]
 simp only[cF,y5,j9o]
 have l0:=fun g=>j6w q04 b (xD b p) (xF b p) (xA b p) (xB b p) (xT b p) (xW b p) (qrf b p) (qmx b p) (xW b p) g 16 0 600 (by omega) (by omega)
 simp only[z04,show((0:Nat):Int)=0 from rfl]at l0
 have hT:=(ofT_is hb hl (xD b p) (xF b p) (xA b p) (xB b p) (xT b p) (z0y b p) (qrf b p)).1
 have hH:=(ofH_is hb hl (xD b p) (xF b p) (xA b p) (xB b p) (xT b p) (z0y b p) (qrf b p)).1
 have hp:=(j00 hb hl (xD b p) (xF b p) (xA b p) (xB b p) (xT b p) (xW b p) (qrf b p)).1
 have hd:=j9p b p b
 unfold qmr j6x
 rcases kind4 b p with h|h|h|h
 ·rw[h]at l0⊢
  simp only[beq_self_eq_true,cT,hd,y5,l0,if_true]
 ·rw[h]at l0⊢
  simp only[show((1:Int)==0)=false from rfl,beq_self_eq_true,cT,cF,hT,y5,l0,show¬(1:Int)=0 by decide,if_false,if_true]
 ·rw[h]at l0⊢
  simp only[show((2:Int)==0)=false from rfl,show((2:Int)==1)=false from rfl,beq_self_eq_true,cT,cF,hH,y5,l0,show¬(2:Int)=0 by decide,show¬(2:Int)=1 by decide,if_false,if_true]
 ·rw[h]at l0⊢
  simp only[show((3:Int)==0)=false from rfl,show((3:Int)==1)=false from rfl,show((3:Int)==2)=false from rfl,beq_self_eq_true,cT,cF,hp,y5,l0,show¬(3:Int)=0 by decide,show¬(3:Int)=1 by decide,show¬(3:Int)=2 by decide,if_false]
theorem rdec_T{b:LI}(hb:Bytes b)(hl:b.length=8)(s d f:Bool){A B T W bs:LI}(hW:∀i,0≤W.getD i 0∧W.getD i 0≤3)(x1:LI)(q:Nat→Int):∀(dd i k:Nat),i+dd=16→dd<k→
  q0m 600 k b x1 ((1:Int)) s d f A B T W (tab 64 (upTo i (zF s 1 W (qd5 (qj4 b) W)) q)) bs ((i:Int))=some (x1,tab 64 (zF s 1 W (qd5 (qj4 b) W)),()):=by
 intro dd
 induction dd with
 |zero=>
  intro i k h1 h2
  obtain⟨k,rfl⟩:∃k',k=k' +1:=⟨k-1,by omega⟩
  obtain rfl:i=16:=by omega
  unfold q0m q30
  have:¬(((16:Nat):Int)<16):=by omega
  simp only[this,dF,cF,z8n]
 |succ dd ih=>
  intro i k h1 h2
  obtain⟨k,rfl⟩:∃k',k=k' +1:=⟨k-1,by omega⟩
  have i1:(i:Int)<16:=by omega
  have h4:=(ofT_is hb hl d f A B T hW s).2
  have hw:=hW i
  have j2:W.getD i 0<4:=by omega
  have fin:=ih (i+1) k (by omega) (by omega)
  have row:∀c,c<4→¬(s=false∧W.getD i 0=2)→(qj4 b).getD ((W.getD i 0).toNat*4+c) 0=zF s 1 W (qd5 (qj4 b) W) (i*4+c):=fun c hc h=>by
   unfold zF qd5
   rw[(mul4 i c hc).1,(mul4 i c hc).2,iN (fun hh=>h ⟨hh.1,hh.2.2⟩)]
  unfold q0m q30
  cases s
  ·by_cases h2' :W.getD i 0=2
   ·simp only[i1,dT,cT,beq_self_eq_true,h4,y5,yc,yd,yb,hw.1,j2,q7u (show(qj4 b).length=16 from rfl) (show(W.getD i 0).toNat*4+4≤16 by omega),qf5 (show i*4+4≤64 by omega),Bool.not_false,beqT h2',zero_row]
    rw[q07 (by omega),q01 fun j hj=>show(if j/4=i then 0 else if j/4=i then(qj4 b).getD ((W.getD i 0).toNat*4+j%4) 0 else upTo i (zF false 1 W (qd5 (qj4 b) W)) q j)=upTo (i+1) (zF false 1 W (qd5 (qj4 b) W)) q j by
     unfold upTo
     by_cases h3:j/4=i
     ·rw[iP h3,iP (by omega)]
      unfold zF
      rw[h3,iP ⟨rfl,by decide,h2'⟩]
     ·rw[iN h3,iN h3]
      by_cases h5:j/4<i
      ·rw[iP h5,iP (by omega)]
      ·rw[iN h5,iN (by omega)]]
    exact fin
   ·simp only[i1,dT,cT,beq_self_eq_true,h4,y5,yc,yd,yb,hw.1,j2,q7u (show(qj4 b).length=16 from rfl) (show(W.getD i 0).toNat*4+4≤16 by omega),qf5 (show i*4+4≤64 by omega),Bool.not_false,beqF h2',cF]
    rw[q07 (by omega),show(tab 64 fun j=>if j/4=i then(qj4 b).getD ((W.getD i 0).toNat*4+j%4) 0 else upTo i (zF false 1 W (qd5 (qj4 b) W)) q j)=tab 64 (upTo (i+1) (zF false 1 W (qd5 (qj4 b) W)) q)from qo7 (h:=fun c=>(qj4 b).getD ((W.getD i 0).toNat*4+c) 0) (fun c hc=>row c hc (fun h=>h2' h.2))]
    exact fin
  ·simp only[i1,dT,cT,beq_self_eq_true,h4,y5,yc,yd,yb,hw.1,j2,q7u (show(qj4 b).length=16 from rfl) (show(W.getD i 0).toNat*4+4≤16 by omega),qf5 (show i*4+4≤64 by omega),Bool.not_true,cF]
   rw[q07 (by omega),show(tab 64 fun j=>if j/4=i then(qj4 b).getD ((W.getD i 0).toNat*4+j%4) 0 else upTo i (zF true 1 W (qd5 (qj4 b) W)) q j)=tab 64 (upTo (i+1) (zF true 1 W (qd5 (qj4 b) W)) q)from qo7 (h:=fun c=>(qj4 b).getD ((W.getD i 0).toNat*4+c) 0) (fun c hc=>row c hc (fun h=>by cases h.1))]
   exact fin
theorem rdec_H{b:LI}(hb:Bytes b)(hl:b.length=8)(s d f:Bool){A B T W bs:LI}(hW:∀i,0≤W.getD i 0∧W.getD i 0≤3)(x1:LI)(q:Nat→Int):∀(dd i k:Nat),i+dd=16→dd<k→
  q0m 600 k b x1 ((2:Int)) s d f A B T W (tab 64 (upTo i (zF s 2 W (qd5 (qgm b) W)) q)) bs ((i:Int))=some (x1,tab 64 (zF s 2 W (qd5 (qgm b) W)),()):=by
 intro dd
 induction dd with
 |zero=>
  intro i k h1 h2
  obtain⟨k,rfl⟩:∃k',k=k' +1:=⟨k-1,by omega⟩
  obtain rfl:i=16:=by omega
  unfold q0m q30
  have:¬(((16:Nat):Int)<16):=by omega
  simp only[this,dF,cF,z8n]
 |succ dd ih=>
  intro i k h1 h2
  obtain⟨k,rfl⟩:∃k',k=k' +1:=⟨k-1,by omega⟩
  have i1:(i:Int)<16:=by omega
  have h4:=(ofH_is hb hl d f A B T hW s).2
  have hw:=hW i
  have j2:W.getD i 0<4:=by omega
  have fin:=ih (i+1) k (by omega) (by omega)
  have row:∀c,c<4→¬(s=false∧W.getD i 0=2)→(qgm b).getD ((W.getD i 0).toNat*4+c) 0=zF s 2 W (qd5 (qgm b) W) (i*4+c):=fun c hc h=>by
   unfold zF qd5
   rw[(mul4 i c hc).1,(mul4 i c hc).2,iN (fun hh=>h ⟨hh.1,hh.2.2⟩)]
  unfold q0m q30
  cases s
  ·by_cases h2' :W.getD i 0=2
   ·simp only[i1,dT,cT,show((2:Int)==1)=false from rfl,beq_self_eq_true,cF,h4,y5,yc,yd,yb,hw.1,j2,q7u (show(qgm b).length=16 from rfl) (show(W.getD i 0).toNat*4+4≤16 by omega),qf5 (show i*4+4≤64 by omega),Bool.not_false,beqT h2',zero_row]
    rw[q07 (by omega),q01 fun j hj=>show(if j/4=i then 0 else if j/4=i then(qgm b).getD ((W.getD i 0).toNat*4+j%4) 0 else upTo i (zF false 2 W (qd5 (qgm b) W)) q j)=upTo (i+1) (zF false 2 W (qd5 (qgm b) W)) q j by
     unfold upTo
     by_cases h3:j/4=i
     ·rw[iP h3,iP (by omega)]
      unfold zF
      rw[h3,iP ⟨rfl,by decide,h2'⟩]
     ·rw[iN h3,iN h3]
      by_cases h5:j/4<i
      ·rw[iP h5,iP (by omega)]
      ·rw[iN h5,iN (by omega)]]
    exact fin
   ·simp only[i1,dT,cT,show((2:Int)==1)=false from rfl,beq_self_eq_true,cF,h4,y5,yc,yd,yb,hw.1,j2,q7u (show(qgm b).length=16 from rfl) (show(W.getD i 0).toNat*4+4≤16 by omega),qf5 (show i*4+4≤64 by omega),Bool.not_false,beqF h2',cF]
    rw[q07 (by omega),show(tab 64 fun j=>if j/4=i then(qgm b).getD ((W.getD i 0).toNat*4+j%4) 0 else upTo i (zF false 2 W (qd5 (qgm b) W)) q j)=tab 64 (upTo (i+1) (zF false 2 W (qd5 (qgm b) W)) q)from qo7 (h:=fun c=>(qgm b).getD ((W.getD i 0).toNat*4+c) 0) (fun c hc=>row c hc (fun h=>h2' h.2))]
    exact fin
  ·simp only[i1,dT,cT,show((2:Int)==1)=false from rfl,beq_self_eq_true,cF,h4,y5,yc,yd,yb,hw.1,j2,q7u (show(qgm b).length=16 from rfl) (show(W.getD i 0).toNat*4+4≤16 by omega),qf5 (show i*4+4≤64 by omega),Bool.not_true,cF]
   rw[q07 (by omega),show(tab 64 fun j=>if j/4=i then(qgm b).getD ((W.getD i 0).toNat*4+j%4) 0 else upTo i (zF true 2 W (qd5 (qgm b) W)) q j)=tab 64 (upTo (i+1) (zF true 2 W (qd5 (qgm b) W)) q)from qo7 (h:=fun c=>(qgm b).getD ((W.getD i 0).toNat*4+c) 0) (fun c hc=>row c hc (fun h=>by cases h.1))]
   exact fin
theorem rdec_0(x0:LI)(x1:LI)(x4:Bool)(x6:LI)(x7:LI)(x8:LI)(s f:Bool){W bs:LI}(hbs:bs.length=8)(q:Nat→Int):∀(dd i k:Nat),i+dd=16→dd<k→
  q0m 600 k x0 x1 0 s x4 f x6 x7 x8 W (tab 64 (upTo i (zF s 0 W (qw9 s f W bs q)) q)) bs ((i:Int))=some (x1,tab 64 (zF s 0 W (qw9 s f W bs q)),()):=by
 intro dd
 induction dd with
 |zero=>
  intro i k h1 h2
  obtain⟨k,rfl⟩:∃k',k=k' +1:=⟨k-1,by omega⟩
  obtain rfl:i=16:=by omega
  unfold q0m q30
  have:¬(((16:Nat):Int)<16):=by omega
  simp only[this,dF,cF,z8n]
 |succ dd ih=>
  intro i k h1 h2
  obtain⟨k,rfl⟩:∃k',k=k' +1:=⟨k-1,by omega⟩
  have i1:(i:Int)<16:=by omega
  have fin:=ih (i+1) k (by omega) (by omega)
  have z1:((0:Int)==1)=false:=rfl
  have z2:((0:Int)==2)=false:=rfl
  unfold q0m q30
  cases s
  ·by_cases hw:W.getD i 0=0
   ·have hh:=qzz f i
    have j2:((q3g f (i:Nat):Nat):Int)<2:=by omega
    have h20:(W.getD i 0==2)=false:=beqF (by omega)
    simp only[i1,dT,cT,z1,z2,cF,yc,yd,yb,Bool.not_false,beqT hw,(z8i 600 f i).2,y5,j2,q7u hbs (show q3g f (i:Nat)*4+4≤8 by omega),qf5 (show i*4+4≤64 by omega),h20]
    rw[q07 (by omega),show(tab 64 fun j=>if j/4=i then bs.getD (q3g f (i:Int)*4+j%4) 0 else upTo i (zF false 0 W (qw9 false f W bs q)) q j)=tab 64 (upTo (i+1) (zF false 0 W (qw9 false f W bs q)) q)from qo7 (h:=fun c=>bs.getD (q3g f (i:Int)*4+c) 0) (fun c hc=>by
     unfold zF qw9
     rw[(mul4 i c hc).1,(mul4 i c hc).2,iN (by omega),iP ⟨rfl,hw⟩])]
    exact fin
   ·by_cases h2' :W.getD i 0=2
    ·simp only[i1,dT,cT,z1,z2,cF,yc,yd,yb,Bool.not_false,beqF hw,beqT h2',zero_row,qf5 (show i*4+4≤64 by omega)]
     rw[q07 (by omega),show(tab 64 fun j=>if j/4=i then 0 else upTo i (zF false 0 W (qw9 false f W bs q)) q j)=tab 64 (upTo (i+1) (zF false 0 W (qw9 false f W bs q)) q)from qo7 (h:=fun _=>0) (fun c hc=>by
      unfold zF
      rw[(mul4 i c hc).1,iP ⟨rfl,by decide,h2'⟩])]
     exact fin
    ·simp only[i1,dT,cT,z1,z2,cF,yc,yd,yb,Bool.not_false,beqF hw,beqF h2']
     rw[q07 (by omega),z03 (i:=i) (fun j hj=>by
      unfold zF qw9
      rw[hj,iN (fun h=>h2' h.2.2),iN (fun h=>hw h.2)])]
     exact fin
  ·simp only[i1,dT,cT,z1,z2,cF,yc,yd,yb,Bool.not_true]
   rw[q07 (by omega),z03 (i:=i) (fun j hj=>by
    unfold zF qw9
    rw[iN (fun h=>by cases h.1),iN (fun h=>by cases h.1)])]
   exact fin
theorem z05{b:LI}(hb:Bytes b)(hl:b.length=8)(p:Bool):q6j 600 b p=some (tab 64 (qmr b p),0,()):=by
 have hn:(((b.length:Nat):Int) !=8)=false:=by rw[hl];rfl
 have key:qmx b p≠3→q0m 600 600 b q04 (qmx b p) (qrf b p) (xD b p) (xF b p) (xA b p) (xB b p) (xT b p) (xW b p) (tab 64 (z40 b p)) (z41 b p) 0=some (q04,tab 64 (qmr b p),()):=fun h3=>by
  unfold qmr j6x
  rcases kind4 b p with h|h|h|h
  ·rw[h]
   have l:=rdec_0 b q04 (xD b p) (xA b p) (xB b p) (xT b p) (qrf b p) (xF b p) (W:=xW b p) (bs:=z41 b p) (qtd _ _ _) (z40 b p) 16 0 600 (by omega) (by omega)
   rw[z04,show((0:Nat):Int)=0 from rfl]at l
   rw[l]
   rfl
  ·rw[h]
   have l:=rdec_T hb hl (qrf b p) (xD b p) (xF b p) (A:=xA b p) (B:=xB b p) (T:=xT b p) (bs:=z41 b p) (z0y b p) q04 (z40 b p) 16 0 600 (by omega) (by omega)
   rw[z04,show((0:Nat):Int)=0 from rfl]at l
   rw[l]
   rfl
  ·rw[h]
   have l:=rdec_H hb hl (qrf b p) (xD b p) (xF b p) (A:=xA b p) (B:=xB b p) (T:=xT b p) (bs:=z41 b p) (z0y b p) q04 (z40 b p) 16 0 600 (by omega) (by omega)
   rw[z04,show((0:Nat):Int)=0 from rfl]at l
   rw[l]
   rfl
  ·exact absurd h h3
 unfold q6j
 rw[hn,(Kind_is hb hl p).2]
 simp only[cF,y5]
 by_cases h3:qmx b p=3
 ·have hz:qmr b p=z5e b:=by
   funext j
   unfold qmr zF j6x
   rw[h3,iN (fun h=>h.2.1 rfl),iN (by decide),iN (by decide),iN (by decide)]
  rw[beqT h3,(j00 hb hl false false [] [] [] [] false).2,hz]
  rfl
 ·rw[beqF h3]
  have k:=key h3
  have hb1:qag 600 (xD b p,xF b p,xA b p,xB b p,xT b p,xW b p,())=some (z41 b p,qw8 (xD b p) (xA b p) (xB b p),()):=z5b (by omega) _ _ (j6v b p) _ _
  have hp1:qcz 600 (xD b p,xF b p,xA b p,xB b p,xT b p,xW b p,())=some (tab 64 (z40 b p),()):=(zm2 (by omega) _ _ (j6v b p) (z0y b p)).trans (by rw[j02])
  cases p
  ·simp only[cF,cT,Bool.not_false,zm9 hb hl false,y5,hp1,hb1]
   have k' :q0m 600 600 b q04 (qmx b false) true (xD b false) (xF b false) (xA b false) (xB b false) (xT b false) (xW b false) (tab 64 (z40 b false)) (z41 b false) 0=some (q04,tab 64 (qmr b false),()):=k
   rw[k']
   rfl
  ·have t:q23 600 b (30:Int) (1:Int)=_:=qi7 (a:=30) (n:=1) (by omega) hb hl (by omega) (by omega)
   simp only[cF,Bool.not_true,t,zm9 hb hl true,y5,hp1,hb1]
   have k' :q0m 600 600 b q04 (qmx b true) (hv b 30 1==1) (xD b true) (xF b true) (xA b true) (xB b true) (xT b true) (xW b true) (tab 64 (z40 b true)) (z41 b true) 0=some (q04,tab 64 (qmr b true),()):=k
   rw[k']
   rfl
theorem j9q{b:LI}(hb:Bytes b)(hl:b.length=8)(h:hv b 30 1=1):hset b 30 1 1=b:=by
 refine qp1 (qra hb 30 1 1) hb (z85 _ _ _ _) fun q hq=> ?_
 rw[z86 hb (by omega)]
 by_cases hc:30≤q∧q<30+1
 ·rw[iP hc]
  have:=zvb b (a:=30) (n:=1) hc.1 hc.2
  rw[h]at this
  exact this
 ·rw[iN hc]
end Go.AE.Gn

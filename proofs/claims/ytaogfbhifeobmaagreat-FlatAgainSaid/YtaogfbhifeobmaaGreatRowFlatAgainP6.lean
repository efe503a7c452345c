/- A part of the proof, put together of my texts: Pure09, Pure09b, Pure09c, Pure09d, Pure09e, Pure09f, Pure09g, Pure10, Pure10b, Pure10c, Pure11, Pure11b, Pure11c, Pure11d, Pure11f, Pure11g, Pure11h, Pure11i. -/
import Derived.Test.YtaogfbhifeobmaaGreatRowFlatAgainP5
set_option linter.unusedVariables false
set_option linter.unusedSimpArgs false
open Bool renaming and_eq_true → yl, and_self → yd, false_eq_true → yn
open List renaming range → yz, take → y8, drop → y9, set → yx, getD → y7, getD_eq_getElem?_getD → ye, getElem?_eq_none → w8, getElem?_eq_getElem → yj, mem_cons → yr, getD_cons_zero → yt, getD_cons_succ → yu, getElem?_append_left → yg, getElem?_append_right → w7
open Nat renaming le_refl → w9, add_assoc → wc
open Option renaming bind_some → y5
open Int renaming natCast_nonneg → yc, toNat_natCast → yb, natCast_zero → yq, eq_ofNat_of_zero_le → yh, tmod → yv, tdiv → yw, natCast_pow → we, toNat → y6, cast_ofNat_Int → yp, emod_eq_of_lt → wa
open Go.IntKind renaming wrap → y0
namespace Go.AE.Gn
open Go Go.AE
structure BM where
 P:Nat
 W:Nat
 T:Nat
 H:Nat
 C:Nat
 A:Nat
 e:Nat
 o:Nat
 f:Nat
 s:Nat
 base:Nat
def bmOf(k:Nat):BM:=
 let g:=fun i=>(bctable_ModesT298.getD (k*10+i) 0).toNat
 ⟨g 0,g 1,g 2,g 3,g 4,g 5,g 6,g 7,g 8,g 9,k+1⟩
structure BM.Ok (m:BM):Prop where
 P1:1≤m.P
 P3:m.P≤3
 W6:m.W≤6
 T2:m.T≤2
 H1:m.H≤1
 C1:1≤m.C
 C7:m.C≤7
 A8:m.A≤8
 e1:m.e≤1
 o1:m.o≤1
 eo:m.e+m.o≤1
 Ce:m.C+m.e+m.o≤8
 Ae:m.A+m.e+m.o≤8
 f2:2≤m.f
 f4:m.f≤4
 s3:m.s≤3
 s0:m.s=0∨2≤m.s
 Hs:m.s=0→m.H=0
 b8:m.base≤8
 all:m.base+m.W+m.T+m.H+6*m.P*m.C+2*m.P*m.A+2*m.P*m.e+m.P*m.o+(16*m.f-m.P)+(if m.s=0 then 0 else 16*m.s-1)≤128
def BM.okB(m:BM):Bool:=decide (1≤m.P)&&(decide (m.P≤3)&&(decide (m.W≤6)&&(decide (m.T≤2)&&(decide (m.H≤1)&&(decide (1≤m.C)&&(decide (m.C≤7)&&(decide (m.A≤8)&&(decide (m.e≤1)&&(decide (m.o≤1)&&(decide (m.e+m.o≤1)&&(decide (m.C+m.e+m.o≤8)&&(decide (m.A+m.e+m.o≤8)&&(decide (2≤m.f)&&(decide (m.f≤4)&&(decide (m.s≤3)&&(decide (m.s=0∨2≤m.s)&&(decide (m.s=0→m.H=0)&&(decide (m.base≤8)&&decide (m.base+m.W+m.T+m.H+6*m.P*m.C+2*m.P*m.A+2*m.P*m.e+m.P*m.o+(16*m.f-m.P)+(if m.s=0 then 0 else 16*m.s-1)≤128)))))))))))))))))))
theorem BM.okB_ok{m:BM}(h:m.okB=true):m.Ok:=by
 simp only[BM.okB,yl,decide_eq_true_eq]at h
 obtain⟨h1,h2,h3,h4,h5,h6,h7,h8,h9,h10,h11,h12,h13,h14,h15,h16,h17,h18,h19,h20⟩:=h
 exact⟨h1,h2,h3,h4,h5,h6,h7,h8,h9,h10,h11,h12,h13,h14,h15,h16,h17,h18,h19,h20⟩
theorem zmj:((yz 8).all fun k=>(bmOf k).okB)=true:=by decide+kernel
theorem bm_ok{k:Nat}(h:k<8):(bmOf k).Ok:=BM.okB_ok (List.all_eq_true.1 zmj k (by simpa using h))
def z0o(m:BM):List Int:=[m.P,m.W,m.T,m.H,m.C,m.A,m.e,m.o,m.f,m.s]
theorem zjt:((yz 8).all fun k=>y8 10 (y9 (k*10) bctable_ModesT298)==z0o (bmOf k))=true:=by decide+kernel
theorem row_is{k:Nat}(h:k<8):y8 10 (y9 (k*10) bctable_ModesT298)=z0o (bmOf k):=by
 simpa using List.all_eq_true.1 zjt k (by simpa using h)
def numOf(x:Option (Int×Unit)):Int:=match x with
 |some (n,_)=>n
 |none=>0
def qbe(P:Nat)(w i:Nat):Nat:=(numOf (qvm 600 P w i)).toNat
def zdy(P:Nat)(w p:Nat):Nat:=(numOf (qn0 600 P w p)).toNat
theorem zdz:((yz 3).all fun p=>(yz 64).all fun w=>(yz 16).all fun i=>
  (qfw 600 ((p+1:Nat):Int) w i==some ((qbe (p+1) w i:Int),()))&&((qvm 600 ((p+1:Nat):Int) w i==some ((qbe (p+1) w i:Int),()))&&decide (qbe (p+1) w i<p+1)))=true:=by kernel_rfl
theorem part9{P w i:Nat}(h1:1≤P)(h3:P≤3)(hw:w<64)(hi:i<16):
  qfw 600 P w i=some ((qbe P w i:Int),())∧qvm 600 P w i=some ((qbe P w i:Int),())∧qbe P w i<P:=by
 obtain⟨p,rfl⟩:∃p,P=p+1:=⟨P-1,by omega⟩
 have:=List.all_eq_true.1 (List.all_eq_true.1 (List.all_eq_true.1 zdz p (by simp;omega)) w (by simpa using hw)) i (by simpa using hi)
 simpa using this
theorem ze0:((yz 4).all fun P=>(yz P).all fun p=>decide (p=0)||(yz 64).all fun w=>
  (qbk 600 (P:Int) w p==some ((zdy P w p:Int),()))&&(qn0 600 (P:Int) w p==some ((zdy P w p:Int),())))=true:=by kernel_rfl
theorem anch9{P w p:Nat}(h3:P≤3)(hw:w<64)(hp:1≤p)(hp2:p<P):
  qbk 600 P w p=some ((zdy P w p:Int),())∧qn0 600 P w p=some ((zdy P w p:Int),()):=by
 have:=List.all_eq_true.1 (List.all_eq_true.1 ze0 P (by simp;omega)) p (by simpa using hp2)
 rcases Bool.or_eq_true_iff.1 this with h|h
 ·simp at h
  omega
 ·simpa using List.all_eq_true.1 h w (by simpa using hw)
def ancB(P w i:Nat):Bool:=(i==0)||((yz P).any fun p=>decide (1≤p)&&(zdy P w p==i))
def qs4(P w i:Nat):Nat:=if ancB P w i then 1 else 0
def posF(P w f:Nat)(p2:Nat):Nat→Nat
 |0=>p2
 |i+1=>posF P w f p2 i+(f-qs4 P w i)
theorem lessV_le(P w i:Nat):qs4 P w i≤1:=by unfold qs4;split<;>omega
theorem zmk(P w f p2:Nat):∀{i j:Nat},i≤j→posF P w f p2 i≤posF P w f p2 j:=by
 intro i j h
 induction h with
 |refl=>exact w9 _
 |step h ih=>exact Nat.le_trans ih (by simp only[posF];omega)
theorem zib(P w f p2:Nat):∀i,posF P w f p2 i=p2+posF P w f 0 i
 |0=>by simp[posF]
 |i+1=>by simp only[posF];rw[zib P w f p2 i];omega
theorem zga:((yz 3).all fun P=>(yz 64).all fun w=>(yz 3).all fun f=>posF (P+1) w (f+2) 0 16==16*(f+2)-(P+1))=true:=by kernel_rfl
theorem posF_16{P w f:Nat}(h1:1≤P)(h3:P≤3)(hw:w<64)(h2:2≤f)(h4:f≤4)(p2:Nat):posF P w f p2 16=p2+(16*f-P):=by
 rw[zib]
 obtain⟨p,rfl⟩:∃p,P=p+1:=⟨P-1,by omega⟩
 obtain⟨g,rfl⟩:∃g,f=g+2:=⟨f-2,by omega⟩
 have:=List.all_eq_true.1 (List.all_eq_true.1 (List.all_eq_true.1 zga p (by simp;omega)) w (by simpa using hw)) g (by simp;omega)
 simp only[beq_iff_eq]at this
 rw[this]
theorem rd9{b:List Int}(hb:Bytes b)(hl:b.length=16){a n:Nat}(hn:n≤16)(h:a+n≤128):q0t 600 n b a=some (lv b a n,(((a+n:Nat):Int),())):=by
 unfold q0t
 have h1:=q5t b a n
 have h2:(2:Int)^n≤2^16:=q3h hn
 rw[Low_lv (by omega) hb (by omega) (by omega) (by omega)]
 simp only[y5]
 rw[w64 (by omega) (by omega),w64 (by omega) (by omega),Int.natCast_add]
def colG(b:List Int)(a n c i:Nat)(g:Nat→Int)(j:Nat):Int:=if j%4=c∧j/4<i then lv b (a+j/4*n) n else g j
theorem zml{E:Nat}(b:List Int)(a n c i:Nat)(g:Nat→Int)(hc:c<4):(tab (E*4) (colG b a n c i g)).set (i*4+c) (lv b (a+i*n) n)=tab (E*4) (colG b a n c (i+1) g):=by
 rw[qbd]
 refine q01 fun j hj=> ?_
 unfold colG
 by_cases h:j=i*4+c
 ·have h1:j%4=c:=by omega
  have h2:j/4=i:=by omega
  simp only[h,if_true]
  rw[h]at h1 h2
  simp only[h1,h2,true_and]
  rw[if_pos (by omega)]
 ·simp only[h,if_false]
  by_cases h1:j%4=c∧j/4<i
  ·rw[if_pos h1,if_pos ⟨h1.1,by omega⟩]
  ·rw[if_neg h1,if_neg (by omega)]
theorem zgb{b:List Int}(hb:Bytes b)(hl:b.length=16)(x0:List Int)(x1:List Int)(x3:Int)(x4:Int)(x5:Int)(x6:Int)(x9:Int)(x10:Int)(x11:Int)(x12:Int)(x13:Int)(x14:Int)(x15:Int)(x16:List Int)(x17:List Int){C A E n c a:Nat}(g:Nat→Int)(hn:n≤16)(hc:c<4)(hE:E≤100)(ha:a+E*n≤128)(hd:n=if c=3 then A else C):
  ∀(d i k:Nat),i+d=E→d<k→q3t 600 k x0 x1 (tab (E*4) (colG b a n c i g)) x3 x4 x5 x6 ((C:Int)) ((A:Int)) x9 x10 x11 x12 x13 x14 x15 x16 x17 b (((a+i*n:Nat):Int)) ((c:Int)) ((c:Int)) ((E:Int)) ((i:Int))=some (x0,(x1,(tab (E*4) (colG b a n c E g),(x3,(x4,(x5,(x6,((C:Int),((A:Int),(x9,(x10,(x11,(x12,(x13,(x14,(x15,(x16,(x17,(b,(((a+E*n:Nat):Int),((c:Int),()))))))))))))))))))))):=by
 intro d
 induction d with
 |zero=>
  intro i k h1 h2
  obtain⟨k,rfl⟩:∃k',k=k' +1:=⟨k-1,by omega⟩
  obtain rfl:i=E:=by omega
  unfold q3t q84
  simp only[Int.lt_irrefl,decide_false,cond_false]
 |succ d ih=>
  intro i k h1 h2
  obtain⟨k,rfl⟩:∃k',k=k' +1:=⟨k-1,by omega⟩
  have hi:i<E:=by omega
  have hm:=mulS (n:=n) hi
  have e1:(i+1)*n=i*n+n:=Nat.succ_mul i n
  unfold q3t q84
  have i1:(i:Int)<(E:Int):=by omega
  have i2:(E*4)/4=E:=by omega
  have i3:(0:Int)≤(c:Int):=by omega
  have i4:(c:Int)<4:=by omega
  have ed:q5g 600 (x3,(x4,(x5,(x6,((C:Int),((A:Int),(x9,(x10,(x11,(x12,())))))))))) (c:Int)=some ((n:Int),()):=by
   unfold q5g
   by_cases h3:c=3
   ·subst h3
    simp only[if_true]at hd
    simp[hd]
   ·have:((c:Int)==3)=false:=by
     rw[beq_eq_false_iff_ne]
     omega
    simp only[h3,if_false]at hd
    simp[this,hd]
  simp only[q0i,i2,i1,i3,i4,decide_true,cond_true,yc,yd,yb,ed,y5]
  rw[rd9 hb hl hn (by omega)]
  simp only[y5]
  rw[zml b a n c i g hc,q0n (by omega),wc,←e1]
  exact ih (i+1) k (by omega) (by omega)
def e0(b:List Int)(m:BM)(p0:Nat)(j:Nat):Int:=if j%4=3 then lv b (p0+6*m.P*m.C+j/4*m.A) m.A else lv b (p0+j%4*(2*m.P*m.C)+j/4*m.C) m.C
theorem zmm{b:List Int}(m:BM)(p0:Nat)(j:Nat)(hj:j<2*m.P*4):
  colG b (p0+2*m.P*m.C+2*m.P*m.C+2*m.P*m.C) m.A 3 (2*m.P) (colG b (p0+2*m.P*m.C+2*m.P*m.C) m.C 2 (2*m.P) (colG b (p0+2*m.P*m.C) m.C 1 (2*m.P) (colG b p0 m.C 0 (2*m.P) fun _=>0))) j=e0 b m p0 j:=by
 unfold colG e0
 have h:j/4<2*m.P:=by omega
 have e6:6*m.P*m.C=2*m.P*m.C+2*m.P*m.C+2*m.P*m.C:=by
  rw[←Nat.add_mul,←Nat.add_mul]
  congr 1
  omega
 have hc:j%4=0∨j%4=1∨j%4=2∨j%4=3:=by omega
 rcases hc with h4|h4|h4|h4<;>simp only[h4,h,and_self,if_true,reduceCtorEq,if_false,false_and,Nat.reduceEqDiff,Nat.zero_mul,Nat.one_mul,Nat.add_zero]
 ·congr 2
  omega
 ·congr 2
  omega
theorem zmn(b:List Int)(a n c:Nat)(g:Nat→Int):colG b a n c 0 g=g:=by
 funext j
 simp[colG]
theorem qgo{b:List Int}(hb:Bytes b)(hl:b.length=16)(x0:List Int)(x1:List Int)(x3:Int)(x4:Int)(x5:Int)(x6:Int)(x9:Int)(x10:Int)(x11:Int)(x12:Int)(x13:Int)(x14:Int)(x15:Int)(x16:List Int)(x17:List Int){C A E n c a:Nat}(g:Nat→Int)(hn:n≤16)(hc:c<4)(hE:E≤100)(ha:a+E*n≤128)(hd:n=if c=3 then A else C)(k:Nat):
  q20 600 (k+1) x0 x1 (tab (E*4) g) x3 x4 x5 x6 ((C:Int)) ((A:Int)) x9 x10 x11 x12 x13 x14 x15 x16 x17 b ((a:Int)) ((c:Int))=q20 600 k x0 x1 (tab (E*4) (colG b a n c E g)) x3 x4 x5 x6 ((C:Int)) ((A:Int)) x9 x10 x11 x12 x13 x14 x15 x16 x17 b (((a+E*n:Nat):Int)) (((c+1:Nat):Int)):=by
 have i4:(c:Int)<4:=by omega
 have i2:(E*4)/4=E:=by omega
 have h:=zgb hb hl x0 x1 x3 x4 x5 x6 x9 x10 x11 x12 x13 x14 x15 x16 x17 (C:=C) (A:=A) (c:=c) (a:=a) g hn hc hE ha hd E 0 600 (by omega) (by omega)
 simp only[zmn,Nat.zero_mul,Nat.add_zero,yq]at h
 conv=>lhs;unfold q20 q85
 simp only[q0i,i2,i4,decide_true,cond_true,h,y5]
 rw[q0n (by omega)]
theorem zgc{b:List Int}(hb:Bytes b)(hl:b.length=16)(x0:List Int)(x1:List Int)(x3:Int)(x4:Int)(x5:Int)(x6:Int)(x9:Int)(x10:Int)(x11:Int)(x12:Int)(x13:Int)(x14:Int)(x15:Int)(x16:List Int)(x17:List Int){m:BM}(ok:m.Ok){p0:Nat}(hp:p0+6*m.P*m.C+2*m.P*m.A≤128)(k:Nat):
  q20 600 (k+5) x0 x1 (tab (2*m.P*4) fun _=>0) x3 x4 x5 x6 ((m.C:Int)) ((m.A:Int)) x9 x10 x11 x12 x13 x14 x15 x16 x17 b ((p0:Int)) ((0:Int))=some (x0,(x1,(tab (2*m.P*4) (e0 b m p0),(x3,(x4,(x5,(x6,((m.C:Int),((m.A:Int),(x9,(x10,(x11,(x12,(x13,(x14,(x15,(x16,(x17,(b,(((p0+6*m.P*m.C+2*m.P*m.A:Nat):Int),())))))))))))))))))))):=by
 have e6:6*m.P*m.C=2*m.P*m.C+2*m.P*m.C+2*m.P*m.C:=by
  rw[←Nat.add_mul,←Nat.add_mul]
  congr 1
  omega
 have hC:=ok.C7
 have hA:=ok.A8
 have hP:=ok.P3
 have s0:=qgo hb hl x0 x1 x3 x4 x5 x6 x9 x10 x11 x12 x13 x14 x15 x16 x17 (C:=m.C) (A:=m.A) (E:=2*m.P) (n:=m.C) (c:=0) (a:=p0) (fun _=>0) (by omega) (by omega) (by omega) (by omega) (by simp) (k+4)
 have s1:=qgo hb hl x0 x1 x3 x4 x5 x6 x9 x10 x11 x12 x13 x14 x15 x16 x17 (C:=m.C) (A:=m.A) (E:=2*m.P) (n:=m.C) (c:=1) (a:=p0+2*m.P*m.C) (colG b p0 m.C 0 (2*m.P) fun _=>0) (by omega) (by omega) (by omega) (by omega) (by simp) (k+3)
 have s2:=qgo hb hl x0 x1 x3 x4 x5 x6 x9 x10 x11 x12 x13 x14 x15 x16 x17 (C:=m.C) (A:=m.A) (E:=2*m.P) (n:=m.C) (c:=2) (a:=p0+2*m.P*m.C+2*m.P*m.C) (colG b (p0+2*m.P*m.C) m.C 1 (2*m.P) (colG b p0 m.C 0 (2*m.P) fun _=>0)) (by omega) (by omega) (by omega) (by omega) (by simp) (k+2)
 have s3:=qgo hb hl x0 x1 x3 x4 x5 x6 x9 x10 x11 x12 x13 x14 x15 x16 x17 (C:=m.C) (A:=m.A) (E:=2*m.P) (n:=m.A) (c:=3) (a:=p0+2*m.P*m.C+2*m.P*m.C+2*m.P*m.C) (colG b (p0+2*m.P*m.C+2*m.P*m.C) m.C 2 (2*m.P) (colG b (p0+2*m.P*m.C) m.C 1 (2*m.P) (colG b p0 m.C 0 (2*m.P) fun _=>0))) (by omega) (by omega) (by omega) (by omega) (by simp) (k+1)
 refine s0.trans (s1.trans (s2.trans (s3.trans ?_)))
 unfold q20 q85
 have i4:¬(((3+1:Nat):Int)<4):=by omega
 simp only[i4,decide_false,cond_false]
 rw[q01 fun j hj=>zmm m p0 j hj,show p0+6*m.P*m.C+2*m.P*m.A=p0+2*m.P*m.C+2*m.P*m.C+2*m.P*m.C+2*m.P*m.A by omega]
theorem ze1(x1:Int)(x2:Int)(x3:Int)(x4:Int)(x7:Int)(x8:Int)(x9:Int)(x10:Int)(x11:Int)(x12:Int)(x13:Int)(x14:List Int)(x15:List Int)(x16:List Int)(x17:Int)(x21:Int)(x22:Int){C A E i:Nat}{ex:Nat}(bit:Int)(g q W:Nat→Int)(hi:i<E)(hE:E≤100)(hCA:C≤100∧A≤100∧ex≤100)
  (hW:∀c,c<4→q0f 600 (ior .i64 (ishl .i64 (q c) (ex:Int)) bit) (((if c=3 then A else C)+ex:Nat):Int)=some (W c,())):
  ∀(d c k:Nat),c+d=4→d<k→q02 600 k (tab (E*4) fun j=>if j/4=i∧j%4<c then W (j%4)else g j) x1 x2 x3 x4 ((C:Int)) ((A:Int)) x7 x8 x9 x10 x11 x12 x13 x14 x15 x16 x17 ((ex:Int)) bit ((i:Int)) x21 x22 (tab 4 q) ((c:Int))=some (tab (E*4) fun j=>if j/4=i then W (j%4)else g j,(x1,(x2,(x3,(x4,((C:Int),((A:Int),(x7,(x8,(x9,(x10,(x11,(x12,(x13,(x14,(x15,(x16,(x17,((ex:Int),(bit,((i:Int),(x21,(x22,()))))))))))))))))))))))):=by
 intro d
 induction d with
 |zero=>
  intro c k h1 h2
  obtain⟨k,rfl⟩:∃k',k=k' +1:=⟨k-1,by omega⟩
  obtain rfl:c=4:=by omega
  unfold q02 q11
  have i4:¬(((4:Nat):Int)<4):=by omega
  simp only[i4,decide_false,cond_false]
  rw[q01 fun j hj=>show(if j/4=i∧j%4<4 then W (j%4)else g j)=if j/4=i then W (j%4)else g j by
   have:j%4<4:=Nat.mod_lt _ (by decide)
   simp only[this,and_true]]
 |succ d ih=>
  intro c k h1 h2
  obtain⟨k,rfl⟩:∃k',k=k' +1:=⟨k-1,by omega⟩
  have hc:c<4:=by omega
  unfold q02 q11
  have i1:(c:Int)<4:=by omega
  have i2:(E*4)/4=E:=by omega
  have i3:(i:Int)<(E:Int):=by omega
  have ed:q5g 600 (x1,(x2,(x3,(x4,((C:Int),((A:Int),(x7,(x8,(x9,(x10,())))))))))) (c:Int)=some (((if c=3 then A else C:Nat):Int),()):=by
   unfold q5g
   by_cases h3:c=3
   ·subst h3
    simp
   ·have:((c:Int)==3)=false:=by
     rw[beq_eq_false_iff_ne]
     omega
    simp[this,h3]
  have ew:y0 .i64 (((if c=3 then A else C:Nat):Int)+(ex:Int))=(((if c=3 then A else C)+ex:Nat):Int):=by
   have:(if c=3 then A else C)≤100:=by split<;>omega
   rw[w64 (by omega) (by omega),Int.natCast_add]
  simp only[q0i,i2,i1,i3,decide_true,cond_true,yc,yd,yb,ed,y5,q1o hc,ew,hW c hc]
  rw[q0n (by omega),qbd]
  rw[q01 fun j hj=>show(if j=i*4+c then W c else if j/4=i∧j%4<c then W (j%4)else g j)=if j/4=i∧j%4<c+1 then W (j%4)else g j by
   by_cases h:j=i*4+c
   ·have h1:j/4=i:=by omega
    have h2:j%4=c:=by omega
    rw[if_pos h,if_pos (by omega),h2]
   ·rw[if_neg h]
    by_cases h5:j/4=i∧j%4<c
    ·rw[if_pos h5,if_pos (by omega)]
    ·rw[if_neg h5,if_neg (by omega)]]
  exact ih (c+1) k (by omega) (by omega)
def bitV(b:List Int)(m:BM)(p1 i:Nat):Int:=if m.e=1 then lv b (p1+i) 1 else if m.o=1 then lv b (p1+i/2) 1 else 0
def posB(m:BM)(p1 i:Nat):Nat:=p1+(if m.e=1 then i else if m.o=1 then(i+1)/2 else 0)
def bitS(b:List Int)(m:BM)(p1 i:Nat):Int:=if i=0 then 0 else bitV b m p1 (i-1)
def eF(b:List Int)(m:BM)(p0 p1 j:Nat):Int:=
 if j%4=3 then(if m.A=0 then 255 else q0o (m.A+(m.e+m.o)) (2^(m.e+m.o)*e0 b m p0 j+bitV b m p1 (j/4)))
 else q0o (m.C+(m.e+m.o)) (2^(m.e+m.o)*e0 b m p0 j+bitV b m p1 (j/4))
def wG(b:List Int)(m:BM)(p0 p1 i j:Nat):Int:=if j/4<i then eF b m p0 p1 j else e0 b m p0 j
theorem bitV_01(b:List Int)(m:BM)(p1 i:Nat):0≤bitV b m p1 i∧bitV b m p1 i≤1:=by
 unfold bitV
 have h1:=q5t b (p1+i) 1
 have h2:=q5t b (p1+i/2) 1
 split
 ·omega
 ·split<;>omega
theorem e0_bound(b:List Int){m:BM}(ok:m.Ok)(p0 j:Nat):0≤e0 b m p0 j∧e0 b m p0 j<256:=by
 unfold e0
 have hA:(2:Int)^m.A≤2^8:=q3h ok.A8
 have hC:(2:Int)^m.C≤2^8:=q3h (by have:=ok.C7;omega)
 split
 ·have:=q5t b (p0+6*m.P*m.C+j/4*m.A) m.A
  omega
 ·have:=q5t b (p0+j%4*(2*m.P*m.C)+j/4*m.C) m.C
  omega
theorem ze2:((yz 256).all fun n=>(yz 2).all fun v=>(ior .i64 (ishl .i64 (n:Int) 1) v==2*(n:Int)+v)&&(ior .i64 (ishl .i64 (n:Int) 0) 0==(n:Int)))=true:=by kernel_rfl
theorem orbit{n v:Int}{x:Nat}(hn:0≤n∧n<256)(hv:0≤v∧v≤1)(hx:x≤1)(h0:x=0→v=0):ior .i64 (ishl .i64 n (x:Int)) v=2^x*n+v:=by
 obtain⟨n,rfl⟩:=yh hn.1
 obtain⟨v,rfl⟩:=yh hv.1
 have:=List.all_eq_true.1 (List.all_eq_true.1 ze2 n (by simp;omega)) v (by simp;omega)
 simp only[yl,beq_iff_eq]at this
 rcases(by omega:x=0∨x=1)with rfl|rfl
 ·rw[h0 rfl]
  rw[show((0:Nat):Int)=0 from rfl,this.2]
  omega
 ·rw[show((1:Nat):Int)=1 from rfl,this.1]
  omega
theorem wide00:∃z,q0f 600 0 0=some (z,()):=by
 have:(q0f 600 0 0).isSome=true:=by kernel_rfl
 obtain⟨⟨z,⟨⟩⟩,h⟩:=Option.isSome_iff_exists.1 this
 exact⟨z,h⟩
theorem wide_end(b:List Int){m:BM}(ok:m.Ok)(p0 p1 i:Nat):∃W:Nat→Int,
  (∀c,c<4→q0f 600 (ior .i64 (ishl .i64 (e0 b m p0 (i*4+c)) ((m.e+m.o:Nat):Int)) (bitV b m p1 i)) (((if c=3 then m.A else m.C)+(m.e+m.o):Nat):Int)=some (W c,()))∧
  ∀c,c<4→¬(c=3∧m.A=0)→W c=eF b m p0 p1 (i*4+c):=by
 have hv:=bitV_01 b m p1 i
 have h0:m.e+m.o=0→bitV b m p1 i=0:=fun h=>by
  unfold bitV
  rw[if_neg (by omega),if_neg (by omega)]
 have hor:∀c,ior .i64 (ishl .i64 (e0 b m p0 (i*4+c)) ((m.e+m.o:Nat):Int)) (bitV b m p1 i)=2^(m.e+m.o)*e0 b m p0 (i*4+c)+bitV b m p1 i:=
  fun c=>orbit (e0_bound b ok _ _) hv ok.eo h0
 have ok1:=ok.Ce
 have ok2:=ok.Ae
 have ok3:=ok.C1
 by_cases hz:m.A+(m.e+m.o)=0
 ·obtain⟨z,hz1⟩:=wide00
  have hA:m.A=0:=by omega
  refine⟨fun c=>if c=3 then z else eF b m p0 p1 (i*4+c),fun c hc=> ?_,fun c hc h=> ?_⟩
  ·rw[hor]
   by_cases h3:c=3
   ·subst h3
    have e1:e0 b m p0 (i*4+3)=0:=by
     have:=q5t b (p0+6*m.P*m.C+(i*4+3)/4*m.A) m.A
     unfold e0
     rw[if_pos (by omega)]
     rw[hA]at this⊢
     simp only[Int.pow_zero]at this
     omega
    rw[e1,h0 (by omega)]
    simp only[if_true]
    rw[hz]
    simpa using hz1
   ·rw[if_neg h3,qbc (by omega) (by omega)]
    unfold eF
    simp only[(mul4 i c hc).1,(mul4 i c hc).2,h3,if_false]
  ·have h3:¬c=3:=fun e=>h ⟨e,hA⟩
   simp only[h3,if_false]
 ·refine⟨fun c=>if c=3 then q0o (m.A+(m.e+m.o)) (2^(m.e+m.o)*e0 b m p0 (i*4+c)+bitV b m p1 i)else eF b m p0 p1 (i*4+c),fun c hc=> ?_,fun c hc h=> ?_⟩
  ·rw[hor]
   by_cases h3:c=3
   ·subst h3
    simp only[if_true]
    rw[qbc (by omega) (by omega)]
   ·simp only[h3,if_false]
    rw[qbc (by omega) (by omega)]
    unfold eF
    simp only[(mul4 i c hc).1,(mul4 i c hc).2,h3,if_false]
  ·by_cases h3:c=3
   ·subst h3
    unfold eF
    have hA:¬m.A=0:=fun e=>h ⟨rfl,e⟩
    simp only[(mul4 i 3 hc).1,(mul4 i 3 hc).2,if_true,hA,if_false]
   ·simp only[h3,if_false]
theorem zic{b:List Int}{m:BM}{p0 p1 i:Nat}{W:Nat→Int}(hW:∀c,c<4→¬(c=3∧m.A=0)→W c=eF b m p0 p1 (i*4+c)){E:Nat}(hA:¬m.A=0):
  (tab (E*4) fun j=>if j/4=i then W (j%4)else wG b m p0 p1 i j)=tab (E*4) (wG b m p0 p1 (i+1)):=by
 refine q01 fun j hj=> ?_
 unfold wG
 have h4:j%4<4:=Nat.mod_lt _ (by decide)
 by_cases h:j/4=i
 ·rw[if_pos h,if_pos (by omega),hW _ h4 (by omega)]
  congr 1
  omega
 ·rw[if_neg h]
  by_cases h5:j/4<i
  ·rw[if_pos h5,if_pos (by omega)]
  ·rw[if_neg h5,if_neg (by omega)]
theorem zan{b:List Int}{m:BM}{p0 p1 i:Nat}{W:Nat→Int}(hW:∀c,c<4→¬(c=3∧m.A=0)→W c=eF b m p0 p1 (i*4+c)){E:Nat}(hA:m.A=0):
  (tab (E*4) fun j=>if j=3+i*4 then 255 else if j/4=i then W (j%4)else wG b m p0 p1 i j)=tab (E*4) (wG b m p0 p1 (i+1)):=by
 refine q01 fun j hj=> ?_
 unfold wG
 have h4:j%4<4:=Nat.mod_lt _ (by decide)
 by_cases h3:j=3+i*4
 ·rw[if_pos h3,if_pos (by omega)]
  unfold eF
  rw[if_pos (by omega),if_pos hA]
 ·rw[if_neg h3]
  by_cases h:j/4=i
  ·rw[if_pos h,if_pos (by omega),hW _ h4 (by omega)]
   congr 1
   omega
  ·rw[if_neg h]
   by_cases h5:j/4<i
   ·rw[if_pos h5,if_pos (by omega)]
   ·rw[if_neg h5,if_neg (by omega)]
theorem ze3{b:List Int}(hb:Bytes b)(hl:b.length=16)(x1:Int)(x2:Int)(x3:Int)(x4:Int)(x9:Int)(x10:Int)(x11:Int)(x12:Int)(x13:Int)(x14:List Int)(x15:List Int){m:BM}(ok:m.Ok)(p0 p1:Nat)(hp:p1+2*m.P*m.e+m.P*m.o≤128):
  ∀(d i k:Nat),i+d=2*m.P→d<k→q0a 600 k (tab (2*m.P*4) (wG b m p0 p1 i)) x1 x2 x3 x4 ((m.C:Int)) ((m.A:Int)) ((m.e:Int)) ((m.o:Int)) x9 x10 x11 x12 x13 x14 x15 b (((posB m p1 i:Nat):Int)) (((m.e+m.o:Nat):Int)) (bitS b m p1 i) (((2*m.P:Nat):Int)) ((i:Int))=some (tab (2*m.P*4) (wG b m p0 p1 (2*m.P)),(x1,(x2,(x3,(x4,((m.C:Int),((m.A:Int),((m.e:Int),((m.o:Int),(x9,(x10,(x11,(x12,(x13,(x14,(x15,(b,(((posB m p1 (2*m.P):Nat):Int),())))))))))))))))))):=by
 intro d
 induction d with
 |zero=>
  intro i k h1 h2
  obtain⟨k,rfl⟩:∃k',k=k' +1:=⟨k-1,by omega⟩
  obtain rfl:i=2*m.P:=by omega
  unfold q0a q12
  simp only[Int.lt_irrefl,decide_false,cond_false]
 |succ d ih=>
  intro i k h1 h2
  obtain⟨k,rfl⟩:∃k',k=k' +1:=⟨k-1,by omega⟩
  have hP3:=ok.P3
  have he1:=ok.e1
  have ho1:=ok.o1
  have heo:=ok.eo
  have hC7:=ok.C7
  have hA8:=ok.A8
  have hi:i<2*m.P:=by omega
  have i1:(i:Int)<((2*m.P:Nat):Int):=by omega
  have i2:(2*m.P*4)/4=2*m.P:=by omega
  have i3:(i:Int)<((2*m.P:Nat):Int):=by omega
  have i3' :(decide ((0:Int)≤(i:Int))&&decide ((i:Int)<((2*m.P:Nat):Int)))=true:=by simp;omega
  obtain⟨W,hW1,hW2⟩:=wide_end b ok p0 p1 i
  have hrow:y8 4 (y9 (i*4) (tab (2*m.P*4) (wG b m p0 p1 i)))=tab 4 fun c=>e0 b m p0 (i*4+c):=by
   rw[qpe (by omega)]
   refine q01 fun c hc=> ?_
   unfold wG
   rw[if_neg (by omega)]
  have key:=fun a:Int=>ze1 x1 x2 x3 x4 ((m.e:Int)) ((m.o:Int)) x9 x10 x11 x12 x13 x14 x15 b a (((2*m.P:Nat):Int)) ((i:Int)) (C:=m.C) (A:=m.A) (E:=2*m.P) (i:=i) (ex:=m.e+m.o) (bitV b m p1 i) (wG b m p0 p1 i) (fun c=>e0 b m p0 (i*4+c)) W hi (by omega) (by omega) hW1 4 0 600 (by omega) (by omega)
  simp only[Nat.not_lt_zero,and_false,if_false,yq]at key
  have fin:∀(a bt:Int),a=((posB m p1 (i+1):Nat):Int)→bt=bitS b m p1 (i+1)→q0a 600 k (tab (2*m.P*4) (wG b m p0 p1 (i+1))) x1 x2 x3 x4 ((m.C:Int)) ((m.A:Int)) ((m.e:Int)) ((m.o:Int)) x9 x10 x11 x12 x13 x14 x15 b a (((m.e+m.o:Nat):Int)) bt (((2*m.P:Nat):Int)) (((i+1:Nat):Int))=some (tab (2*m.P*4) (wG b m p0 p1 (2*m.P)),(x1,(x2,(x3,(x4,((m.C:Int),((m.A:Int),((m.e:Int),((m.o:Int),(x9,(x10,(x11,(x12,(x13,(x14,(x15,(b,(((posB m p1 (2*m.P):Nat):Int),())))))))))))))))))):=by
   intro a bt e1 e2
   rw[e1,e2]
   exact ih (i+1) k (by omega) (by omega)
  have hs:bitS b m p1 (i+1)=bitV b m p1 i:=by simp[bitS]
  unfold q0a q12
  by_cases he:m.e=1
  ·have hPe:2*m.P*m.e=2*m.P:=by rw[he,Nat.mul_one]
   have hpb:posB m p1 i+1≤128:=by
    unfold posB
    rw[if_pos he]
    omega
   have re:q0t 600 (1:Int) b ((posB m p1 i:Nat):Int)=some (lv b (posB m p1 i) 1,(((posB m p1 i+1:Nat):Int),())):=rd9 (n:=1) hb hl (by omega) hpb
   have e2:lv b (posB m p1 i) 1=bitV b m p1 i:=by
    unfold posB bitV
    rw[if_pos he,if_pos he]
   have e3:posB m p1 (i+1)=posB m p1 i+1:=by
    unfold posB
    rw[if_pos he,if_pos he]
    omega
   have he' :=beqT (show((m.e:Nat):Int)=1 by omega)
   simp only[q0i,i2,i1,i3,decide_true,cond_true,yc,yd,yb,he',re,e2,cond_false,y5,hrow,key]
   by_cases hA:m.A=0
   ·simp only[beqT (show((m.A:Nat):Int)=0 by omega),i3',cond_true,qbd]
    rw[q0n (by omega),zan hW2 hA]
    exact fin _ _ (by rw[e3]) (hs.symm)
   ·simp only[beqF (show((m.A:Nat):Int)≠0 by omega),cond_false]
    rw[q0n (by omega),zic hW2 hA]
    exact fin _ _ (by rw[e3]) (hs.symm)
  ·have he' :=beqF (show((m.e:Nat):Int)≠1 by omega)
   by_cases ho:m.o=1
   ·have ho' :=beqT (show((m.o:Nat):Int)=1 by omega)
    have hm:yv (i:Int) 2=((i%2:Nat):Int):=by rw[tmod_nonneg (by omega)];omega
    have hPo:m.P*m.o=m.P:=by rw[ho,Nat.mul_one]
    by_cases hev:i%2=0
    ·have hpb:posB m p1 i+1≤128:=by
      unfold posB
      rw[if_neg he,if_pos ho]
      omega
     have re:q0t 600 (1:Int) b ((posB m p1 i:Nat):Int)=some (lv b (posB m p1 i) 1,(((posB m p1 i+1:Nat):Int),())):=rd9 (n:=1) hb hl (by omega) hpb
     have e2:lv b (posB m p1 i) 1=bitV b m p1 i:=by
      unfold posB bitV
      rw[if_neg he,if_pos ho,if_neg he,if_pos ho]
      congr 2
      omega
     have e3:posB m p1 (i+1)=posB m p1 i+1:=by
      unfold posB
      rw[if_neg he,if_pos ho,if_neg he,if_pos ho]
      omega
     have hm' :=beqT (show yv (i:Int) 2=0 by omega)
     simp only[q0i,i2,i1,i3,decide_true,cond_true,yc,yd,yb,he',ho',hm',re,e2,cond_false,y5,hrow,key]
     by_cases hA:m.A=0
     ·simp only[beqT (show((m.A:Nat):Int)=0 by omega),i3',cond_true,qbd]
      rw[q0n (by omega),zan hW2 hA]
      exact fin _ _ (by rw[e3]) (hs.symm)
     ·simp only[beqF (show((m.A:Nat):Int)≠0 by omega),cond_false]
      rw[q0n (by omega),zic hW2 hA]
      exact fin _ _ (by rw[e3]) (hs.symm)
    ·have e2:bitS b m p1 i=bitV b m p1 i:=by
      unfold bitS bitV
      rw[if_neg (by omega),if_neg he,if_pos ho,if_neg he,if_pos ho]
      congr 2
      omega
     have e3:posB m p1 (i+1)=posB m p1 i:=by
      unfold posB
      rw[if_neg he,if_pos ho,if_neg he,if_pos ho]
      omega
     have hm' :=beqF (show yv (i:Int) 2≠0 by omega)
     simp only[q0i,i2,i1,i3,decide_true,cond_true,yc,yd,yb,he',ho',hm',e2,cond_false,y5,hrow,key]
     by_cases hA:m.A=0
     ·simp only[beqT (show((m.A:Nat):Int)=0 by omega),i3',cond_true,qbd]
      rw[q0n (by omega),zan hW2 hA]
      exact fin _ _ (by rw[e3]) (hs.symm)
     ·simp only[beqF (show((m.A:Nat):Int)≠0 by omega),cond_false]
      rw[q0n (by omega),zic hW2 hA]
      exact fin _ _ (by rw[e3]) (hs.symm)
   ·have ho' :=beqF (show((m.o:Nat):Int)≠1 by omega)
    have e2:bitS b m p1 i=bitV b m p1 i:=by
     unfold bitS bitV
     rw[if_neg he,if_neg ho,if_neg he,if_neg ho]
     split<;>rfl
    have e3:posB m p1 (i+1)=posB m p1 i:=by
     unfold posB
     rw[if_neg he,if_neg ho,if_neg he,if_neg ho]
    simp only[q0i,i2,i1,i3,decide_true,cond_true,yc,yd,yb,he',ho',e2,cond_false,y5,hrow,key]
    by_cases hA:m.A=0
    ·simp only[beqT (show((m.A:Nat):Int)=0 by omega),i3',cond_true,qbd]
     rw[q0n (by omega),zan hW2 hA]
     exact fin _ _ (by rw[e3]) (hs.symm)
    ·simp only[beqF (show((m.A:Nat):Int)≠0 by omega),cond_false]
     rw[q0n (by omega),zic hW2 hA]
     exact fin _ _ (by rw[e3]) (hs.symm)
def z79(P w i p:Nat):Bool:=(i==0)||((yz p).any fun q=>decide (1≤q)&&(zdy P w q==i))
theorem zju{P w i p:Nat}(hp:1≤p):z79 P w i (p+1)=(z79 P w i p||(zdy P w p==i)):=by
 unfold z79
 rw[List.range_succ,List.any_append]
 simp[hp,Bool.or_assoc]
theorem zmo(P w i:Nat):z79 P w i 1=(i==0):=by
 simp[z79]
theorem beqN(a i:Nat):(((a:Nat):Int)==(i:Int))=(a==i):=by
 by_cases h:a=i
 ·subst h;simp
 ·have:((a:Nat):Int)≠(i:Int):=by omega
  rw[beqF this]
  simp[h]
theorem ze4(x0:List Int)(x2:Int)(x3:Int)(x4:Int)(x5:Int)(x6:Int)(x7:Int)(x8:Int)(x9:Int)(x10:Int)(x12:Int)(x13:Int)(x14:List Int)(x15:List Int){P w i:Nat}(h3:P≤3)(hw:w<64):
  ∀(d p k:Nat),p+d=P→1≤p→d<k→q0v 600 k x0 ((P:Int)) x2 x3 x4 x5 x6 x7 x8 x9 x10 ((w:Int)) x12 x13 x14 x15 ((i:Int)) (z79 P w i p) ((p:Int))=some (z79 P w i P,()):=by
 intro d
 induction d with
 |zero=>
  intro p k h1 hp h2
  obtain⟨k,rfl⟩:∃k',k=k' +1:=⟨k-1,by omega⟩
  obtain rfl:p=P:=by omega
  unfold q0v q34
  simp only[Int.lt_irrefl,decide_false,cond_false]
 |succ d ih=>
  intro p k h1 hp h2
  obtain⟨k,rfl⟩:∃k',k=k' +1:=⟨k-1,by omega⟩
  have i1:(p:Int)<(P:Int):=by omega
  have fin:=ih (p+1) k (by omega) (by omega) (by omega)
  rw[zju hp]at fin
  unfold q0v q34
  simp only[i1,decide_true,cond_true]
  rw[q0n (by omega)]
  cases h:z79 P w i p
  ·rw[h,Bool.false_or]at fin
   simp only[cond_false]
   rw[(anch9 h3 hw hp (by omega)).1]
   simp only[y5,beqN]
   exact fin
  ·rw[h,Bool.true_or]at fin
   simp only[cond_true]
   exact fin
theorem lacks_is(x0:List Int)(x2:Int)(x3:Int)(x4:Int)(x5:Int)(x6:Int)(x7:Int)(x8:Int)(x9:Int)(x10:Int)(x12:Int)(x13:Int)(x14:List Int)(x15:List Int){P w i:Nat}(h1:1≤P)(h3:P≤3)(hw:w<64):q4z 600 x0 (P:Int) x2 x3 x4 x5 x6 x7 x8 x9 x10 (w:Int) x12 x13 x14 x15 (i:Int)=some ((qs4 P w i:Int),()):=by
 unfold q4z
 have h:=ze4 x0 x2 x3 x4 x5 x6 x7 x8 x9 x10 x12 x13 x14 x15 (i:=i) h3 hw (P-1) 1 600 (by omega) (by omega) (by omega)
 rw[zmo,←beqN i 0]at h
 have e1:((1:Nat):Int)=1:=rfl
 have e0:((0:Nat):Int)=0:=rfl
 rw[e1,e0]at h
 rw[h]
 simp only[y5]
 unfold qs4 ancB
 rw[show((i==0)||((yz P).any fun p=>decide (1≤p)&&(zdy P w p==i)))=z79 P w i P from rfl]
 cases z79 P w i P<;>rfl
def z4r(b:List Int)(P w f p2 j:Nat):Int:=lv b (posF P w f p2 j) (f-qs4 P w j)
theorem zgd{b:List Int}(hb:Bytes b)(hl:b.length=16)(x0:List Int)(x1:List Int)(x2:List Int)(x4:Int)(x5:Int)(x6:Int)(x7:Int)(x8:Int)(x9:Int)(x10:Int)(x12:Int)(x14:Int)(x15:Int)(x17:List Int){P w f p2:Nat}(hP1:1≤P)(h3:P≤3)(hw:w<64)(hf:2≤f∧f≤4)(hp:posF P w f p2 16≤128):
  ∀(d i k:Nat),i+d=16→d<k→q3u 600 k x0 x1 x2 ((P:Int)) x4 x5 x6 x7 x8 x9 x10 ((f:Int)) x12 ((w:Int)) x14 x15 (tab 16 (upT i (z4r b P w f p2))) x17 b (((posF P w f p2 i:Nat):Int)) ((i:Int))=some (x0,(x1,(x2,((P:Int),(x4,(x5,(x6,(x7,(x8,(x9,(x10,((f:Int),(x12,((w:Int),(x14,(x15,(tab 16 (z4r b P w f p2),(x17,(b,(((posF P w f p2 16:Nat):Int),())))))))))))))))))))):=by
 intro d
 induction d with
 |zero=>
  intro i k h1 h2
  obtain⟨k,rfl⟩:∃k',k=k' +1:=⟨k-1,by omega⟩
  obtain rfl:i=16:=by omega
  unfold q3u q86
  have:¬(((16:Nat):Int)<16):=by omega
  simp only[this,decide_false,cond_false,zal]
 |succ d ih=>
  intro i k h1 h2
  obtain⟨k,rfl⟩:∃k',k=k' +1:=⟨k-1,by omega⟩
  have i1:(i:Int)<16:=by omega
  have hm:=zmk P w f p2 (show i+1≤16 by omega)
  have hle:=lessV_le P w i
  have en:y0 .i64 ((f:Int)-(qs4 P w i:Int))=((f-qs4 P w i:Nat):Int):=by
   rw[w64 (by omega) (by omega)]
   omega
  have e1:posF P w f p2 (i+1)=posF P w f p2 i+(f-qs4 P w i):=rfl
  unfold q3u q86
  simp only[i1,decide_true,cond_true,yc,yd,yb,lacks_is _ _ _ _ _ _ _ _ _ _ _ _ _ _ hP1 h3 hw,y5,en]
  rw[rd9 hb hl (by omega) (by omega)]
  simp only[y5]
  rw[q0n (by omega),←e1,show lv b (posF P w f p2 i) (f-qs4 P w i)=z4r b P w f p2 i from rfl,zak]
  exact ih (i+1) k (by omega) (by omega)
def posS(s p3 i:Nat):Nat:=p3+(if i=0 then 0 else i*s-1)
def secV(b:List Int)(s p3 i:Nat):Int:=if s=0 then 0 else lv b (posS s p3 i) (s-if i=0 then 1 else 0)
theorem zid(i:Nat):yw 1 ((i+1:Nat):Int)=((if i=0 then 1 else 0:Nat):Int):=by
 by_cases h:i=0
 ·subst h;rfl
 ·rw[q1r (by omega),if_neg h,Int.ediv_eq_zero_of_lt (by omega) (by omega)]
  rfl
theorem zmp{s p3 i:Nat}(hs:2≤s):posS s p3 (i+1)=posS s p3 i+(s-if i=0 then 1 else 0):=by
 unfold posS
 rw[if_neg (by omega),Nat.succ_mul]
 by_cases h:i=0
 ·subst h
  simp
 ·rw[if_neg h,if_neg h]
  have:1*1≤i*s:=Nat.mul_le_mul (by omega) (by omega)
  omega
theorem zge{b:List Int}(hb:Bytes b)(hl:b.length=16)(x0:List Int)(x1:List Int)(x2:List Int)(x3:Int)(x4:Int)(x5:Int)(x6:Int)(x7:Int)(x8:Int)(x9:Int)(x10:Int)(x11:Int)(x13:Int)(x14:Int)(x15:Int)(x16:List Int){s p3:Nat}(hs:2≤s∧s≤3)(hp:p3+(16*s-1)≤128):
  ∀(d i k:Nat),i+d=16→d<k→q3v 600 k x0 x1 x2 x3 x4 x5 x6 x7 x8 x9 x10 x11 ((s:Int)) x13 x14 x15 x16 (tab 16 (upT i (secV b s p3))) b (((posS s p3 i:Nat):Int)) ((i:Int))=some (x0,(x1,(x2,(x3,(x4,(x5,(x6,(x7,(x8,(x9,(x10,(x11,((s:Int),(x13,(x14,(x15,(x16,(tab 16 (secV b s p3),())))))))))))))))))):=by
 intro d
 induction d with
 |zero=>
  intro i k h1 h2
  obtain⟨k,rfl⟩:∃k',k=k' +1:=⟨k-1,by omega⟩
  obtain rfl:i=16:=by omega
  unfold q3v q87
  have:¬(((16:Nat):Int)<16):=by omega
  simp only[this,decide_false,cond_false,zal]
 |succ d ih=>
  intro i k h1 h2
  obtain⟨k,rfl⟩:∃k',k=k' +1:=⟨k-1,by omega⟩
  have i1:(i:Int)<16:=by omega
  have hle:(if i=0 then 1 else 0:Nat)≤1:=by split<;>omega
  have e1:=zmp (p3:=p3) (i:=i) hs.1
  have hm:posS s p3 (i+1)≤128:=by
   unfold posS
   rw[if_neg (by omega)]
   have:=Nat.mul_le_mul_right s (show i+1≤16 by omega)
   omega
  have hz:(!(((i+1:Nat):Int)==0))=true:=by
   rw[beqF (by omega)]
   rfl
  have ew:y0 .i64 (((if i=0 then 1 else 0:Nat):Int))=((if i=0 then 1 else 0:Nat):Int):=w64 (by omega) (by omega)
  have en:y0 .i64 ((s:Int)-((if i=0 then 1 else 0:Nat):Int))=((s-(if i=0 then 1 else 0):Nat):Int):=by
   rw[w64 (by omega) (by omega)]
   omega
  unfold q3v q87
  simp only[i1,decide_true,cond_true,yc,yd,yb]
  rw[q0n (by omega)]
  simp only[hz,cond_true,zid,ew,en]
  rw[rd9 hb hl (by omega) (by omega)]
  simp only[y5]
  have es:secV b s p3 i=lv b (posS s p3 i) (s-(if i=0 then 1 else 0)):=by
   unfold secV
   exact if_neg (by omega)
  rw[←e1,←es,zak]
  exact ih (i+1) k (by omega) (by omega)
end Go.AE.Gn
set_option linter.unusedVariables false
set_option linter.unusedSimpArgs false
namespace Go.AE.Gn
open Go Go.AE
def bp0(m:BM):Nat:=m.base+m.W+m.T+m.H
def bp1(m:BM):Nat:=bp0 m+6*m.P*m.C+2*m.P*m.A
def bp2(m:BM):Nat:=bp1 m+2*m.P*m.e+m.P*m.o
def wN(b:List Int)(m:BM):Nat:=(lv b m.base m.W).toNat
def tN(b:List Int)(m:BM):Int:=lv b (m.base+m.W) m.T
def cN(b:List Int)(m:BM):Int:=lv b (m.base+m.W+m.T) m.H
def bp3(b:List Int)(m:BM):Nat:=posF m.P (wN b m) m.f (bp2 m) 16
def endF(b:List Int)(m:BM)(j:Nat):Int:=eF b m (bp0 m) (bp1 m) j
def firF(b:List Int)(m:BM)(j:Nat):Int:=z4r b m.P (wN b m) m.f (bp2 m) j
def secF(b:List Int)(m:BM)(j:Nat):Int:=secV b m.s (bp3 b m) j
theorem wN_is(b:List Int){m:BM}(ok:m.Ok):lv b m.base m.W=(wN b m:Int)∧wN b m<64:=by
 have h:=q5t b m.base m.W
 have h2:(2:Int)^m.W≤2^6:=q3h ok.W6
 unfold wN
 omega
theorem bp3_le(b:List Int){m:BM}(ok:m.Ok):bp3 b m=bp2 m+(16*m.f-m.P)∧bp3 b m+(if m.s=0 then 0 else 16*m.s-1)≤128:=by
 have h:=posF_16 ok.P1 ok.P3 (wN_is b ok).2 ok.f2 ok.f4 (bp2 m)
 have ha:=ok.all
 refine⟨h, ?_⟩
 unfold bp3
 rw[h]
 unfold bp2 bp1 bp0
 omega
theorem sq0:q0l=tab 16 fun _=>0:=by decide+kernel
theorem posB_end{m:BM}(ok:m.Ok)(p1:Nat):posB m p1 (2*m.P)=p1+2*m.P*m.e+m.P*m.o:=by
 unfold posB
 have h1:=ok.e1
 have h2:=ok.o1
 have h3:=ok.eo
 by_cases he:m.e=1
 ·have ho:m.o=0:=by omega
  rw[if_pos he,he,ho]
  omega
 ·rw[if_neg he]
  have he0:m.e=0:=by omega
  rw[he0]
  by_cases ho:m.o=1
  ·rw[if_pos ho,ho]
   omega
  ·have ho0:m.o=0:=by omega
   rw[if_neg ho,ho0]
   omega
theorem widen_is{b:List Int}(hb:Bytes b)(hl:b.length=16)(x1 x2 x3 x4 x9 x10 x11 x12 x13:Int)(x14 x15:List Int){m:BM}(ok:m.Ok)(p0 p1:Nat)(hp:p1+2*m.P*m.e+m.P*m.o≤128):
  q1v 600 (tab (2*m.P*4) (e0 b m p0)) x1 x2 x3 x4 (m.C:Int) (m.A:Int) (m.e:Int) (m.o:Int) x9 x10 x11 x12 x13 x14 x15 b ((p1:Nat):Int)=some (tab (2*m.P*4) (eF b m p0 p1),(((p1+2*m.P*m.e+m.P*m.o:Nat):Int),())):=by
 unfold q1v
 have h1:=ok.e1
 have h2:=ok.o1
 have h3:=ok.P3
 have e1:y0 .i64 ((m.e:Int)+(m.o:Int))=((m.e+m.o:Nat):Int):=by rw[w64 (by omega) (by omega),Int.natCast_add]
 have i2:(2*m.P*4)/4=2*m.P:=by omega
 have h:=ze3 hb hl x1 x2 x3 x4 x9 x10 x11 x12 x13 x14 x15 ok p0 p1 hp (2*m.P) 0 600 (by omega) (by omega)
 have s1:tab (2*m.P*4) (wG b m p0 p1 0)=tab (2*m.P*4) (e0 b m p0):=q01 fun j hj=>if_neg (by omega)
 have s2:posB m p1 0=p1:=by
  unfold posB
  split
  ·rfl
  ·split<;>rfl
 have s3:bitS b m p1 0=0:=rfl
 have s4:tab (2*m.P*4) (wG b m p0 p1 (2*m.P))=tab (2*m.P*4) (eF b m p0 p1):=q01 fun j hj=>if_pos (by omega)
 rw[s1,s2,s3,s4,posB_end ok]at h
 simp only[q0i,i2,e1]
 rw[show(0:Int)=((0:Nat):Int)from rfl]at h⊢
 rw[h]
 rfl
theorem read9_is{b:List Int}(hb:Bytes b)(hl:b.length=16){k:Nat}(hk:k<8){m:BM}(hm:bmOf k=m):
  qg0 600 b (k:Int)=some ((m.P:Int),((m.W:Int),((m.T:Int),((m.H:Int),((m.C:Int),((m.A:Int),((m.e:Int),((m.o:Int),((m.f:Int),((m.s:Int),((wN b m:Int),(tN b m,(cN b m,(tab (2*m.P*4) (endF b m),(tab 16 (firF b m),(tab 16 (secF b m),())))))))))))))))):=by
 have ok:m.Ok:=by rw[←hm];exact bm_ok hk
 have hbase:m.base=k+1:=by rw[←hm];rfl
 obtain⟨hP1,hP3,hW6,hT2,hH1,hC1,hC7,hA8,he1,ho1,heo,hCe,hAe,hf2,hf4,hs3,hs0,hHs,hb8,hall⟩:=ok
 have ok:m.Ok:=⟨hP1,hP3,hW6,hT2,hH1,hC1,hC7,hA8,he1,ho1,heo,hCe,hAe,hf2,hf4,hs3,hs0,hHs,hb8,hall⟩
 obtain⟨hw,hw64⟩:=wN_is b ok
 obtain⟨h3e,h3⟩:=bp3_le b ok
 unfold qg0 qjg
 have n8:bctable_ModesT298.length/10=8:=rfl
 have i1:(k:Int)<((8:Nat):Int):=by omega
 have g0:(z0o m).getD 0 0=(m.P:Int):=rfl
 have g1:(z0o m).getD 1 0=(m.W:Int):=rfl
 have g2:(z0o m).getD 2 0=(m.T:Int):=rfl
 have g3:(z0o m).getD 3 0=(m.H:Int):=rfl
 have g4:(z0o m).getD 4 0=(m.C:Int):=rfl
 have g5:(z0o m).getD 5 0=(m.A:Int):=rfl
 have g6:(z0o m).getD 6 0=(m.e:Int):=rfl
 have g7:(z0o m).getD 7 0=(m.o:Int):=rfl
 have g8:(z0o m).getD 8 0=(m.f:Int):=rfl
 have g9:(z0o m).getD 9 0=(m.s:Int):=rfl
 have e2:y0 .i64 (2*(m.P:Int))=((2*m.P:Nat):Int):=by rw[w64 (by omega) (by omega)];omega
 have r1:=rd9 hb hl (a:=m.base) (n:=m.W) (by omega) (by omega)
 have r2:=rd9 hb hl (a:=m.base+m.W) (n:=m.T) (by omega) (by omega)
 have r3:=rd9 hb hl (a:=m.base+m.W+m.T) (n:=m.H) (by omega) (by omega)
 have i2:((2*m.P:Nat):Int)≤1099511627776:=by omega
 have l0:=fun x0 x1 x16 x17 x3 x4 x5 x6 x9 x10 x11 x12 x13 x14 x15=>zgc hb hl x0 x1 x3 x4 x5 x6 x9 x10 x11 x12 x13 x14 x15 x16 x17 ok (p0:=bp0 m) (by unfold bp0;omega) 595
 have l1:=fun x1 x2 x3 x4 x9 x10 x11 x12 x13 x14 x15=>widen_is hb hl x1 x2 x3 x4 x9 x10 x11 x12 x13 x14 x15 ok (bp0 m) (bp1 m) (by unfold bp1 bp0;omega)
 have l4:=zgd hb hl q0l q0l (tab (2*m.P*4) (eF b m (bp0 m) (bp1 m))) ((m.W:Int)) ((m.T:Int)) ((m.H:Int)) ((m.C:Int)) ((m.A:Int)) ((m.e:Int)) ((m.o:Int)) ((m.s:Int)) (lv b (m.base+m.W) m.T) (lv b (m.base+m.W+m.T) m.H) q0l (P:=m.P) (w:=wN b m) (f:=m.f) (p2:=bp2 m) hP1 hP3 hw64 ⟨hf2,hf4⟩ (by have:=h3;unfold bp3 at this;omega) 16 0 600 (by omega) (by omega)
 rw[qpf,←sq0,show posF m.P (wN b m) m.f (bp2 m) 0=bp2 m from rfl,show((0:Nat):Int)=0 from rfl]at l4
 simp only[n8,i1,decide_true,cond_true,yc,yd,yb,y5,row_is hk,hm,g0,g1,g2,g3,g4,g5,g6,g7,g8,g9]
 rw[q0n (by omega),←hbase]
 simp only[r1,r2,r3,hw,y5,e2,i2,decide_true,yc,yd,cond_true,yb,tab_rep]
 have a0:m.base+m.W+m.T+m.H=bp0 m:=rfl
 have a1:bp0 m+6*m.P*m.C+2*m.P*m.A=bp1 m:=rfl
 have a2:bp1 m+2*m.P*m.e+m.P*m.o=bp2 m:=rfl
 rw[a1]at l0
 rw[a2]at l1
 simp only[a0]
 have l0' :=l0 q0l q0l q0l q0l (m.P:Int) (m.W:Int) (m.T:Int) (m.H:Int) (m.e:Int) (m.o:Int) (m.f:Int) (m.s:Int) (wN b m:Int) (lv b (m.base+m.W) m.T) (lv b (m.base+m.W+m.T) m.H)
 rw[show(595+5:Nat)=600 from rfl]at l0'
 simp only[l0',y5,l1,l4]
 by_cases hs:m.s=0
 ·have:¬(0:Int)<(m.s:Int):=by omega
  simp only[this,decide_false,cond_false]
  rw[show q0l=tab 16 (secF b m)from sq0.trans (q01 fun j hj=>by
   unfold secF secV
   rw[if_pos hs])]
  rfl
 ·have:(0:Int)<(m.s:Int):=by omega
  have l6:=zge hb hl q0l q0l (tab (2*m.P*4) (eF b m (bp0 m) (bp1 m))) ((m.P:Int)) ((m.W:Int)) ((m.T:Int)) ((m.H:Int)) ((m.C:Int)) ((m.A:Int)) ((m.e:Int)) ((m.o:Int)) ((m.f:Int)) ((wN b m:Int)) (lv b (m.base+m.W) m.T) (lv b (m.base+m.W+m.T) m.H) (tab 16 (z4r b m.P (wN b m) m.f (bp2 m))) (s:=m.s) (p3:=bp3 b m) (by omega) (by rw[if_neg hs]at h3;exact h3) 16 0 600 (by omega) (by omega)
  rw[qpf,←sq0,show posS m.s (bp3 b m) 0=posF m.P (wN b m) m.f (bp2 m) 16 from rfl,show((0:Nat):Int)=0 from rfl]at l6
  simp only[this,decide_true,cond_true,l6,y5]
  rfl
def wL(n:Nat):List Int:=if n=2 then[0,21,43,64]else if n=3 then qaw else qax
def mx(a z p:Int)(n:Nat):Int:=mixV a z ((wL n).getD p.toNat 0) 64 32
theorem zmq:((yz 5).all fun n=>decide (n<2)||((wL n).length==2^n&&((yz (2^n)).all fun p=>decide (0≤(wL n).getD p 0)&&decide ((wL n).getD p 0≤64))&&
  (q9k 600 (n:Int)==some (wL n,())&&qjb 600 (n:Int)==some (wL n,()))))=true:=by decide+kernel
theorem wL_is{n:Nat}(h:2≤n∧n≤4):(wL n).length=2^n∧(∀p,p<2^n→0≤(wL n).getD p 0∧(wL n).getD p 0≤64)∧q9k 600 (n:Int)=some (wL n,())∧qjb 600 (n:Int)=some (wL n,()):=by
 have:=List.all_eq_true.1 zmq n (by simp;omega)
 have h2:¬n<2:=by omega
 simp only[h2,decide_false,Bool.false_or,yl,beq_iff_eq]at this
 obtain⟨⟨h1,h3⟩,h4,h5⟩:=this
 refine⟨h1,fun p hp=> ?_,h4,h5⟩
 have:=List.all_eq_true.1 h3 p (by simpa using hp)
 simpa using this
theorem zie{a z p:Int}{n:Nat}(ha:0≤a∧a≤255)(hz:0≤z∧z≤255)(hn:2≤n∧n≤4)(hp:0≤p∧p<2^n):0≤mx a z p n∧mx a z p n≤255:=by
 have hp2:p.toNat<2^n:=by
  have:((p.toNat:Nat):Int)<((2^n:Nat):Int):=by
   rw[Int.toNat_of_nonneg hp.1,we]
   exact hp.2
  omega
 have hw:=(wL_is hn).2.1 _ hp2
 unfold mx mixV
 generalize (wL n).getD p.toNat 0=w at*
 have m1:a*(64-w)≤255*(64-w):=Int.mul_le_mul_of_nonneg_right ha.2 (by omega)
 have m2:z*w≤255*w:=Int.mul_le_mul_of_nonneg_right hz.2 (by omega)
 have m3:0≤a*(64-w):=Int.mul_nonneg ha.1 (by omega)
 have m4:0≤z*w:=Int.mul_nonneg hz.1 hw.1
 omega
theorem mix9{a z p:Int}{n:Nat}(ha:0≤a∧a≤255)(hz:0≤z∧z≤255)(hn:2≤n∧n≤4)(hp:0≤p∧p<2^n):
  q37 600 a z p (n:Int)=some (mx a z p n,())∧zcx 600 a z p (n:Int)=some (mx a z p n,()):=by
 obtain⟨h1,h2,h3,h4⟩:=wL_is hn
 have hp2:p.toNat<2^n:=by
  have:((p.toNat:Nat):Int)<((2^n:Nat):Int):=by
   rw[Int.toNat_of_nonneg hp.1,we]
   exact hp.2
  omega
 have hw:=h2 _ hp2
 have i1:p<((2^n:Nat):Int):=by rw[we];exact hp.2
 obtain⟨m1,m2,_⟩:=zi6 600 (a:=a) (b:=z) (k:=(wL n).getD p.toNat 0) (o:=64) (add:=32) (by omega) (by omega) (by omega) (by omega) (by omega) (by omega)
 unfold q37 zcx
 rw[h3,h4]
 simp only[y5,h1,hp.1,i1,decide_true,yd,cond_true,m1,m2]
 exact⟨rfl,rfl⟩
theorem q25(b:List Int){m:BM}(ok:m.Ok)(j:Nat):0≤endF b m j∧endF b m j≤255:=by
 have h1:=ok.Ce
 have h2:=ok.Ae
 have h3:=ok.C1
 unfold endF eF
 split
 ·split
  ·omega
  ·exact q0p (by omega) _
 ·exact q0p (by omega) _
theorem z86(b:List Int){m:BM}(ok:m.Ok)(j:Nat):0≤firF b m j∧firF b m j<2^m.f:=by
 have h:=q5t b (posF m.P (wN b m) m.f (bp2 m) j) (m.f-qs4 m.P (wN b m) j)
 have h2:(2:Int)^(m.f-qs4 m.P (wN b m) j)≤2^m.f:=q3h (by omega)
 unfold firF z4r
 omega
theorem z87(b:List Int){m:BM}(ok:m.Ok)(hs:m.s≠0)(j:Nat):0≤secF b m j∧secF b m j<2^m.s:=by
 have h:=q5t b (posS m.s (bp3 b m) j) (m.s-if j=0 then 1 else 0)
 have h2:(2:Int)^(m.s-if j=0 then 1 else 0)≤2^m.s:=q3h (by split<;>omega)
 unfold secF secV
 rw[if_neg hs]
 omega
def colP(b:List Int)(m:BM)(i:Nat):Int×Nat:=if m.s≠0∧cN b m=1 then(secF b m i,m.s)else(firF b m i,m.f)
def alpP(b:List Int)(m:BM)(i:Nat):Int×Nat:=if m.s≠0∧cN b m≠1 then(secF b m i,m.s)else(firF b m i,m.f)
def aF(b:List Int)(m:BM)(i c:Nat):Int:=endF b m (2*qbe m.P (wN b m) i*4+c)
def z9F(b:List Int)(m:BM)(i c:Nat):Int:=endF b m ((2*qbe m.P (wN b m) i+1)*4+c)
def preV(b:List Int)(m:BM)(i c:Nat):Int:=
 if c=3 then mx (aF b m i 3) (z9F b m i 3) (alpP b m i).1 (alpP b m i).2 else mx (aF b m i c) (z9F b m i c) (colP b m i).1 (colP b m i).2
def zjv(t:Int)(g:Nat→Int)(c:Nat):Int:=if 0<t then(if c=t.toNat-1 then g 3 else if c=3 then g (t.toNat-1)else g c)else g c
def texV(b:List Int)(m:BM)(i c:Nat):Int:=zjv (tN b m) (preV b m i) c
theorem zmr(b:List Int){m:BM}(ok:m.Ok)(i:Nat):(2≤(colP b m i).2∧(colP b m i).2≤4)∧(0≤(colP b m i).1∧(colP b m i).1<2^(colP b m i).2):=by
 have h1:=ok.f2
 have h2:=ok.f4
 have h3:=ok.s3
 have h4:=ok.s0
 unfold colP
 by_cases h:m.s≠0∧cN b m=1
 ·rw[if_pos h]
  exact⟨by simp only;omega,z87 b ok h.1 i⟩
 ·rw[if_neg h]
  exact⟨by simp only;omega,z86 b ok i⟩
theorem zms(b:List Int){m:BM}(ok:m.Ok)(i:Nat):(2≤(alpP b m i).2∧(alpP b m i).2≤4)∧(0≤(alpP b m i).1∧(alpP b m i).1<2^(alpP b m i).2):=by
 have h1:=ok.f2
 have h2:=ok.f4
 have h3:=ok.s3
 have h4:=ok.s0
 unfold alpP
 by_cases h:m.s≠0∧cN b m≠1
 ·rw[if_pos h]
  exact⟨by simp only;omega,z87 b ok h.1 i⟩
 ·rw[if_neg h]
  exact⟨by simp only;omega,z86 b ok i⟩
theorem qx3(b:List Int){m:BM}(ok:m.Ok)(i c:Nat):0≤preV b m i c∧preV b m i c≤255:=by
 obtain⟨h1,h2⟩:=zmr b ok i
 obtain⟨h3,h4⟩:=zms b ok i
 unfold preV
 split
 ·exact zie (q25 b ok _) (q25 b ok _) h3 h4
 ·exact zie (q25 b ok _) (q25 b ok _) h1 h2
theorem tN_bound(b:List Int){m:BM}(ok:m.Ok):0≤tN b m∧tN b m<4:=by
 have h:=q5t b (m.base+m.W) m.T
 have h2:(2:Int)^m.T≤2^2:=q3h ok.T2
 unfold tN
 omega
theorem zjw(b:List Int){m:BM}(ok:m.Ok)(i c:Nat):0≤texV b m i c∧texV b m i c≤255:=by
 unfold texV zjv
 split
 ·split
  ·exact qx3 b ok _ _
  ·split<;>exact qx3 b ok _ _
 ·exact qx3 b ok _ _
theorem qon(x0:List Int)(x1:Int)(x2:Int)(x3:Int)(x4:Int)(x5:Int)(x6:Int)(x7:Int)(x8:Int)(x9:Int)(x10:Int)(x11:Int)(x12:Int)(x13:Int)(x14:List Int)(x15:List Int)(x16:List Int)(x21:Int)(x22:Int){a z g:Nat→Int}{p:Int}{n:Nat}(hg:∀c,c<3→q37 600 (a c) (z c) p (n:Int)=some (g c,())):
  ∀(d c k:Nat),c+d=3→d<k→q0e 600 k x0 x1 x2 x3 x4 x5 x6 x7 x8 x9 x10 x11 x12 x13 x14 x15 x16 (tab 4 a) (tab 4 z) p ((n:Int)) x21 x22 (tab 4 (upT c g)) ((c:Int))=some (x0,(x1,(x2,(x3,(x4,(x5,(x6,(x7,(x8,(x9,(x10,(x11,(x12,(x13,(x14,(x15,(x16,(tab 4 a,(tab 4 z,(x21,(x22,(tab 4 (upT 3 g),())))))))))))))))))))))):=by
 intro d
 induction d with
 |zero=>
  intro c k h1 h2
  obtain⟨k,rfl⟩:∃k',k=k' +1:=⟨k-1,by omega⟩
  obtain rfl:c=3:=by omega
  unfold q0e q35
  have:¬(((3:Nat):Int)<3):=by omega
  simp only[this,decide_false,cond_false]
 |succ d ih=>
  intro c k h1 h2
  obtain⟨k,rfl⟩:∃k',k=k' +1:=⟨k-1,by omega⟩
  have i1:(c:Int)<3:=by omega
  have i2:(c:Int)<4:=by omega
  unfold q0e q35
  simp only[i1,i2,decide_true,cond_true,yc,yd,yb,q1o (show c<4 by omega),hg c (by omega),y5,zak]
  rw[q0n (by omega)]
  exact ih (c+1) k (by omega) (by omega)
theorem set3(g:Nat→Int):(tab 4 (upT 3 g)).set 3 (g 3)=tab 4 g:=by
 rw[zak,zal]
theorem zmt{t:Int}(ht:0≤t∧t<4)(g:Nat→Int)(h:0<t):
  yx (yx (tab 4 g) 3 ((tab 4 g).getD (t-1).toNat 0)) (t-1).toNat ((tab 4 g).getD 3 0)=tab 4 (zjv t g):=by
 have e:(t-1).toNat=t.toNat-1:=by omega
 rw[e,q1o (by omega),q1o (by omega),qbd,qbd]
 refine q01 fun j hj=> ?_
 unfold zjv
 rw[if_pos h]
theorem texel_is(b:List Int){m:BM}(ok:m.Ok){i:Nat}(hi:i<16):
  q50 600 (tab (2*m.P*4) (endF b m)) (m.P:Int) (m.W:Int) (m.T:Int) (m.H:Int) (m.C:Int) (m.A:Int) (m.e:Int) (m.o:Int) (m.f:Int) (m.s:Int) (wN b m:Int) (tN b m) (cN b m) (tab 16 (firF b m)) (tab 16 (secF b m)) (i:Int)=some (tab 4 (texV b m i),()):=by
 obtain⟨q1,_,q3⟩:=part9 ok.P1 ok.P3 (wN_is b ok).2 hi
 have hP3:=ok.P3
 have ht:=tN_bound b ok
 have hcol:=zmr b ok i
 have halp:=zms b ok i
 have i2:(2*m.P*4)/4=2*m.P:=by omega
 have e1:y0 .i64 (2*((qbe m.P (wN b m) i:Nat):Int))=((2*qbe m.P (wN b m) i:Nat):Int):=by rw[w64 (by omega) (by omega)];omega
 have i3:((2*qbe m.P (wN b m) i:Nat):Int)<((2*m.P:Nat):Int):=by omega
 have i4:((2*qbe m.P (wN b m) i+1:Nat):Int)<((2*m.P:Nat):Int):=by omega
 have i5:(i:Int)<16:=by omega
 have r1:y8 4 (y9 (2*qbe m.P (wN b m) i*4) (tab (2*m.P*4) (endF b m)))=tab 4 (aF b m i):=qpe (by omega)
 have r2:y8 4 (y9 ((2*qbe m.P (wN b m) i+1)*4) (tab (2*m.P*4) (endF b m)))=tab 4 (z9F b m i):=qpe (by omega)
 have fin:(bif decide ((0:Int)<tN b m)then
   (let v:Int:=(y0 .i64 (tN b m-(1:Int)))
   let b1:Bool:=((decide ((0:Int)≤v))&&(decide (v<(4:Int))))
   cond b1
    (cond b1
     (some ((yx (yx (tab 4 (preV b m i)) 3 (y7 (tab 4 (preV b m i)) (y6 v) (0:Int))) (y6 v) (y7 (tab 4 (preV b m i)) 3 (0:Int))),()))
     (none))
    (none))
   else some (tab 4 (preV b m i),()))=some (tab 4 (texV b m i),()):=by
  by_cases h:0<tN b m
  ·have ew:y0 .i64 (tN b m-1)=tN b m-1:=w64 (by omega) (by omega)
   have j1:(0:Int)≤tN b m-1:=by omega
   have j2:tN b m-1<4:=by omega
   simp only[h,decide_true,cond_true,ew,j1,j2,yd,zmt ht _ h]
   rfl
  ·simp only[h,decide_false,cond_false]
   rw[q01 fun j hj=>show preV b m i j=texV b m i j by
    unfold texV zjv
    rw[if_neg h]]
 unfold q50
 simp only[q1,y5,q0i,i2,e1]
 rw[q0n (by omega)]
 simp only[i3,i4,i5,r1,r2,decide_true,cond_true,yc,yd,yb,q1o hi]
 by_cases hs:m.s=0
 ·have g1:¬(0:Int)<(m.s:Int):=by omega
  have hc1:colP b m i=(firF b m i,m.f):=if_neg (by omega)
  have ha1:alpP b m i=(firF b m i,m.f):=if_neg (by omega)
  rw[hc1]at hcol
  rw[ha1]at halp
  have g2:=beqF (show cN b m≠1 by
   have:=q5t b (m.base+m.W+m.T) m.H
   rw[ok.Hs hs]at this
   unfold cN
   rw[ok.Hs hs]
   omega)
  have l0:=qon (tab (2*m.P*4) (endF b m)) ((m.P:Int)) ((m.W:Int)) ((m.T:Int)) ((m.H:Int)) ((m.C:Int)) ((m.A:Int)) ((m.e:Int)) ((m.o:Int)) ((m.f:Int)) ((m.s:Int)) ((wN b m:Int)) (tN b m) (cN b m) (tab 16 (firF b m)) (tab 16 (secF b m)) ([0,0,0,0]) (firF b m i) ((m.f:Int)) (a:=aF b m i) (z:=z9F b m i) (g:=preV b m i) (p:=firF b m i) (n:=m.f) (fun c hc=>by
   have:=(mix9 (q25 b ok (2*qbe m.P (wN b m) i*4+c)) (q25 b ok ((2*qbe m.P (wN b m) i+1)*4+c)) hcol.1 hcol.2).1
   unfold preV
   rw[if_neg (by omega),hc1]
   exact this) 3 0 600 (by omega) (by omega)
  have m3:=(mix9 (q25 b ok (2*qbe m.P (wN b m) i*4+3)) (q25 b ok ((2*qbe m.P (wN b m) i+1)*4+3)) halp.1 halp.2).1
  have p3:mx (aF b m i 3) (z9F b m i 3) (firF b m i) (m.f)=preV b m i 3:=by
   unfold preV
   rw[if_pos rfl,ha1]
  change q37 600 (aF b m i 3) (z9F b m i 3) (firF b m i) (m.f:Int)=some (mx (aF b m i 3) (z9F b m i 3) (firF b m i) (m.f),())at m3
  rw[p3]at m3
  rw[qpf]at l0
  rw[show((0:Nat):Int)=0 from rfl,show(tab 4 fun _=>0)=[0,0,0,0]from rfl]at l0
  simp only[g1,g2,decide_true,decide_false,cond_true,cond_false,l0,y5,q1o (show 3<4 by omega),m3]
  rw[set3 (preV b m i)]
  exact fin
 ·have g1:(0:Int)<(m.s:Int):=by omega
  by_cases hch:cN b m=1
  ·have g2:=beqT hch
   have hc1:colP b m i=(secF b m i,m.s):=if_pos ⟨hs,hch⟩
   have ha1:alpP b m i=(firF b m i,m.f):=if_neg (fun h=>h.2 hch)
   rw[hc1]at hcol
   rw[ha1]at halp
   have l0:=qon (tab (2*m.P*4) (endF b m)) ((m.P:Int)) ((m.W:Int)) ((m.T:Int)) ((m.H:Int)) ((m.C:Int)) ((m.A:Int)) ((m.e:Int)) ((m.o:Int)) ((m.f:Int)) ((m.s:Int)) ((wN b m:Int)) (tN b m) (cN b m) (tab 16 (firF b m)) (tab 16 (secF b m)) ([0,0,0,0]) (firF b m i) ((m.f:Int)) (a:=aF b m i) (z:=z9F b m i) (g:=preV b m i) (p:=secF b m i) (n:=m.s) (fun c hc=>by
    have:=(mix9 (q25 b ok (2*qbe m.P (wN b m) i*4+c)) (q25 b ok ((2*qbe m.P (wN b m) i+1)*4+c)) hcol.1 hcol.2).1
    unfold preV
    rw[if_neg (by omega),hc1]
    exact this) 3 0 600 (by omega) (by omega)
   have m3:=(mix9 (q25 b ok (2*qbe m.P (wN b m) i*4+3)) (q25 b ok ((2*qbe m.P (wN b m) i+1)*4+3)) halp.1 halp.2).1
   have p3:mx (aF b m i 3) (z9F b m i 3) (firF b m i) (m.f)=preV b m i 3:=by
    unfold preV
    rw[if_pos rfl,ha1]
   change q37 600 (aF b m i 3) (z9F b m i 3) (firF b m i) (m.f:Int)=some (mx (aF b m i 3) (z9F b m i 3) (firF b m i) (m.f),())at m3
   rw[p3]at m3
   rw[qpf]at l0
   rw[show((0:Nat):Int)=0 from rfl,show(tab 4 fun _=>0)=[0,0,0,0]from rfl]at l0
   simp only[g1,g2,decide_true,decide_false,cond_true,cond_false,l0,y5,q1o (show 3<4 by omega),m3]
   rw[set3 (preV b m i)]
   exact fin
  ·have g2:=beqF hch
   have hc1:colP b m i=(firF b m i,m.f):=if_neg (fun h=>hch h.2)
   have ha1:alpP b m i=(secF b m i,m.s):=if_pos ⟨hs,hch⟩
   rw[hc1]at hcol
   rw[ha1]at halp
   have l0:=qon (tab (2*m.P*4) (endF b m)) ((m.P:Int)) ((m.W:Int)) ((m.T:Int)) ((m.H:Int)) ((m.C:Int)) ((m.A:Int)) ((m.e:Int)) ((m.o:Int)) ((m.f:Int)) ((m.s:Int)) ((wN b m:Int)) (tN b m) (cN b m) (tab 16 (firF b m)) (tab 16 (secF b m)) ([0,0,0,0]) (secF b m i) ((m.s:Int)) (a:=aF b m i) (z:=z9F b m i) (g:=preV b m i) (p:=firF b m i) (n:=m.f) (fun c hc=>by
    have:=(mix9 (q25 b ok (2*qbe m.P (wN b m) i*4+c)) (q25 b ok ((2*qbe m.P (wN b m) i+1)*4+c)) hcol.1 hcol.2).1
    unfold preV
    rw[if_neg (by omega),hc1]
    exact this) 3 0 600 (by omega) (by omega)
   have m3:=(mix9 (q25 b ok (2*qbe m.P (wN b m) i*4+3)) (q25 b ok ((2*qbe m.P (wN b m) i+1)*4+3)) halp.1 halp.2).1
   have p3:mx (aF b m i 3) (z9F b m i 3) (secF b m i) (m.s)=preV b m i 3:=by
    unfold preV
    rw[if_pos rfl,ha1]
   change q37 600 (aF b m i 3) (z9F b m i 3) (secF b m i) (m.s:Int)=some (mx (aF b m i 3) (z9F b m i 3) (secF b m i) (m.s),())at m3
   rw[p3]at m3
   rw[qpf]at l0
   rw[show((0:Nat):Int)=0 from rfl,show(tab 4 fun _=>0)=[0,0,0,0]from rfl]at l0
   simp only[g1,g2,decide_true,decide_false,cond_true,cond_false,l0,y5,q1o (show 3<4 by omega),m3]
   rw[set3 (preV b m i)]
   exact fin
def decF(b:List Int)(m:BM)(j:Nat):Int:=texV b m (j/4) (j%4)
theorem zao(b:List Int){m:BM}(ok:m.Ok)(x0:List Int):
  ∀(d i k:Nat),i+d=16→d<k→q2j 600 k x0 (tab 64 (upT (i*4) (decF b m))) (tab (2*m.P*4) (endF b m)) ((m.P:Int)) ((m.W:Int)) ((m.T:Int)) ((m.H:Int)) ((m.C:Int)) ((m.A:Int)) ((m.e:Int)) ((m.o:Int)) ((m.f:Int)) ((m.s:Int)) ((wN b m:Int)) (tN b m) (cN b m) (tab 16 (firF b m)) (tab 16 (secF b m)) ((i:Int))=some (x0,(tab 64 (decF b m),())):=by
 intro d
 induction d with
 |zero=>
  intro i k h1 h2
  obtain⟨k,rfl⟩:∃k',k=k' +1:=⟨k-1,by omega⟩
  obtain rfl:i=16:=by omega
  unfold q2j q6n
  have:¬(((16:Nat):Int)<16):=by omega
  simp only[this,decide_false,cond_false]
  rw[show 16*4=64 from rfl,zal]
 |succ d ih=>
  intro i k h1 h2
  obtain⟨k,rfl⟩:∃k',k=k' +1:=⟨k-1,by omega⟩
  have hi:i<16:=by omega
  have i1:(i:Int)<16:=by omega
  unfold q2j q6n
  simp only[i1,decide_true,cond_true,yc,yd,yb,texel_is b ok hi,y5]
  rw[q0n (by omega),z4o (by omega),q01 fun j hj=>show(if j/4=i then texV b m i (j%4)else upT (i*4) (decF b m) j)=upT ((i+1)*4) (decF b m) j by
   unfold upT decF
   by_cases h:j/4=i
   ·rw[if_pos h,if_pos (by omega),h]
   ·rw[if_neg h]
    by_cases h2:j<i*4
    ·rw[if_pos h2,if_pos (by omega)]
    ·rw[if_neg h2,if_neg (by omega)]]
  exact ih (i+1) k (by omega) (by omega)
def qfd(x:Int):Nat:=(math_bits_TrailingZeros8T292.getD x.toNat 0).toNat
theorem zgf:((yz 256).all fun x=>(math_bits_TrailingZeros8T292.getD x 0==((qfd x:Nat):Int))&&(decide (qfd x≤8)&&((yz 8).all fun i=>(decide (i<qfd x)&&((x/2^i%2)==0))||(decide (qfd x<i)||decide (i=qfd x∧x/2^i%2=1)))))=true:=by decide+kernel
theorem que{x:Int}(h:0≤x∧x≤255):q33 600 x=some ((qfd x:Int),())∧qfd x≤8∧(∀i,i<qfd x→bitL x i=0)∧(qfd x<8→bitL x (qfd x)=1):=by
 obtain⟨x,rfl⟩:=yh h.1
 have:=List.all_eq_true.1 zgf x (by simp;omega)
 simp only[yl,beq_iff_eq,decide_eq_true_eq]at this
 obtain⟨h1,h2,h3⟩:=this
 have hb:∀i,bitL (x:Int) i=((x/2^i%2:Nat):Int):=fun i=>by
  unfold bitL
  rw[Int.natCast_emod,Int.natCast_ediv,we]
  rfl
 refine⟨?_,h2,fun i hi=> ?_,fun h8=> ?_⟩
 ·unfold q33
  have i1:(x:Int)<256:=by omega
  simp only[yc,i1,decide_true,yd,cond_true,yb,h1]
 ·have:=List.all_eq_true.1 h3 i (by simp;omega)
  simp only[Bool.or_eq_true,yl,decide_eq_true_eq,beq_iff_eq]at this
  rw[hb]
  omega
 ·have:=List.all_eq_true.1 h3 (qfd x) (by simpa using h8)
  simp only[Bool.or_eq_true,yl,decide_eq_true_eq,beq_iff_eq]at this
  rw[hb]
  omega
theorem Mode_is{b:List Int}(hb:Bytes b)(hl:b.length=16):qfz 600 b=some ((qfd (b.getD 0 0):Int),()):=by
 have h:=que (hb.getD 0)
 unfold qfz
 rw[hl,h.1]
 rfl
theorem zmu:q1z=tab 64 fun _=>0:=by decide+kernel
def qgp(b:List Int):List Int:=if qfd (b.getD 0 0)=8 then q1z else tab 64 (decF b (bmOf (qfd (b.getD 0 0))))
theorem qx4{b:List Int}(hb:Bytes b)(hl:b.length=16):q7l 600 b=some (qgp b,(0,())):=by
 have h:=que (hb.getD 0)
 have hn:(((b.length:Nat):Int) !=16)=false:=by rw[hl];rfl
 unfold q7l qgp
 rw[hn,Mode_is hb hl]
 simp only[cond_false,y5]
 by_cases h8:qfd (b.getD 0 0)=8
 ·rw[h8,if_pos rfl]
  rfl
 ·rw[if_neg h8,beqF (by omega)]
  have hk:qfd (b.getD 0 0)<8:=by omega
  simp only[cond_false,read9_is hb hl hk rfl,y5]
  have d:=zao b (bm_ok hk) q1z 16 0 600 (by omega) (by omega)
  rw[Nat.zero_mul,qpf,←zmu,show((0:Nat):Int)=0 from rfl]at d
  rw[d]
  rfl
end Go.AE.Gn
set_option linter.unusedVariables false
set_option linter.unusedSimpArgs false
namespace Go.AE.Gn
open Go Go.AE
theorem ze5(b:List Int){i:Nat}(h:i<8):q40 b i=bitL (b.getD 0 0) i:=by
 unfold q40
 rw[show i/8=0 by omega,show i%8=i by omega]
def g1(b:List Int)(m:BM)(p0 p1 j:Nat):Int:=2^(m.e+m.o)*e0 b m p0 j+bitV b m p1 (j/4)
end Go.AE.Gn
set_option linter.unusedVariables false
set_option linter.unusedSimpArgs false
namespace Go.AE.Gn
open Go Go.AE
theorem zmv:((yz 256).all fun x=>decide ((math_bits_TrailingZeros8T292.getD x 0).toNat≤8))=true:=by decide+kernel
theorem zjx(b:List Int){j:Nat}(hj:j<64):0≤(qgp b).getD j 0∧(qgp b).getD j 0≤255:=by
 unfold qgp
 split
 ·rw[zmu,q1o hj]
  omega
 ·rename_i h
  rw[q1o hj]
  by_cases hk:qfd (b.getD 0 0)<8
  ·exact zjw b (bm_ok hk) _ _
  ·exfalso
   have:∀x:Int,qfd x≤8:=fun x=>by
    unfold qfd
    by_cases h2:x.toNat<256
    ·have:=List.all_eq_true.1 zmv x.toNat (by simpa using h2)
     simpa using this
    ·have h3:math_bits_TrailingZeros8T292.length=256:=by decide+kernel
     rw[ye,w8 (by omega)]
     decide
   have:=this (b.getD 0 0)
   omega
theorem zmw{b c:List Int}(hb:Bytes b)(hc:Bytes c)(hl:b.length=16)(hcl:c.length=16){k:Nat}(hk:qfd (b.getD 0 0)=k)(h8:k<8)(h:∀q,q≤k→q40 c q=q40 b q):qfd (c.getD 0 0)=k:=by
 obtain⟨_,b8,bz,b1⟩:=que (hb.getD 0)
 obtain⟨_,c8,cz,c1⟩:=que (hc.getD 0)
 rw[hk]at b8 bz b1
 generalize qfd (c.getD 0 0)=q at c8 cz c1
 have g:∀q,q≤k→bitL (c.getD 0 0) q=bitL (b.getD 0 0) q:=fun q hq=>by
  have:=h q hq
  rw[ze5 c (by omega),ze5 b (by omega)]at this
  exact this
 by_cases h1:q<k
 ·have e1:=c1 (by omega)
  rw[g q (by omega),bz q h1]at e1
  omega
 ·by_cases h2:k<q
  ·have e1:=cz k h2
   rw[g k (by omega),b1 h8]at e1
   omega
  ·omega
end Go.AE.Gn
set_option linter.unusedVariables false
set_option linter.unusedSimpArgs false
namespace Go.AE.Gn
open Go Go.AE
def endV(ends more:List Int)(j:Nat):Int:=2*(ends.getD j 0%128)+more.getD (j/4) 0%2
theorem zjy(ends more:List Int)(j:Nat):0≤endV ends more j∧endV ends more j≤255:=by
 unfold endV
 omega
end Go.AE.Gn
set_option linter.unusedVariables false
set_option linter.unusedSimpArgs false
namespace Go.AE.Gn
open Go Go.AE
def okV(n:Nat)(v:Int):Bool:=decide (0≤v∧v<2^n)
theorem wrapU(v:Int)(h: -9223372036854775808≤v∧v≤9223372036854775807):(0≤y0 .u64 v∧y0 .u64 v≤18446744073709551615)∧(0≤v→y0 .u64 v=v)∧(v<0→9223372036854775808≤y0 .u64 v):=by
 by_cases h0:0≤v
 ·rw[wu64 h0 (by omega)]
  omega
 ·have:y0 .u64 v=v+18446744073709551616:=by
   simp only[y0]
   simp[IntKind.signed,IntKind.bits]
   omega
  rw[this]
  omega
theorem lay9_is{l:List Int}(hb:Bytes l)(hl:l.length=16){a n:Nat}(hn:n≤7)(h:a+n≤128){v:Int}(hv: -9223372036854775808≤v∧v≤9223372036854775807)(fine:Bool):
  q2n 600 v (n:Int) l (a:Int) fine=some (if fine&&okV n v then(lset l a n v,(((a+n:Nat):Int),(true,())))else(l,((a:Int),(false,())))):=by
 obtain⟨hu,hp,hneg⟩:=wrapU v hv
 have hchk:chk l.length a n=0:=z4e (by omega) (by omega)
 have ew:y0 .i64 ((a:Int)+(n:Int))=((a+n:Nat):Int):=by rw[w64 (by omega) (by omega),Int.natCast_add]
 have h2n:(2:Int)^n≤2^7:=q3h hn
 have h2p:=q6p n
 unfold q2n
 by_cases hok:0≤v∧v<2^n
 ·rw[hp hok.1,z4f (by omega) hb (by omega) (by omega) (by omega) hok]
  have:okV n v=true:=by simpa[okV]using hok
  cases fine<;>simp only[y5,cond_true,cond_false,beq_self_eq_true,ew,this,Bool.and_true,Bool.true_and,Bool.false_and,if_true,yn,if_false]
 ·rw[zdn (by omega) hb (by omega) (by omega) hu]
  have:okV n v=false:=by simpa[okV]using hok
  have hf:qik l.length a n (y0 .u64 v)=10:=by
   unfold qik
   rw[if_pos hchk,if_pos]
   refine⟨by omega,fun he=> ?_⟩
   rw[yb]at he
   have hge:2^n≤y0 .u64 v:=by
    by_cases h0:0≤v
    ·rw[hp h0]
     omega
    ·have:=hneg (by omega)
     omega
   have:(1:Int)≤y0 .u64 v/2^n:=(Int.le_ediv_iff_mul_le h2p).2 (by omega)
   omega
  have z:((10:Int)==0)=false:=rfl
  cases fine<;>simp only[y5,hf,z,cond_true,cond_false,this,Bool.and_false,yn,if_false]
def sN(t:Nat):Nat:=if t<8 then 7 else if t<10 then 1 else if t=10 then 3 else 4
def sA:Nat→Nat
 |0=>7
 |t+1=>sA t+sN t
def sV(ends more which:List Int)(t:Nat):Int:=if t<8 then ends.getD (t%2*4+t/2) 0 else if t<10 then more.getD (t-8) 0 else which.getD (t-10) 0
def okS(ends more which:List Int)(t:Nat):Bool:=okV (sN t) (sV ends more which t)
def sS(ends more which:List Int):Nat→List Int×(Nat×Bool)
 |0=>(ref09_SixT5836,(7,true))
 |t+1=>let s:=sS ends more which t
  if s.2.2&&okS ends more which t then(lset s.1 s.2.1 (sN t) (sV ends more which t),(s.2.1+sN t,true))else(s.1,(s.2.1,false))
theorem zmx:((yz 27).all fun t=>decide (sA t≤128))=true:=by decide+kernel
theorem sA_le{t:Nat}(h:t≤26):sA t≤128:=by simpa using List.all_eq_true.1 zmx t (List.mem_range.2 (by omega))
theorem sN_le(t:Nat):sN t≤7:=by
 unfold sN
 split
 ·omega
 ·split
  ·omega
  ·split<;>omega
theorem sA_mono:∀{s t:Nat},s≤t→sA s≤sA t:=by
 intro s t h
 induction h with
 |refl=>exact w9 _
 |step h ih=>exact Nat.le_trans ih (by simp only[sA];omega)
theorem zif(ends more which:List Int):∀t,Bytes (sS ends more which t).1∧(sS ends more which t).1.length=16∧(sS ends more which t).2.1≤sA t∧((sS ends more which t).2.2=true→(sS ends more which t).2.1=sA t)
 |0=>by
  refine⟨?_,rfl,w9 _,fun _=>rfl⟩
  have:(ref09_SixT5836.all fun x=>decide (0≤x∧x≤255))=true:=by decide+kernel
  intro x hx
  simpa using List.all_eq_true.1 this x hx
 |t+1=>by
  obtain⟨h1,h2,h3,h4⟩:=zif ends more which t
  simp only[sS]
  by_cases h:((sS ends more which t).2.2&&okS ends more which t)=true
  ·rw[if_pos h]
   have:=h4 (Bool.and_eq_true_iff.1 h).1
   exact⟨qws h1 _ _ _,by rw[zad];exact h2,by simp only[sA];omega,fun _=>by simp only[sA];omega⟩
  ·rw[if_neg h]
   exact⟨h1,h2,by simp only[sA];omega,fun e=>by cases e⟩
theorem quf(ends more which:List Int)(hV:∀t,t<26→-9223372036854775808≤sV ends more which t∧sV ends more which t≤9223372036854775807){t:Nat}(ht:t<26):
  q2n 600 (sV ends more which t) (sN t:Int) (sS ends more which t).1 ((sS ends more which t).2.1:Int) (sS ends more which t).2.2=some ((sS ends more which (t+1)).1,(((sS ends more which (t+1)).2.1:Int),((sS ends more which (t+1)).2.2,()))):=by
 obtain⟨h1,h2,h3,h4⟩:=zif ends more which t
 have h5:=sA_le (show t+1≤26 by omega)
 simp only[sA]at h5
 rw[lay9_is h1 h2 (sN_le t) (by omega) (hV t ht),show okV (sN t) (sV ends more which t)=okS ends more which t from rfl]
 simp only[sS]
 by_cases h:((sS ends more which t).2.2&&okS ends more which t)=true
 ·rw[if_pos h,if_pos h]
 ·rw[if_neg h,if_neg h]
theorem zjz(ends more which:List Int)(hV:∀t,t<26→-9223372036854775808≤sV ends more which t∧sV ends more which t≤9223372036854775807):∀(d c k:Nat),c+d=4→d<k→
  q3i 600 k ends more which (sS ends more which (2*c)).1 (sS ends more which (2*c)).2.2 ((sS ends more which (2*c)).2.1:Int) (c:Int)=some (more,(which,((sS ends more which 8).1,((sS ends more which 8).2.2,(((sS ends more which 8).2.1:Int),()))))):=by
 intro d
 induction d with
 |zero=>
  intro c k h1 h2
  obtain⟨k,rfl⟩:∃k',k=k' +1:=⟨k-1,by omega⟩
  obtain rfl:c=4:=by omega
  unfold q3i q9n
  have:¬(((4:Nat):Int)<4):=by omega
  simp only[this,decide_false,cond_false]
 |succ d ih=>
  intro c k h1 h2
  obtain⟨k,rfl⟩:∃k',k=k' +1:=⟨k-1,by omega⟩
  have hc:c<4:=by omega
  have i1:(c:Int)<4:=by omega
  have s1:=quf ends more which hV (t:=2*c) (by omega)
  have s2:=quf ends more which hV (t:=2*c+1) (by omega)
  have n1:sN (2*c)=7:=if_pos (by omega)
  have n2:sN (2*c+1)=7:=if_pos (by omega)
  have v1:sV ends more which (2*c)=ends.getD c 0:=by
   unfold sV
   rw[if_pos (by omega)]
   congr 1
   omega
  have v2:sV ends more which (2*c+1)=ends.getD (4+c) 0:=by
   unfold sV
   rw[if_pos (by omega)]
   congr 1
   omega
  rw[n1,v1,show((7:Nat):Int)=7 from rfl]at s1
  rw[n2,v2,show((7:Nat):Int)=7 from rfl]at s2
  unfold q3i q9n
  simp only[i1,decide_true,cond_true,yc,yd,yb,s1,s2,y5]
  rw[q0n (by omega)]
  exact ih (c+1) k (by omega) (by omega)
theorem zk0(ends more which:List Int)(hV:∀t,t<26→-9223372036854775808≤sV ends more which t∧sV ends more which t≤9223372036854775807):∀(d i k:Nat),i+d=16→d<k→
  q3j 600 k (sS ends more which (10+i)).1 (sS ends more which (10+i)).2.2 ((sS ends more which (10+i)).2.1:Int) which (i:Int)=some ((sS ends more which 26).1,((sS ends more which 26).2.2,())):=by
 intro d
 induction d with
 |zero=>
  intro i k h1 h2
  obtain⟨k,rfl⟩:∃k',k=k' +1:=⟨k-1,by omega⟩
  obtain rfl:i=16:=by omega
  unfold q3j q9o
  have:¬(((16:Nat):Int)<16):=by omega
  simp only[this,decide_false,cond_false]
 |succ d ih=>
  intro i k h1 h2
  obtain⟨k,rfl⟩:∃k',k=k' +1:=⟨k-1,by omega⟩
  have i1:(i:Int)<16:=by omega
  have hz:(!(((i+1:Nat):Int)==0))=true:=by
   rw[beqF (by omega)]
   rfl
  have s1:=quf ends more which hV (t:=10+i) (by omega)
  have v1:sV ends more which (10+i)=which.getD i 0:=by
   unfold sV
   rw[if_neg (by omega),if_neg (by omega)]
   congr 1
   omega
  have hle:(if i=0 then 1 else 0:Nat)≤1:=by split<;>omega
  have ew:y0 .i64 (((if i=0 then 1 else 0:Nat):Int))=((if i=0 then 1 else 0:Nat):Int):=w64 (by omega) (by omega)
  have en:y0 .i64 (4-((if i=0 then 1 else 0:Nat):Int))=((sN (10+i):Nat):Int):=by
   by_cases h:i=0
   ·subst h
    rfl
   ·have:sN (10+i)=4:=by
     unfold sN
     rw[if_neg (by omega),if_neg (by omega),if_neg (by omega)]
    rw[this]
    simp only[h,if_false]
    rfl
  rw[v1]at s1
  unfold q3j q9o
  simp only[i1,decide_true,cond_true,yc,yd,yb]
  rw[q0n (by omega)]
  simp only[hz,cond_true,zid,ew,en,s1,y5]
  exact ih (i+1) k (by omega) (by omega)
theorem six_base:q5e 600 q0l 6 1 1=some (ref09_SixT5836,(0,())):=by kernel_rfl
theorem Six_is(ends more which:List Int)(hV:∀t,t<26→-9223372036854775808≤sV ends more which t∧sV ends more which t≤9223372036854775807):
  qay 600 ends more which=some (if(sS ends more which 26).2.2 then((sS ends more which 26).1,(0,()))else([],(1,()))):=by
 have l0:q3i 600 600 ends more which ref09_SixT5836 true (7:Int) (0:Int)=_:=zjz ends more which hV 4 0 600 (by omega) (by omega)
 have s8:=quf ends more which hV (t:=8) (by omega)
 have s9:=quf ends more which hV (t:=9) (by omega)
 have v8:sV ends more which 8=more.getD 0 0:=rfl
 have v9:sV ends more which 9=more.getD 1 0:=rfl
 rw[v8,show((sN 8:Nat):Int)=1 from rfl]at s8
 rw[v9,show((sN 9:Nat):Int)=1 from rfl]at s9
 have l2:q3j 600 600 (sS ends more which 10).1 (sS ends more which 10).2.2 ((sS ends more which 10).2.1:Int) which (0:Int)=_:=zk0 ends more which hV 16 0 600 (by omega) (by omega)
 unfold qay
 rw[six_base]
 simp only[y5,l0,s8,s9,l2]
 cases(sS ends more which 26).2.2<;>rfl
def okU(ends more which:List Int)(t:Nat):Bool:=(yz t).all (okS ends more which)
theorem okU_succ(ends more which:List Int)(t:Nat):okU ends more which (t+1)=(okU ends more which t&&okS ends more which t):=by
 unfold okU
 rw[List.range_succ,List.all_append]
 simp
theorem sS_ok(ends more which:List Int):∀t,(sS ends more which t).2.2=okU ends more which t∧(okU ends more which t=true→(sS ends more which t).1=z77 sA sN (sV ends more which) ref09_SixT5836 t)
 |0=>⟨rfl,fun _=>rfl⟩
 |t+1=>by
  obtain⟨h1,h2⟩:=sS_ok ends more which t
  have h3:=(zif ends more which t).2.2.2
  rw[okU_succ]
  simp only[sS]
  by_cases h:((sS ends more which t).2.2&&okS ends more which t)=true
  ·rw[if_pos h]
   rw[h1]at h
   rw[h]
   have h4:=(Bool.and_eq_true_iff.1 h).1
   exact⟨rfl,fun _=>by rw[h2 h4,h3 (by rw[h1];exact h4)];rfl⟩
  ·rw[if_neg h]
   rw[h1,Bool.not_eq_true]at h
   rw[h]
   exact⟨rfl,fun e=>by cases e⟩
theorem zmy(ends more which:List Int){s t:Nat}(h:s<t)(ht:okU ends more which t=true):okS ends more which s=true:=by
 unfold okU at ht
 rw[List.all_eq_true]at ht
 exact ht s (List.mem_range.2 h)
abbrev sL(ends more which:List Int)(t:Nat):List Int:=z77 sA sN (sV ends more which) ref09_SixT5836 t
theorem qfe:Bytes ref09_SixT5836:=(zif [] [] [] 0).1
end Go.AE.Gn
set_option linter.unusedVariables false
set_option linter.unusedSimpArgs false
namespace Go.AE.Gn
open Go Go.AE
theorem zmz{l:List Int}(h:∀x∈l,IntKind.i64.has x)(i:Nat): -9223372036854775808≤l.getD i 0∧l.getD i 0≤9223372036854775807:=by
 rw[ye]
 by_cases hi:i<l.length
 ·rw[yj hi]
  exact has_iff.1 (h _ (List.getElem_mem hi))
 ·rw[w8 (by omega)]
  simp
theorem sV_has{ends more which:List Int}(he:∀x∈ends,IntKind.i64.has x)(hm:∀x∈more,IntKind.i64.has x)(hw:∀x∈which,IntKind.i64.has x)(t:Nat): -9223372036854775808≤sV ends more which t∧sV ends more which t≤9223372036854775807:=by
 unfold sV
 split
 ·exact zmz he _
 ·split
  ·exact zmz hm _
  ·exact zmz hw _
theorem Six_both{ends more which:List Int}(he:∀x∈ends,IntKind.i64.has x)(hm:∀x∈more,IntKind.i64.has x)(hw:∀x∈which,IntKind.i64.has x):
  qay 600 ends more which=some (if okU ends more which 26 then(sL ends more which 26,(0,()))else([],(1,()))):=by
 rw[Six_is ends more which fun t _=>sV_has he hm hw t]
 obtain⟨h1,h2⟩:=sS_ok ends more which 26
 rw[h1]
 by_cases h:okU ends more which 26=true
 ·rw[if_pos h,if_pos h,h2 h]
 ·rw[if_neg h,if_neg h]
theorem zig(ends more which:List Int):(sL ends more which 26).length=16:=by rw[qua];rfl
theorem z7a:bmOf 6=⟨1,0,0,0,7,7,1,0,4,0,7⟩:=by kernel_rfl
theorem zap:((yz 26).all fun i=>decide (sA i+sN i≤128)&&(yz 26).all fun j=>decide (i=j)||decide (sA i+sN i≤sA j∨sA j+sN j≤sA i))=true:=by decide+kernel
theorem sL_lv{ends more which:List Int}(h:okU ends more which 26=true){t:Nat}(ht:t<26):lv (sL ends more which 26) (sA t) (sN t)=sV ends more which t:=by
 have hr:∀i,i<26→sA i+sN i≤8*ref09_SixT5836.length:=fun i hi=>by
  have:=List.all_eq_true.1 zap i (List.mem_range.2 hi)
  have:=(Bool.and_eq_true_iff.1 this).1
  have h128:sA i+sN i≤128:=by simpa using this
  exact h128
 have hd:∀i j,i<26→j<26→i≠j→sA i+sN i≤sA j∨sA j+sN j≤sA i:=fun i j hi hj hij=>by
  have:=List.all_eq_true.1 zap i (List.mem_range.2 hi)
  have:=List.all_eq_true.1 (Bool.and_eq_true_iff.1 this).2 j (List.mem_range.2 hj)
  simpa[hij]using this
 have hok:0≤sV ends more which t∧sV ends more which t<2^sN t:=by
  have:=zmy ends more which ht h
  simpa[okS,okV]using this
 refine qwt hok fun q h1 h2=> ?_
 exact zdt qfe hr hd ht h1 h2 26 ht (w9 _)
theorem sL_mode(ends more which:List Int):qfd ((sL ends more which 26).getD 0 0)=6:=by
 have hr:∀i,i<26→sA i+sN i≤8*ref09_SixT5836.length:=fun i hi=>by
  have:=List.all_eq_true.1 zap i (List.mem_range.2 hi)
  have:=(Bool.and_eq_true_iff.1 this).1
  have h128:sA i+sN i≤128:=by simpa using this
  exact h128
 refine zmw qfe (q8r _ _ _ qfe 26) rfl (zig _ _ _) (k:=6) (by decide+kernel) (by omega) fun q hq=> ?_
 refine zdu qfe hr (fun i hi hc=> ?_) 26 (w9 _)
 have:=sA_mono (Nat.zero_le i)
 simp only[sA]at this
 omega
theorem ze6:((yz 256).all fun v=>z78 8 v==(v:Int))=true:=by decide+kernel
theorem wide8{x:Int}(h:0≤x∧x≤255):q0o 8 x=x:=by
 unfold q0o
 have:=List.all_eq_true.1 ze6 x.toNat (List.mem_range.2 (by omega))
 rw[beq_iff_eq]at this
 rw[show x%2^8=x by omega,this]
 omega
theorem z88:((yz 8).all fun t=>sA t==7+7*t)&&((yz 16).all fun i=>posF 1 0 4 65 i==sA (10+i)&&(4-qs4 1 0 i==sN (10+i)))&&(sA 8==63&&sA 9==64)=true:=by decide+kernel
theorem sA8{t:Nat}(h:t<8):sA t=7+7*t:=by
 have:=z88
 simp only[yl]at this
 simpa using List.all_eq_true.1 this.1.1 t (List.mem_range.2 h)
theorem sA10{i:Nat}(h:i<16):posF 1 0 4 65 i=sA (10+i)∧4-qs4 1 0 i=sN (10+i):=by
 have:=z88
 simp only[yl]at this
 simpa using List.all_eq_true.1 this.1.2 i (List.mem_range.2 h)
theorem zn0{ends more which:List Int}(h:okU ends more which 26=true){j:Nat}(hj:j<8):endF (sL ends more which 26) (bmOf 6) j=endV ends more j:=by
 have hl:∀t,t<8→lv (sL ends more which 26) (7+7*t) 7=sV ends more which t:=fun t ht=>by
  have:=sL_lv h (show t<26 by omega)
  rwa [sA8 ht,show sN t=7 from if_pos ht]at this
 have ho:∀t,t<26→0≤sV ends more which t∧sV ends more which t<2^sN t:=fun t ht=>by
  have:=zmy ends more which ht h
  simpa[okS,okV]using this
 have hv:sV ends more which (2*(j%4)+j/4)=ends.getD j 0:=by
  unfold sV
  rw[if_pos (by omega)]
  congr 1
  omega
 have he:e0 (sL ends more which 26) (bmOf 6) (bp0 (bmOf 6)) j=ends.getD j 0:=by
  rw[z7a]
  unfold e0 bp0
  simp only
  by_cases h3:j%4=3
  ·rw[if_pos h3,show 7+0+0+0+6*1*7+j/4*7=7+7*(2*(j%4)+j/4) by omega,hl _ (by omega),hv]
  ·rw[if_neg h3,show 7+0+0+0+j%4*(2*1*7)+j/4*7=7+7*(2*(j%4)+j/4) by omega,hl _ (by omega),hv]
 have hm:sV ends more which (8+j/4)=more.getD (j/4) 0:=by
  unfold sV
  rw[if_neg (by omega),if_pos (by omega)]
  congr 1
  omega
 have hb:bitV (sL ends more which 26) (bmOf 6) (bp1 (bmOf 6)) (j/4)=more.getD (j/4) 0:=by
  have h8:=sL_lv h (show 8+j/4<26 by omega)
  have a8:sA (8+j/4)=63+j/4:=by
   rcases(by omega:j/4=0∨j/4=1)with e|e<;>rw[e]<;>rfl
  have n8:sN (8+j/4)=1:=by
   unfold sN
   rw[if_neg (by omega),if_pos (by omega)]
  rw[a8,n8,hm]at h8
  rw[z7a]
  exact h8
 have o1:=ho (2*(j%4)+j/4) (by omega)
 rw[hv,show sN (2*(j%4)+j/4)=7 from if_pos (by omega)]at o1
 have o2:=ho (8+j/4) (by omega)
 rw[hm,show sN (8+j/4)=1 by unfold sN;rw[if_neg (by omega),if_pos (by omega)]]at o2
 unfold endF eF
 rw[he,hb]
 rw[z7a]
 have hx:(2:Int)^(1+0)*ends.getD j 0+more.getD (j/4) 0=endV ends more j:=by
  unfold endV
  omega
 simp only[show¬(7:Nat)=0 by decide,if_false,hx,ite_self]
 exact wide8 (zjy ends more j)
theorem zn1{ends more which:List Int}(h:okU ends more which 26=true){i:Nat}(hi:i<16):firF (sL ends more which 26) (bmOf 6) i=which.getD i 0∧0≤which.getD i 0∧which.getD i 0<16:=by
 have hv:sV ends more which (10+i)=which.getD i 0:=by
  unfold sV
  rw[if_neg (by omega),if_neg (by omega)]
  congr 1
  omega
 have hl:=sL_lv h (show 10+i<26 by omega)
 obtain⟨s1,s2⟩:=sA10 hi
 have ho:0≤sV ends more which (10+i)∧sV ends more which (10+i)<2^sN (10+i):=by
  have:=zmy ends more which (show 10+i<26 by omega) h
  simpa[okS,okV]using this
 have h4:(2:Int)^sN (10+i)≤2^4:=q3h (by rw[←s2];omega)
 rw[hv]at ho hl
 refine⟨?_,ho.1,by omega⟩
 unfold firF z4r
 have hw:wN (sL ends more which 26) (bmOf 6)=0:=by
  rw[z7a]
  rfl
 rw[hw,z7a]
 show lv (sL ends more which 26) (posF 1 0 4 65 i) (4-qs4 1 0 i)=_
 rw[s1,s2,hl]
theorem six_dec{ends more which:List Int}(h:okU ends more which 26=true):q7l 600 (sL ends more which 26)=some (tab 64 fun j=>mx (endV ends more (j%4)) (endV ends more (4+j%4)) (which.getD (j/4) 0) 4,(0,())):=by
 rw[qx4 (q8r _ _ _ qfe 26) (zig _ _ _)]
 unfold qgp
 rw[sL_mode,if_neg (by omega),q01 fun j hj=>show decF (sL ends more which 26) (bmOf 6) j=mx (endV ends more (j%4)) (endV ends more (4+j%4)) (which.getD (j/4) 0) 4 by
  have ht:¬0<tN (sL ends more which 26) (bmOf 6):=by
   rw[z7a]
   exact Int.lt_irrefl 0
  have hw:wN (sL ends more which 26) (bmOf 6)=0:=by
   rw[z7a]
   rfl
  have hP:(bmOf 6).P=1:=by rw[z7a]
  have hs:(bmOf 6).s=0:=by rw[z7a]
  have hf:(bmOf 6).f=4:=by rw[z7a]
  obtain⟨_,_,hp⟩:=part9 (P:=1) (w:=0) (i:=j/4) (by omega) (by omega) (by omega) (by omega)
  have hp0:qbe 1 0 (j/4)=0:=by omega
  unfold decF texV zjv
  rw[if_neg ht]
  unfold preV colP alpP aF z9F
  rw[hw,hP,hp0,hs]
  simp only[ne_eq,not_true_eq_false,false_and,if_false,(zn1 h (show j/4<16 by omega)).1,hf]
  have e1:∀c,c<4→endF (sL ends more which 26) (bmOf 6) (2*0*4+c)=endV ends more c:=fun c hc=>by
   rw[show 2*0*4+c=c by omega]
   exact zn0 h (by omega)
  have e2:∀c,c<4→endF (sL ends more which 26) (bmOf 6) ((2*0+1)*4+c)=endV ends more (4+c):=fun c hc=>by
   rw[show(2*0+1)*4+c=4+c by omega]
   exact zn0 h (by omega)
  have hc:j%4<4:=Nat.mod_lt _ (by decide)
  by_cases h3:j%4=3
  ·rw[if_pos h3,h3,e1 3 (by omega),e2 3 (by omega)]
  ·rw[if_neg h3,e1 _ hc,e2 _ hc]]
theorem mx_first(a z:Int):mx a z 0 4=a:=by
 unfold mx mixV
 rw[show(wL 4).getD (y6 0) 0=0 from rfl]
 omega
end Go.AE.Gn
set_option linter.unusedSimpArgs false
set_option linter.unusedVariables false
namespace Go.AE.Gn
open Go Go.AE
abbrev Blk10:=Bool×(Bool×(List Int×(List Int×(List Int×(List Int×Unit)))))
def q43(i:Nat):Nat:=4*(i%4)+i/4
theorem zaq:((yz 16).all fun i=>q0z 0 i==some ((q43 i:Int),()))=true:=by kernel_rfl
theorem z4s(F:Nat){i:Nat}(h:i<16):q0z F i=some ((q43 i:Int),()):=by
 have:=List.all_eq_true.1 zaq i (by simpa using h)
 have e:q0z F i=q0z 0 i:=rfl
 rw[e]
 simpa using this
theorem rcol_is{i:Nat}(h:i<16):y0 .i64 (y0 .i64 (4*yv (i:Int) 4)+y0 .i64 (yw (i:Int) 4))=(q43 i:Int):=by
 have:=z4s 0 h
 unfold q0z at this
 simpa using this
theorem zar{i:Nat}(h:i<16):q43 i≤15:=by unfold q43;omega
theorem z7b{F:Nat}(hF:66≤F){b:List Int}(hb:Bytes b)(hl:b.length=8){a n:Nat}(hn:n≤16)(h:a+n≤64):q0r F a n b=some (hv b a n,()):=by
 unfold q0r
 have h1:=q0u b a n
 have h2:(2:Int)^n≤2^16:=q3h hn
 rw[zac hF hb (by omega) (by omega) (by omega)]
 simp only[y5]
 rw[w64 (by omega) (by omega)]
theorem qlz{F:Nat}(hF:66≤F){b:List Int}(hb:Bytes b)(hl:b.length=8){a n:Nat}(hn:n≤16)(h:a+n≤64):q3s F b a n=some (hv b a n,()):=by
 unfold q3s
 have h1:=q0u b a n
 have h2:(2:Int)^n≤2^16:=q3h hn
 rw[Get_is hF hb (by omega)]
 simp only[y5,if_true]
 rw[zi3 (by omega) (by omega),w64 (by omega) (by omega)]
def sg3(x:Int):Int:=if 4≤x then x-8 else x
def eA(d:Bool)(b:List Int)(c:Nat):Int:=if d then hv b (8*c) 5 else hv b (8*c) 4
def eB(d:Bool)(b:List Int)(c:Nat):Int:=if d then sg3 (hv b (8*c+5) 3)else hv b (8*c+4) 4
def eAs(d:Bool)(b:List Int):List Int:=[eA d b 0,eA d b 1,eA d b 2]
def eBs(d:Bool)(b:List Int):List Int:=[eB d b 0,eB d b 1,eB d b 2]
def eWs(b:List Int):List Int:=(yz 16).map fun i=>2*hv b (47-q43 i) 1+hv b (63-q43 i) 1
def q8s(b:List Int):Bool:=hv b 30 1==1
def zk1(b:List Int):Bool:=hv b 31 1==1
def eP(b:List Int):Blk10:=(q8s b,(zk1 b,(eAs (q8s b) b,(eBs (q8s b) b,([hv b 24 3,hv b 27 3],(eWs b,()))))))
theorem qpg{N:Nat}(hN:N=3){x:List Int}(hx:x.length=3)(a b c:Int):((x.set 0 a).set 1 b).set 2 c=[a,b,c]:=by
 match x,hx with
 |[p,q,r],_=>rfl
theorem qff{F:Nat}(hF:66≤F){b:List Int}(hb:Bytes b)(hl:b.length=8)(k:Nat)(x0 x1 x2 x3:List Int)(d f:Bool)(A B:List Int)(hA:A.length=3)(hB:B.length=3)(x8 x9:List Int){i:Nat}(hi:i<3):
  q1y F (k+1) x0 x1 x2 x3 d f A B x8 x9 b i=q1y F k x0 x1 x2 x3 d f (A.set i (eA d b i)) (B.set i (eB d b i)) x8 x9 b ((i+1:Nat):Int):=by
 have h0:q1y F (k+1) x0 x1 x2 x3 d f A B x8 x9 b i=q81 F (q1y F k) x0 x1 x2 x3 d f A B x8 x9 b i:=rfl
 rw[h0]
 unfold q81
 have h1:(i:Int)<3:=by omega
 have e8:y0 .i64 ((8:Int)*(i:Int))=((8*i:Nat):Int):=by rw[w64 (by omega) (by omega)];omega
 have e4:y0 .i64 (((8*i:Nat):Int)+4)=((8*i+4:Nat):Int):=by rw[w64 (by omega) (by omega)];omega
 have e5:y0 .i64 (((8*i:Nat):Int)+5)=((8*i+5:Nat):Int):=by rw[w64 (by omega) (by omega)];omega
 have g1:=z7b hF hb hl (a:=8*i) (n:=4) (by decide) (by omega)
 have g2:=z7b hF hb hl (a:=8*i+4) (n:=4) (by decide) (by omega)
 have g3:=z7b hF hb hl (a:=8*i) (n:=5) (by decide) (by omega)
 have g4:=z7b hF hb hl (a:=8*i+5) (n:=3) (by decide) (by omega)
 have q4:=q0u b (8*i+5) 3
 simp only[yp]at g1 g2 g3 g4
 have hget:∀v,(B.set i v).getD i 0=v:=fun v=>by rw[qu5 _ _ _ _ (by omega),if_pos rfl]
 have hset:∀v w,(B.set i v).set i w=B.set i w:=fun v w=>List.set_set ..
 simp only[h1,decide_true,cond_true,e8,e4,e5,yc,yd,g1,g2,g3,g4,y5,yb,hget,hset,q0n (show i<1000000000000 by omega)]
 cases d
 ·rfl
 ·simp only[Bool.not_true,cond_false]
  unfold eA eB sg3
  by_cases h:4≤hv b (8*i+5) 3
  ·simp only[h,decide_true,cond_true,if_true]
   rw[w64 (by omega) (by omega)]
   rfl
  ·simp only[h,decide_false,cond_false,if_true,if_false]
theorem zas{F:Nat}(hF:66≤F){b:List Int}(hb:Bytes b)(hl:b.length=8)(x0 x1 x2 x3:List Int)(d f:Bool){A B:List Int}(hA:A.length=3)(hB:B.length=3)(x8 x9:List Int):
  q1y F F x0 x1 x2 x3 d f A B x8 x9 b 0=some (x0,(x1,(x2,(x3,(d,(f,(eAs d b,(eBs d b,(x8,(x9,(b,()))))))))))):=by
 obtain⟨n,rfl⟩:∃n,F=n+4:=⟨F-4,by omega⟩
 have s0:=qff hF hb hl (n+3) x0 x1 x2 x3 d f A B hA hB x8 x9 (i:=0) (by decide)
 have s1:=qff hF hb hl (n+2) x0 x1 x2 x3 d f (A.set 0 (eA d b 0)) (B.set 0 (eB d b 0)) (by simp[hA]) (by simp[hB]) x8 x9 (i:=1) (by decide)
 have s2:=qff hF hb hl (n+1) x0 x1 x2 x3 d f ((A.set 0 (eA d b 0)).set 1 (eA d b 1)) ((B.set 0 (eB d b 0)).set 1 (eB d b 1)) (by simp[hA]) (by simp[hB]) x8 x9 (i:=2) (by decide)
 simp only[Nat.zero_add,Nat.reduceAdd,yq]at s0 s1 s2
 rw[s0,s1,s2,qpg rfl hA,qpg rfl hB]
 rfl
theorem zat{F:Nat}(hF:66≤F){b:List Int}(hb:Bytes b)(hl:b.length=8)(x0 x1 x2 x3:List Int)(d f:Bool)(A B T:List Int){W:List Int}(hW:W.length=16):
  q2w F F x0 x1 x2 x3 d f A B T W b 0=some (x0,(x1,(x2,(x3,(d,(f,(A,(B,(T,(eWs b,())))))))))):=by
 refine qae 16 (fun i=>2*hv b (47-q43 i) 1+hv b (63-q43 i) 1) (fun k w i=>q2w F k x0 x1 x2 x3 d f A B T w b i) (fun w=>some (x0,(x1,(x2,(x3,(d,(f,(A,(B,(T,(w,()))))))))))) ?_ ?_ _ hW F (by omega)
 ·intro k i w hi hw
  show q49 F (q2w F k) x0 x1 x2 x3 d f A B T w b i=_
  unfold q49
  have hc:=zar hi
  have g1:=z7b hF hb hl (a:=47-q43 i) (n:=1) (by decide) (by omega)
  have g2:=z7b hF hb hl (a:=63-q43 i) (n:=1) (by decide) (by omega)
  have e1:y0 .i64 ((47:Int)-(q43 i:Int))=((47-q43 i:Nat):Int):=by rw[w64 (by omega) (by omega)];omega
  have e2:y0 .i64 ((63:Int)-(q43 i:Int))=((63-q43 i:Nat):Int):=by rw[w64 (by omega) (by omega)];omega
  have b1:=q0u b (47-q43 i) 1
  have b2:=q0u b (63-q43 i) 1
  simp only[yp]at g1 g2
  have h1:(i:Int)<16:=by omega
  simp only[h1,decide_true,cond_true,z4s F hi,y5,e1,e2,g1,g2,yc,yd,yb,q0n (show i<1000000000000 by omega)]
  rw[w64 (x:=2*_) (by omega) (by omega),w64 (by omega) (by omega)]
 ·intro k w hw
  show q49 F (q2w F k) x0 x1 x2 x3 d f A B T w b 16=_
  unfold q49
  simp
theorem qx5{F:Nat}(hF:66≤F){b:List Int}(hb:Bytes b)(hl:b.length=8):q2x F b=some (eP b,(0,())):=by
 unfold q2x
 have e:((b.length:Int) !=8)=false:=by rw[hl];rfl
 have g1:=z7b hF hb hl (a:=30) (n:=1) (by decide) (by decide)
 have g2:=z7b hF hb hl (a:=31) (n:=1) (by decide) (by decide)
 have g3:=z7b hF hb hl (a:=24) (n:=3) (by decide) (by decide)
 have g4:=z7b hF hb hl (a:=27) (n:=3) (by decide) (by decide)
 simp only[yp]at g1 g2 g3 g4
 simp only[e,cond_false,g1,g2,y5]
 rw[zas hF hb hl _ _ _ _ _ _ rfl rfl]
 simp only[y5,g3,g4]
 rw[zat hF hb hl _ _ _ _ _ _ _ _ _ rfl]
 rfl
theorem zk2{F:Nat}(hF:66≤F){b:List Int}(hb:Bytes b)(hl:b.length=8):qre F b=some (eWs b,()):=by
 have loop:∀T W:List Int,W.length=16→q62 F F b T W 0=some (T,(eWs b,())):=by
  intro T W hW
  refine qae 16 (fun i=>2*hv b (47-q43 i) 1+hv b (63-q43 i) 1) (fun k w i=>q62 F k b T w i) (fun w=>some (T,(w,()))) ?_ ?_ _ hW F (by omega)
  ·intro k i w hi hw
   show q6u F (q62 F k) b T w i=_
   unfold q6u
   have hc:=zar hi
   have g1:=qlz hF hb hl (a:=47-q43 i) (n:=1) (by decide) (by omega)
   have g2:=qlz hF hb hl (a:=63-q43 i) (n:=1) (by decide) (by omega)
   have e1:y0 .i64 ((47:Int)-(q43 i:Int))=((47-q43 i:Nat):Int):=by rw[w64 (by omega) (by omega)];omega
   have e2:y0 .i64 ((63:Int)-(q43 i:Int))=((63-q43 i:Nat):Int):=by rw[w64 (by omega) (by omega)];omega
   have b1:=q0u b (47-q43 i) 1
   have b2:=q0u b (63-q43 i) 1
   simp only[yp]at g1 g2
   have h1:(i:Int)<16:=by omega
   simp only[h1,decide_true,cond_true,rcol_is hi,y5,e1,e2,g1,g2,yc,yd,yb,q0n (show i<1000000000000 by omega)]
   rw[w64 (x:=2*_) (by omega) (by omega),w64 (by omega) (by omega)]
  ·intro k w hw
   show q6u F (q62 F k) b T w 16=_
   unfold q6u
   simp
 unfold qre
 rw[loop _ _ rfl]
 rfl
theorem qd0{F:Nat}(hF:66≤F){b:List Int}(hb:Bytes b)(hl:b.length=8)(k:Nat)(x1 x2 x3 x4:List Int)(d f:Bool)(A B:List Int)(hA:A.length=3)(hB:B.length=3)(x8 x9:List Int){i:Nat}(hi:i<3):
  q4r F (k+1) b x1 x2 x3 x4 d f A B x8 x9 i=q4r F k b x1 x2 x3 x4 d f (A.set i (eA d b i)) (B.set i (eB d b i)) x8 x9 ((i+1:Nat):Int):=by
 have h0:q4r F (k+1) b x1 x2 x3 x4 d f A B x8 x9 i=qei F (q4r F k) b x1 x2 x3 x4 d f A B x8 x9 i:=rfl
 rw[h0]
 unfold qei
 have h1:(i:Int)<3:=by omega
 have e8:y0 .i64 ((8:Int)*(i:Int))=((8*i:Nat):Int):=by rw[w64 (by omega) (by omega)];omega
 have e4:y0 .i64 (((8*i:Nat):Int)+4)=((8*i+4:Nat):Int):=by rw[w64 (by omega) (by omega)];omega
 have e5:y0 .i64 (((8*i:Nat):Int)+5)=((8*i+5:Nat):Int):=by rw[w64 (by omega) (by omega)];omega
 have g1:=qlz hF hb hl (a:=8*i) (n:=4) (by decide) (by omega)
 have g2:=qlz hF hb hl (a:=8*i+4) (n:=4) (by decide) (by omega)
 have g3:=qlz hF hb hl (a:=8*i) (n:=5) (by decide) (by omega)
 have g4:=qlz hF hb hl (a:=8*i+5) (n:=3) (by decide) (by omega)
 have q4:=q0u b (8*i+5) 3
 simp only[yp]at g1 g2 g3 g4
 have hget:∀v,(B.set i v).getD i 0=v:=fun v=>by rw[qu5 _ _ _ _ (by omega),if_pos rfl]
 have hset:∀v w,(B.set i v).set i w=B.set i w:=fun v w=>List.set_set ..
 simp only[h1,decide_true,cond_true,e8,e4,e5,yc,yd,g1,g2,g3,g4,y5,yb,hget,hset,q0n (show i<1000000000000 by omega)]
 cases d
 ·rfl
 ·simp only[cond_true]
  unfold eA eB sg3
  by_cases h:4≤hv b (8*i+5) 3
  ·have h' :3<hv b (8*i+5) 3:=by omega
   simp only[h,h',decide_true,cond_true,if_true]
   rw[w64 (by omega) (by omega)]
  ·have h' :¬3<hv b (8*i+5) 3:=by omega
   simp only[h,h',decide_false,cond_false,if_true,if_false]
theorem z4t{F:Nat}(hF:66≤F){b:List Int}(hb:Bytes b)(hl:b.length=8):qej F b=some (eP b,(0,())):=by
 unfold qej
 have e:((b.length:Int) !=8)=false:=by rw[hl];rfl
 have g1:=qlz hF hb hl (a:=30) (n:=1) (by decide) (by decide)
 have g2:=qlz hF hb hl (a:=31) (n:=1) (by decide) (by decide)
 have g3:=qlz hF hb hl (a:=24) (n:=3) (by decide) (by decide)
 have g4:=qlz hF hb hl (a:=27) (n:=3) (by decide) (by decide)
 have loop:∀(x1 x2 x3 x4:List Int) (d f:Bool) (A B:List Int) (hA:A.length=3) (hB:B.length=3) (x8 x9:List Int),q4r F F b x1 x2 x3 x4 d f A B x8 x9 0=some (b,(x1,(x2,(x3,(x4,(d,(f,(eAs d b,(eBs d b,(x8,(x9,()))))))))))):=by
  intro x1 x2 x3 x4 d f A B hA hB x8 x9
  clear g1 g2 g3 g4
  obtain⟨n,rfl⟩:∃n,F=n+4:=⟨F-4,by omega⟩
  have s0:=qd0 hF hb hl (n+3) x1 x2 x3 x4 d f A B hA hB x8 x9 (i:=0) (by decide)
  have s1:=qd0 hF hb hl (n+2) x1 x2 x3 x4 d f (A.set 0 (eA d b 0)) (B.set 0 (eB d b 0)) (by simp[hA]) (by simp[hB]) x8 x9 (i:=1) (by decide)
  have s2:=qd0 hF hb hl (n+1) x1 x2 x3 x4 d f ((A.set 0 (eA d b 0)).set 1 (eA d b 1)) ((B.set 0 (eB d b 0)).set 1 (eB d b 1)) (by simp[hA]) (by simp[hB]) x8 x9 (i:=2) (by decide)
  simp only[Nat.zero_add,Nat.reduceAdd,yq]at s0 s1 s2
  rw[s0,s1,s2,qpg rfl hA,qpg rfl hB]
  rfl
 simp only[yp]at g1 g2 g3 g4
 simp only[e,cond_false,g1,g2,y5]
 rw[loop _ _ _ _ _ _ _ _ rfl rfl]
 simp only[y5,g3,g4,zk2 hF hb hl]
 rfl
theorem iand15(x:Int):iand .i64 x 15=x%16:=qfb (x:=x) (b:=4) (by decide)
theorem iand7(x:Int):iand .i64 x 7=x%8:=qfb (x:=x) (b:=3) (by decide)
theorem iand3(x:Int):iand .i64 x 3=x%4:=qfb (x:=x) (b:=2) (by decide)
theorem zau(F:Nat){x m:Int}(hm:0<m∧m≤1000000000):qhl F x m=some (x%m,()):=by
 unfold qhl
 have h0:(!(m==(0:Int)))=true:=by simp;omega
 have hf:=zi7 (x:=x) hm.1
 have h1:=Int.emod_nonneg x (show m≠0 by omega)
 have h2:=Int.emod_lt_of_pos x hm.1
 rw[h0]
 simp only[cond_true]
 by_cases hn:x.tmod m<0
 ·rw[if_pos hn]at hf
  simp only[hn,decide_true,cond_true]
  rw[hf,w64 (by omega) (by omega)]
 ·rw[if_neg hn]at hf
  simp only[hn,decide_false,cond_false]
  rw[hf]
def ze7:Nat→List Int
 |0=>[2,8,-2,-8]
 |1=>[5,17,-5,-17]
 |2=>[9,29,-9,-29]
 |3=>[13,42,-13,-42]
 |4=>[18,60,-18,-60]
 |5=>[24,80,-24,-80]
 |6=>[33,106,-33,-106]
 |_=>[47,183,-47,-183]
theorem q8h{p:Int→Prop}(h0:p 0){l:List Int}(h:∀x∈l,p x)(i:Nat):p (l.getD i 0):=by
 rw[ye]
 by_cases hi:i<l.length
 ·rw[yj hi]
  exact h _ (List.getElem_mem hi)
 ·rw[w8 (by omega)]
  exact h0
theorem z4u(n i:Nat): -183≤(ze7 n).getD i 0∧(ze7 n).getD i 0≤183:=by
 apply q8h (p:=fun x=> -183≤x∧x≤183) (by decide)
 unfold ze7
 split<;>decide
theorem eight{v:Int}(h:0≤v∧v<8):v=0∨v=1∨v=2∨v=3∨v=4∨v=5∨v=6∨v=7:=by omega
theorem zk3(F:Nat)(n:Int):qfy F n=some (ze7 (n%8).toNat,()):=by
 unfold qfy
 rw[iand7]
 have h:0≤n%8∧n%8<8:=by omega
 generalize n%8=v at*
 rcases eight h with rfl|rfl|rfl|rfl|rfl|rfl|rfl|rfl<;>rfl
theorem zgg(F:Nat)(n:Int):qrg F n=some (ze7 (n%8).toNat,()):=by
 unfold qrg
 rw[zau F (by decide)]
 have h:0≤n%8∧n%8<8:=by omega
 simp only[y5]
 generalize n%8=v at*
 rcases eight h with rfl|rfl|rfl|rfl|rfl|rfl|rfl|rfl<;>rfl
def q3k(f:Bool)(m:Int):Nat:=if f then(m%16).toNat/8 else(m%16).toNat%4/2
theorem qug(f:Bool)(m:Int):q3k f m<2:=by
 unfold q3k
 split<;>omega
theorem z4v(F:Nat)(f:Bool)(m:Int):qeh F f m=some ((q3k f m:Int),())∧qvn F f m=some ((q3k f m:Int),()):=by
 unfold qeh qvn q3k
 rw[zau F (by decide),iand15]
 have h:0≤m%16∧m%16<16:=by omega
 simp only[y5]
 generalize m%16=v at*
 obtain⟨n,rfl⟩:=yh h.1
 have e1:yw (n:Int) 8=((n/8:Nat):Int):=rfl
 have e2:yw (yv (n:Int) 4) 2=((n%4/2:Nat):Int):=rfl
 rw[e1,e2,w64 (x:=((n/8:Nat):Int)) (by omega) (by omega),w64 (by omega) (by omega)]
 cases f
 ·exact⟨rfl,rfl⟩
 ·exact⟨rfl,rfl⟩
def n10(d:Bool)(A B:List Int)(c:Nat):Int:=if d then A.getD c 0+B.getD c 0 else B.getD c 0
def w10(d:Bool):Nat:=if d then 5 else 4
def q1c(d:Bool)(A B:List Int):List Int:=
 [q0o (w10 d) (A.getD 0 0),q0o (w10 d) (A.getD 1 0),q0o (w10 d) (A.getD 2 0),255,q0o (w10 d) (n10 d A B 0),q0o (w10 d) (n10 d A B 1),q0o (w10 d) (n10 d A B 2),255]
def q8t(A B:List Int)(c:Nat):Prop:=n10 true A B c<0∨31<n10 true A B c
instance (A B:List Int) (c:Nat):Decidable (q8t A B c):=by unfold q8t;exact inferInstance
def qq5(d:Bool)(A B:List Int):Int:=if d then(if q8t A B 0 then 0 else if q8t A B 1 then 1 else if q8t A B 2 then 2 else 3)else 3
def qye(A B:List Int):Prop:=A.length=3∧B.length=3∧(∀c,0≤A.getD c 0∧A.getD c 0≤31)∧(∀c,-4≤B.getD c 0∧B.getD c 0≤15)
theorem qoo{F:Nat}(hF:10≤F)(k:Nat)(d f:Bool){A B:List Int}(hf:qye A B)(T W x6 x7:List Int)(far:Int){i:Nat}(hi:i<3):
  q0s F (k+1) d f A B T W x6 x7 far i=q0s F k d f A B T W x6 ((x7.set i (q0o (w10 d) (A.getD i 0))).set (4+i) (q0o (w10 d) (n10 d A B i))) (if d=true∧far=3∧q8t A B i then(i:Int)else far) ((i+1:Nat):Int):=by
 have h0:q0s F (k+1) d f A B T W x6 x7 far i=q82 F (q0s F k) d f A B T W x6 x7 far i:=rfl
 rw[h0]
 unfold q82
 have h1:(i:Int)<3:=by omega
 have h2:(i:Int)<4:=by omega
 have a1:=hf.2.2.1 i
 have a2:=hf.2.2.2 i
 have e1:y0 .i64 (A.getD i 0+B.getD i 0)=A.getD i 0+B.getD i 0:=w64 (by omega) (by omega)
 have w5:=fun x=>qbc (F:=F) hF (b:=5) (by decide) x
 have w4:=fun x=>qbc (F:=F) hF (b:=4) (by decide) x
 have s5:=z4m (x:=A.getD i 0+B.getD i 0) (k:=5) (by decide)
 simp only[yp]at w5 w4 s5
 simp only[h1,h2,decide_true,cond_true,yc,yd,yb,e1,w5,w4,s5,y5,q0n (show i<1000000000000 by omega)]
 cases d
 ·simp only[cond_false,w10,n10,yn,if_false,false_and]
 ·simp only[cond_true,w10,n10,if_true,true_and,q8t]
  by_cases hfar:far=3
  ·subst hfar
   simp only[beq_self_eq_true,cond_true,true_and]
   by_cases hn:A.getD i 0+B.getD i 0<0
   ·simp only[hn,decide_true,cond_true,true_or,if_true]
   ·simp only[hn,decide_false,cond_false,false_or]
    by_cases hg:31<A.getD i 0+B.getD i 0
    ·have:((A.getD i 0+B.getD i 0)/2^5 !=0)=true:=bneT (by omega)
     simp only[this,cond_true,hg,if_true]
    ·have:((A.getD i 0+B.getD i 0)/2^5 !=0)=false:=by
      have:(A.getD i 0+B.getD i 0)/2^5=0:=by omega
      rw[this];rfl
     simp only[this,cond_false,hg,if_false]
  ·simp only[beqF hfar,cond_false,hfar,false_and,if_false]
theorem zgh(d:Bool)(A B:List Int):(if d=true∧(if d=true∧(if d=true∧(3:Int)=3∧q8t A B 0 then((0:Nat):Int)else 3)=3∧q8t A B 1 then((1:Nat):Int)else(if d=true∧(3:Int)=3∧q8t A B 0 then((0:Nat):Int)else 3))=3∧q8t A B 2 then((2:Nat):Int)else
  (if d=true∧(if d=true∧(3:Int)=3∧q8t A B 0 then((0:Nat):Int)else 3)=3∧q8t A B 1 then((1:Nat):Int)else(if d=true∧(3:Int)=3∧q8t A B 0 then((0:Nat):Int)else 3)))=qq5 d A B:=by
 unfold qq5
 cases d
 ·simp
 ·by_cases h0:q8t A B 0<;>by_cases h1:q8t A B 1<;>by_cases h2:q8t A B 2<;>simp[h0,h1,h2]
theorem qx6{F:Nat}(hF:10≤F)(d f:Bool){A B:List Int}(hf:qye A B)(T W:List Int):q8z F (d,(f,(A,(B,(T,(W,()))))))=some (q1c d A B,(qq5 d A B,())):=by
 unfold q8z
 have s0:∀n far x6 x7,q0s F (n+1) d f A B T W x6 x7 far 0=_:=fun n far x6 x7=>qoo hF n d f hf T W x6 x7 far (i:=0) (by decide)
 have s1:∀n far x6 x7,q0s F (n+1) d f A B T W x6 x7 far 1=_:=fun n far x6 x7=>qoo hF n d f hf T W x6 x7 far (i:=1) (by decide)
 have s2:∀n far x6 x7,q0s F (n+1) d f A B T W x6 x7 far 2=_:=fun n far x6 x7=>qoo hF n d f hf T W x6 x7 far (i:=2) (by decide)
 have s3:∀n far x6 x7,q0s F (n+1) d f A B T W x6 x7 far 3=some (x6,(x7,(far,()))):=fun n far x6 x7=>rfl
 obtain⟨n,hn⟩:∃n,F=n+4:=⟨F-4,by omega⟩
 have key:∀(m:Nat),m=n+4→∀x6 x7:List Int,q0s F m d f A B T W x6 x7 3 0=some (x6,(((((((x7.set 0 (q0o (w10 d) (A.getD 0 0))).set 4 (q0o (w10 d) (n10 d A B 0))).set 1 (q0o (w10 d) (A.getD 1 0))).set 5 (q0o (w10 d) (n10 d A B 1))).set 2 (q0o (w10 d) (A.getD 2 0))).set 6 (q0o (w10 d) (n10 d A B 2)),(qq5 d A B,())))):=by
  intro m hm x6 x7
  subst hm
  rw[←zgh d A B]
  refine(s0 _ _ _ _).trans ((s1 _ _ _ _).trans ((s2 _ _ _ _).trans (s3 _ _ _ _)))
 simp only[key F hn,y5]
 rfl
theorem take4{l:List Int}{n:Nat}(h:n+4≤l.length):(l.drop n).take 4=[l.getD n 0,l.getD (n+1) 0,l.getD (n+2) 0,l.getD (n+3) 0]:=by
 have e:∀j,j<l.length→l.drop j=l.getD j 0::l.drop (j+1):=fun j hj=>by
  rw[List.drop_eq_getElem_cons hj,ye,yj hj]
  rfl
 rw[e n (by omega),e (n+1) (by omega),e (n+2) (by omega),e (n+3) (by omega)]
 rfl
theorem qe3(F:Nat)(x:Int):q4q F x 255=some (q1w x,()):=rfl
theorem z4w(F:Nat)(x:Int):qje F x 255=some (q1w x,()):=by
 unfold qje q1w
 by_cases h1:255<x
 ·have:max 0 (min x 255)=255:=by omega
  simp[h1,this]
 ·by_cases h2:x<0
  ·have:max 0 (min x 255)=0:=by omega
   simp[h1,h2,this]
  ·have:max 0 (min x 255)=x:=by omega
   simp[h1,h2,this]
def zgi(T W:List Int)(f:Bool)(i:Nat):Int:=(ze7 ((T.getD (q3k f i) 0)%8).toNat).getD ((W.getD i 0)%4).toNat 0
def ze8(bs T W:List Int)(f:Bool)(i:Nat):List Int:=
 [q1w (bs.getD (q3k f i*4) 0+zgi T W f i),q1w (bs.getD (q3k f i*4+1) 0+zgi T W f i),q1w (bs.getD (q3k f i*4+2) 0+zgi T W f i),bs.getD (q3k f i*4+3) 0]
def qd1(d f:Bool)(A B T W:List Int):List Int:=(yz 16).flatMap (ze8 (q1c d A B) T W f)
theorem w10_b(d:Bool):1≤w10 d∧w10 d≤8:=by cases d<;>decide
theorem qs5(d:Bool)(A B:List Int):(q1c d A B).length=8:=rfl
theorem qdp(d:Bool)(A B:List Int)(j:Nat):0≤(q1c d A B).getD j 0∧(q1c d A B).getD j 0≤255:=by
 apply q8h (p:=fun x=>0≤x∧x≤255) (by decide)
 intro x hx
 have hw:=fun y=>q0p (w10_b d) y
 simp only[q1c,yr,List.not_mem_nil,or_false]at hx
 rcases hx with rfl|rfl|rfl|rfl|rfl|rfl|rfl|rfl<;>first|exact hw _|decide
theorem qfg{F k:Nat}(d f:Bool)(A B T W x6 bs P l Q x12:List Int)(x13:Int){i:Nat}(hi:i<16)(hP:P.length=i*4)(hl:l.length=4)(hb:∀c,0≤l.getD c 0∧l.getD c 0≤255)(w:Int){h:Nat}(hh:h<2){c:Nat}(hc:c<3):
  q1m F (k+1) d f A B T W x6 bs (P++l++Q) i w h x12 x13 c=q1m F k d f A B T W x6 bs (P++l.set c (q1w (l.getD c 0+(ze7 ((T.getD h 0)%8).toNat).getD (w%4).toNat 0))++Q) i w h x12 x13 ((c+1:Nat):Int):=by
 have h0:q1m F (k+1) d f A B T W x6 bs (P++l++Q) i w h x12 x13 c=q83 F (q1m F k) d f A B T W x6 bs (P++l++Q) i w h x12 x13 c:=rfl
 rw[h0]
 unfold q83
 have h1:(c:Int)<3:=by omega
 have h2:(c:Int)<4:=by omega
 have h3:(i:Int)<16:=by omega
 have h4:(h:Int)<2:=by omega
 have hw:0≤w%4∧w%4<4:=by omega
 have g1:=zmd P l Q hP (show c<l.length by omega)
 have g2:=zme P l Q hP (show c<l.length by omega)
 have tb:=z4u ((T.getD h 0)%8).toNat (w%4).toNat
 have lb:=hb c
 simp only[h1,h2,h3,h4,decide_true,cond_true,yc,yd,yb,zk3,y5,iand3,hw.1,hw.2,qe3,g1,g2,q0n (show c<1000000000000 by omega)]
 rw[w64 (by omega) (by omega)]
theorem qio{l:List Int}(hb:∀c,0≤l.getD c 0∧l.getD c 0≤255)(i:Nat){v:Int}(hv:0≤v∧v≤255):∀c,0≤(l.set i v).getD c 0∧(l.set i v).getD c 0≤255:=by
 intro c
 by_cases h:i<l.length
 ·rw[qu5 _ _ _ _ h]
  split
  ·exact hv
  ·exact hb c
 ·rw[List.set_eq_of_length_le (by omega)]
  exact hb c
theorem zav{F:Nat}(hF:10≤F)(d f:Bool)(A B T W x6 bs P l Q x12:List Int)(x13:Int){i:Nat}(hi:i<16)(hP:P.length=i*4)(hl:l.length=4)(hb:∀c,0≤l.getD c 0∧l.getD c 0≤255)(w:Int){h:Nat}(hh:h<2){n:Int}(hn:n=(ze7 ((T.getD h 0)%8).toNat).getD (w%4).toNat 0):
  q1m F F d f A B T W x6 bs (P++l++Q) i w h x12 x13 0=some (d,(f,(A,(B,(T,(W,(x6,(bs,(P++[q1w (l.getD 0 0+n),q1w (l.getD 1 0+n),q1w (l.getD 2 0+n),l.getD 3 0]++Q,(x12,(x13,()))))))))))):=by
 obtain⟨a,b,c,e,rfl⟩:∃a b c e,l=[a,b,c,e]:=by
  match l,hl with
  |[a,b,c,e],_=>exact⟨a,b,c,e,rfl⟩
 subst hn
 have key:∀m,m=F→∀k,m=k+4→q1m F m d f A B T W x6 bs (P++[a,b,c,e]++Q) i w h x12 x13 0=_:=fun m _ k hk=>by
  subst hk
  refine(qfg (k:=k+3) d f A B T W x6 bs P [a,b,c,e] Q x12 x13 hi hP rfl hb w hh (c:=0) (by decide)).trans ?_
  refine(qfg (k:=k+2) d f A B T W x6 bs P _ Q x12 x13 hi hP rfl (qio hb 0 (q1h _)) w hh (c:=1) (by decide)).trans ?_
  exact(qfg (k:=k+1) d f A B T W x6 bs P _ Q x12 x13 hi hP rfl (qio (qio hb 0 (q1h _)) 1 (q1h _)) w hh (c:=2) (by decide)).trans rfl
 rw[key F rfl (F-4) (by omega)]
 rfl
theorem z89{F:Nat}(hF:17≤F)(d f:Bool){A B T W:List Int}(hf:qye A B)(hW:∀i,0≤W.getD i 0∧W.getD i 0≤3):qc4 F (d,(f,(A,(B,(T,(W,()))))))=some (qd1 d f A B T W,()):=by
 unfold qc4
 have loop:∀x6 x8:List Int,x8.length=64→q2y F F d f A B T W x6 (q1c d A B) x8 W 0=some (x6,(qd1 d f A B T W,())):=by
  intro x6 x8 h8
  refine qwu 16 4 (ze8 (q1c d A B) T W f) (fun i hi=>rfl) (fun k w i=>q2y F k d f A B T W x6 (q1c d A B) w W i) (fun w=>some (x6,(w,()))) ?_ ?_ _ h8 F (by omega)
  ·intro k i w hi hw
   show q4a F (q2y F k) d f A B T W x6 (q1c d A B) w W i=_
   unfold q4a
   have h1:(i:Int)<16:=by omega
   have hh:=qug f i
   have h2:(q3k f i:Int)<2:=by omega
   have t4:=take4 (l:=q1c d A B) (n:=q3k f i*4) (by rw[qs5];omega)
   have hP:(w.take (i*4)).length=i*4:=by rw[List.length_take];omega
   have l2:=zav (by omega) d f A B T W x6 (q1c d A B) (w.take (i*4)) [(q1c d A B).getD (q3k f i*4) 0,(q1c d A B).getD (q3k f i*4+1) 0,(q1c d A B).getD (q3k f i*4+2) 0,(q1c d A B).getD (q3k f i*4+3) 0] (w.drop (i*4+4)) W i hi hP rfl
    (fun c=>q8h (p:=fun x=>0≤x∧x≤255) (by decide) (fun x hx=>by
      simp only[yr,List.not_mem_nil,or_false]at hx
      rcases hx with rfl|rfl|rfl|rfl<;>exact qdp d A B _) c) (W.getD i 0) hh (n:=zgi T W f i) rfl (F:=F)
   simp only[h1,decide_true,cond_true,yc,yd,yb,(z4v F f i).1,y5,h2,t4,l2,q0n (show i<1000000000000 by omega)]
   rfl
  ·intro k w hw
   show q4a F (q2y F k) d f A B T W x6 (q1c d A B) w W 16=_
   unfold q4a
   simp
 rw[qx6 (by omega) d f hf]
 simp only[y5]
 rw[loop _ _ rfl]
 rfl
theorem zn2(F:Nat)(n a b:Int):qpa F n a b=some (decide (a≤n∧n≤b),()):=by
 unfold qpa
 by_cases h:a≤n
 ·simp[h]
 ·simp[h]
theorem qkf{F:Nat}(hF:10≤F)(k:Nat)(d f:Bool){A B:List Int}(hf:qye A B)(T W x6 x7:List Int)(far:Int){i:Nat}(hi:i<3):
  q1n F (k+1) d f A B T W x6 x7 far i=q1n F k d f A B T W x6 ((x7.set i (q0o (w10 d) (A.getD i 0))).set (4+i) (q0o (w10 d) (n10 d A B i))) (if d=true∧q8t A B i then(i:Int)else far) ((i:Int)-1):=by
 have h0:q1n F (k+1) d f A B T W x6 x7 far i=qek F (q1n F k) d f A B T W x6 x7 far i:=rfl
 rw[h0]
 unfold qek
 have h1:(i:Int)<3:=by omega
 have h2:(i:Int)<4:=by omega
 have a1:=hf.2.2.1 i
 have a2:=hf.2.2.2 i
 have e1:y0 .i64 (A.getD i 0+B.getD i 0)=A.getD i 0+B.getD i 0:=w64 (by omega) (by omega)
 have e2:y0 .i64 ((i:Int)-1)=(i:Int)-1:=w64 (by omega) (by omega)
 have w5:=fun x hx=>qbt (F:=F) hF (b:=5) (by decide) (x:=x) hx
 have w4:=fun x hx=>qbt (F:=F) hF (b:=4) (by decide) (x:=x) hx
 have g1:=w5 (A.getD i 0) (by omega)
 have g2:=w5 ((A.getD i 0+B.getD i 0)%32) (by omega)
 have g3:=w4 (A.getD i 0) (by omega)
 have g4:=w4 (B.getD i 0) (by omega)
 have g5:q0o 5 ((A.getD i 0+B.getD i 0)%32)=q0o 5 (A.getD i 0+B.getD i 0):=by unfold q0o;congr 2;omega
 simp only[yp]at g1 g2 g3 g4
 simp only[h1,h2,decide_true,cond_true,yc,yd,yb,e1,e2,zn2,zau F (show(0:Int)<32∧(32:Int)≤1000000000 by decide),g1,g2,g3,g4,g5,y5]
 cases d
 ·simp only[cond_false,w10,n10,yn,if_false,false_and]
 ·simp only[cond_true,w10,n10,if_true,true_and,q8t]
  by_cases hn:0≤A.getD i 0+B.getD i 0∧A.getD i 0+B.getD i 0≤31
  ·have hb:¬(A.getD i 0+B.getD i 0<0∨31<A.getD i 0+B.getD i 0):=by omega
   simp only[hn,and_self,decide_true,Bool.not_true,cond_false,hb,if_false]
  ·have hb:(A.getD i 0+B.getD i 0<0∨31<A.getD i 0+B.getD i 0):=by omega
   simp only[hn,decide_false,Bool.not_false,cond_true,hb,if_true]
theorem ze9(d:Bool)(A B:List Int):(if d=true∧q8t A B 0 then((0:Nat):Int)else(if d=true∧q8t A B 1 then((1:Nat):Int)else(if d=true∧q8t A B 2 then((2:Nat):Int)else 3)))=qq5 d A B:=by
 unfold qq5
 cases d
 ·simp
 ·by_cases h0:q8t A B 0<;>by_cases h1:q8t A B 1<;>by_cases h2:q8t A B 2<;>simp[h0,h1,h2]
theorem zgj{F:Nat}(hF:10≤F)(d f:Bool){A B:List Int}(hf:qye A B)(T W:List Int):qrf F (d,(f,(A,(B,(T,(W,()))))))=some (q1c d A B,(qq5 d A B,())):=by
 unfold qrf
 have s0:∀n far x6 x7,q1n F (n+1) d f A B T W x6 x7 far 0=_:=fun n far x6 x7=>qkf hF n d f hf T W x6 x7 far (i:=0) (by decide)
 have s1:∀n far x6 x7,q1n F (n+1) d f A B T W x6 x7 far 1=_:=fun n far x6 x7=>qkf hF n d f hf T W x6 x7 far (i:=1) (by decide)
 have s2:∀n far x6 x7,q1n F (n+1) d f A B T W x6 x7 far 2=_:=fun n far x6 x7=>qkf hF n d f hf T W x6 x7 far (i:=2) (by decide)
 have s3:∀n far x6 x7,q1n F (n+1) d f A B T W x6 x7 far (-1)=some (x6,(x7,(far,()))):=fun n far x6 x7=>rfl
 obtain⟨n,hn⟩:∃n,F=n+4:=⟨F-4,by omega⟩
 have key:∀(m:Nat),m=n+4→∀x6 x7:List Int,q1n F m d f A B T W x6 x7 3 2=some (x6,((((((x7.set 2 (q0o (w10 d) (A.getD 2 0))).set 6 (q0o (w10 d) (n10 d A B 2))).set 1 (q0o (w10 d) (A.getD 1 0))).set 5 (q0o (w10 d) (n10 d A B 1))).set 0 (q0o (w10 d) (A.getD 0 0))).set 4 (q0o (w10 d) (n10 d A B 0)),(qq5 d A B,()))):=by
  intro m hm x6 x7
  subst hm
  rw[←ze9 d A B]
  refine(s2 _ _ _ _).trans ((s1 _ _ _ _).trans ((s0 _ _ _ _).trans (s3 _ _ _ _)))
 simp only[key F hn,y5]
 rfl
theorem qx7{F k:Nat}(n:Int)(hn: -183≤n∧n≤183)(l x2:List Int)(hb:∀c,0≤l.getD c 0∧l.getD c 0≤255){c:Nat}(hc:c<3):
  q6v F (k+1) n l x2 c=q6v F k n (l.set c (q1w (l.getD c 0+n))) x2 ((c+1:Nat):Int):=by
 have h0:q6v F (k+1) n l x2 c=qjf F (q6v F k) n l x2 c:=rfl
 rw[h0]
 unfold qjf
 have h1:(c:Int)<3:=by omega
 have h2:(c:Int)<4:=by omega
 have lb:=hb c
 simp only[h1,h2,decide_true,cond_true,yc,yd,yb,y5,z4w,q0n (show c<1000000000000 by omega)]
 rw[w64 (by omega) (by omega)]
theorem zih{F:Nat}(hF:10≤F){n:Int}(hn: -183≤n∧n≤183){a b c e:Int}(hb:∀i,0≤([a,b,c,e]:List Int).getD i 0∧([a,b,c,e]:List Int).getD i 0≤255):q1d F [a,b,c,e] n=some ([q1w (a+n),q1w (b+n),q1w (c+n),e],()):=by
 unfold q1d
 have key:∀m,m=F→∀k,m=k+4→∀x2:List Int,q6v F m n [a,b,c,e] x2 0=some ([q1w (a+n),q1w (b+n),q1w (c+n),e],(x2,())):=fun m _ k hk x2=>by
  subst hk
  refine(qx7 (k:=k+3) n hn [a,b,c,e] x2 hb (c:=0) (by decide)).trans ?_
  refine(qx7 (k:=k+2) n hn _ x2 (qio hb 0 (q1h _)) (c:=1) (by decide)).trans ?_
  exact(qx7 (k:=k+1) n hn _ x2 (qio (qio hb 0 (q1h _)) 1 (q1h _)) (c:=2) (by decide)).trans rfl
 rw[key F rfl (F-4) (by omega)]
 rfl
theorem zgk{F:Nat}(hF:17≤F)(d f:Bool){A B T W:List Int}(hf:qye A B)(hW:∀i,0≤W.getD i 0∧W.getD i 0≤3):qrh F (d,(f,(A,(B,(T,(W,()))))))=some (qd1 d f A B T W,()):=by
 unfold qrh
 have loop:∀x6 x8:List Int,x8.length=64→q63 F F d f A B T W x6 (q1c d A B) x8 0=some (x6,(qd1 d f A B T W,())):=by
  intro x6 x8 h8
  refine qwu 16 4 (ze8 (q1c d A B) T W f) (fun i hi=>rfl) (fun k w i=>q63 F k d f A B T W x6 (q1c d A B) w i) (fun w=>some (x6,(w,()))) ?_ ?_ _ h8 F (by omega)
  ·intro k i w hi hw
   show q6w F (q63 F k) d f A B T W x6 (q1c d A B) w i=_
   unfold q6w
   have h1:(i:Int)<16:=by omega
   have hh:=qug f i
   have h2:(q3k f i:Int)<2:=by omega
   have t4:=take4 (l:=q1c d A B) (n:=q3k f i*4) (by rw[qs5];omega)
   have hw3:=hW i
   have h3:W.getD i 0<4:=by omega
   have em:W.getD i 0%4=W.getD i 0:=wa hw3.1 (by omega)
   have tb:=z4u ((T.getD (q3k f i) 0)%8).toNat (W.getD i 0).toNat
   have hadd:=zih (F:=F) (by omega) tb (a:=(q1c d A B).getD (q3k f i*4) 0) (b:=(q1c d A B).getD (q3k f i*4+1) 0) (c:=(q1c d A B).getD (q3k f i*4+2) 0) (e:=(q1c d A B).getD (q3k f i*4+3) 0)
    (fun c=>q8h (p:=fun x=>0≤x∧x≤255) (by decide) (fun x hx=>by
      simp only[yr,List.not_mem_nil,or_false]at hx
      rcases hx with rfl|rfl|rfl|rfl<;>exact qdp d A B _) c)
   simp only[h1,decide_true,cond_true,yc,yd,yb,(z4v F f i).2,y5,h2,zgg,hw3.1,h3,t4,hadd,q0n (show i<1000000000000 by omega)]
   unfold ze8 zgi
   rw[em]
  ·intro k w hw
   show q6w F (q63 F k) d f A B T W x6 (q1c d A B) w 16=_
   unfold q6w
   simp
 rw[zgj (by omega) d f hf]
 simp only[y5]
 rw[loop _ _ rfl]
 rfl
theorem z4x(b:List Int):∀i,0≤(eWs b).getD i 0∧(eWs b).getD i 0≤3:=fun i=>q8h (p:=fun x=>0≤x∧x≤3) (by decide) (fun x hx=>by
 obtain⟨j,_,rfl⟩:=List.mem_map.1 hx
 have h1:=q0u b (47-q43 j) 1
 have h2:=q0u b (63-q43 j) 1
 omega) i
theorem eFair(d:Bool)(b:List Int):qye (eAs d b) (eBs d b):=by
 have ha:∀c,0≤eA d b c∧eA d b c≤31:=fun c=>by
  have h1:=q0u b (8*c) 5
  have h2:=q0u b (8*c) 4
  unfold eA
  split<;>omega
 have hb:∀c,-4≤eB d b c∧eB d b c≤15:=fun c=>by
  have h1:=q0u b (8*c+5) 3
  have h2:=q0u b (8*c+4) 4
  unfold eB sg3
  split
  ·split<;>omega
  ·omega
 refine⟨rfl,rfl,fun i=>q8h (p:=fun x=>0≤x∧x≤31) (by decide) (fun x hx=> ?_) i,fun i=>q8h (p:=fun x=> -4≤x∧x≤15) (by decide) (fun x hx=> ?_) i⟩
 ·simp only[eAs,yr,List.not_mem_nil,or_false]at hx
  rcases hx with rfl|rfl|rfl<;>exact ha _
 ·simp only[eBs,yr,List.not_mem_nil,or_false]at hx
  rcases hx with rfl|rfl|rfl<;>exact hb _
def zk4(b:List Int):List Int:=qd1 (q8s b) (zk1 b) (eAs (q8s b) b) (eBs (q8s b) b) [hv b 24 3,hv b 27 3] (eWs b)
theorem zgl{F:Nat}(hF:66≤F){b:List Int}(hb:Bytes b)(hl:b.length=8):qdl F b=some (zk4 b,(0,()))∧qy3 F b=some (zk4 b,(0,())):=by
 unfold qdl qy3
 rw[qx5 hF hb hl,z4t hF hb hl]
 simp only[y5,eP,bne_self_eq_false,cond_false]
 rw[z89 (by omega) _ _ (eFair _ b) (z4x b),zgk (by omega) _ _ (eFair _ b) (z4x b)]
 exact⟨rfl,rfl⟩
end Go.AE.Gn
set_option linter.unusedSimpArgs false
set_option linter.unusedVariables false
namespace Go.AE.Gn
open Go Go.AE
abbrev Fits(n:Nat)(v:Int):Prop:=0≤v∧v<2^n
def lay1(st:List Int×Bool)(a n:Nat)(v:Int):List Int×Bool:=if st.2=true∧Fits n v then(hset st.1 a n v,true)else(st.1,false)
theorem qkg{F:Nat}(hF:66≤F){out:List Int}(hb:Bytes out)(hl:out.length=8){a n:Nat}(hn:n≤16)(h:a+n≤64){v:Int}(hv:IntKind.i64.has v)(fine:Bool):
  q08 F a n v out fine=some ((lay1 (out,fine) a n v).1,((lay1 (out,fine) a n v).2,())):=by
 have hv' :=has_iff.1 hv
 simp only[loB,hiB]at hv'
 have h2:(2:Int)^n≤2^16:=q3h hn
 have hp:=q6p n
 unfold q08 lay1
 by_cases hf:Fits n v
 ·have hf' :=hf
  obtain⟨f1,f2⟩:=hf
  rw[wu64 f1 (by omega),qim hF hb (by omega) (by omega) (by omega) ⟨f1,f2⟩]
  cases fine
  ·rfl
  ·simp only[y5,cond_true,beq_self_eq_true,true_and,if_pos hf']
 ·have hw:∃u,y0 .u64 v=u∧0≤u∧u≤18446744073709551615∧2^n≤u:=by
   by_cases h0:0≤v
   ·exact⟨v,wu64 h0 (by omega),h0,by omega,by unfold Fits at hf;omega⟩
   ·refine⟨v+18446744073709551616, ?_,by omega,by omega,by omega⟩
    simp only[y0,IntKind.bits,IntKind.signed]
    simp
    omega
  obtain⟨u,e,u1,u2,u3⟩:=hw
  rw[e,z80 hF hb (by omega) (by omega) ⟨u1,u2⟩]
  have hfit:qik out.length (a:Int) (n:Int) u=10:=by
   unfold qik
   rw[if_pos (z4e (by omega) (by omega)),if_pos]
   refine⟨by omega, ?_⟩
   intro h0
   have h1:=Int.emod_add_mul_ediv u (2^(n:Int).toNat)
   have h3:=Int.emod_lt_of_pos u (q6p (n:Int).toNat)
   rw[h0]at h1
   simp only[yb]at h1 h3
   omega
  simp only[hfit,y5,hf,and_false,if_false]
  cases fine<;>rfl
structure Laid (A N:Nat→Nat) (V:Nat→Int) (m:Nat) (st:List Int×Bool):Prop where
 len:st.1.length=8
 bytes:Bytes st.1
 fine:st.2=true↔∀i,i<m→Fits (N i) (V i)
 eq:st.2=true→st.1=qfl A N V [0,0,0,0,0,0,0,0] m
theorem Laid.nil(A N:Nat→Nat)(V:Nat→Int):Laid A N V 0 ([0,0,0,0,0,0,0,0],true):=
 ⟨rfl,fun x hx=>by simp at hx;omega,by simp,fun _=>rfl⟩
theorem quh{st:List Int×Bool}(hl:st.1.length=8)(hb:Bytes st.1)(a n:Nat)(v:Int):(lay1 st a n v).1.length=8∧Bytes (lay1 st a n v).1:=by
 unfold lay1
 split
 ·exact⟨by rw[qu7,hl],qil hb _ _ _⟩
 ·exact⟨hl,hb⟩
theorem Laid.step{A N:Nat→Nat}{V:Nat→Int}{m:Nat}{st:List Int×Bool}(h:Laid A N V m st):Laid A N V (m+1) (lay1 st (A m) (N m) (V m)):=by
 have hk:=quh h.len h.bytes (A m) (N m) (V m)
 refine⟨hk.1,hk.2, ?_, ?_⟩
 ·unfold lay1
  by_cases hc:st.2=true∧Fits (N m) (V m)
  ·rw[if_pos hc]
   simp only[true_iff]
   intro i hi
   rcases Nat.lt_or_ge i m with h1|h1
   ·exact h.fine.1 hc.1 i h1
   ·have:i=m:=by omega
    subst this
    exact hc.2
  ·rw[if_neg hc]
   simp only[yn,false_iff]
   exact fun hall=>hc ⟨h.fine.2 fun i hi=>hall i (by omega),hall m (by omega)⟩
 ·unfold lay1
  split
  ·rename_i hc
   intro _
   show hset st.1 (A m) (N m) (V m)=_
   rw[h.eq hc.1]
   rfl
  ·intro h2;cases h2
theorem Laid.bad{A N:Nat→Nat}{V:Nat→Int}{m:Nat}{st st' :List Int×Bool}(h:Laid A N V m st)(hl:st'.1.length=8)(hb:Bytes st'.1)(hf:st'.2=false)(hv:¬Fits (N m) (V m)):Laid A N V (m+1) st' :=
 ⟨hl,hb,by rw[hf];simp only[yn,false_iff];exact fun hall=>hv (hall m (by omega)),by rw[hf];intro h2;cases h2⟩
def jA(d:Bool)(j:Nat):Nat:=if j<6 then(if d then(if j%2=0 then 8*(j/2)else 8*(j/2)+5)else 4*j)else if j=6 then 24 else if j=7 then 27 else if j=8 then 30 else if j=9 then 31
 else if j%2=0 then 47-q43 ((j-10)/2)else 63-q43 ((j-10)/2)
def jN(d:Bool)(j:Nat):Nat:=if j<6 then(if d then(if j%2=0 then 5 else 3)else 4)else if j<8 then 3 else 1
def q74(b:Bool):Int:=if b then 1 else 0
def jV(d f:Bool)(A B T W:List Int)(j:Nat):Int:=
 if j<6 then(if j%2=0 then A.getD (j/2) 0 else if d then(if-4≤B.getD (j/2) 0∧B.getD (j/2) 0<4 then B.getD (j/2) 0%8 else-1)else B.getD (j/2) 0)
 else if j=6 then T.getD 0 0 else if j=7 then T.getD 1 0 else if j=8 then q74 d else if j=9 then q74 f
 else if 0≤W.getD ((j-10)/2) 0∧W.getD ((j-10)/2) 0≤3 then(if j%2=0 then W.getD ((j-10)/2) 0/2 else W.getD ((j-10)/2) 0%2)else-1
theorem j_pos:∀d:Bool,∀i,i<42→jA d i+jN d i≤64∧jN d i≤8:=by decide+kernel
theorem j_apart:∀d:Bool,∀i,i<42→∀j,j<42→i≠j→jA d i+jN d i≤jA d j∨jA d j+jN d j≤jA d i:=by decide+kernel
def Ok10(d:Bool)(A B T W:List Int):Prop:=
 (∀c,c<3→if d then(0≤A.getD c 0∧A.getD c 0≤31)∧(-4≤B.getD c 0∧B.getD c 0≤3)else(0≤A.getD c 0∧A.getD c 0≤15)∧(0≤B.getD c 0∧B.getD c 0≤15))∧
 (∀i,i<16→0≤W.getD i 0∧W.getD i 0≤3)∧(0≤T.getD 0 0∧T.getD 0 0≤7)∧(0≤T.getD 1 0∧T.getD 1 0≤7)
theorem zea(d f:Bool)(A B T W:List Int):Ok10 d A B T W↔∀j,j<42→Fits (jN d j) (jV d f A B T W j):=by
 have p1:(2:Int)^1=2:=rfl
 have p3:(2:Int)^3=8:=rfl
 have p4:(2:Int)^4=16:=rfl
 have p5:(2:Int)^5=32:=rfl
 constructor
 ·rintro⟨h1,h2,h3,h4⟩ j hj
  by_cases c6:j<6
  ·have hc:=h1 (j/2) (by omega)
   unfold jV jN Fits
   rw[if_pos c6,if_pos c6]
   cases d
   ·simp only[yn,if_false]at hc⊢
    rw[p4]
    split<;>omega
   ·simp only[if_true]at hc⊢
    rcases Nat.mod_two_eq_zero_or_one j with e|e
    ·simp only[e,if_true]
     rw[p5]
     omega
    ·have:¬(1:Nat)=0:=by omega
     simp only[e,this,if_false]
     rw[if_pos (by omega),p3]
     omega
  ·by_cases c6' :j=6
   ·subst c6';show Fits 3 (T.getD 0 0);unfold Fits;omega
   by_cases c7:j=7
   ·subst c7;show Fits 3 (T.getD 1 0);unfold Fits;omega
   by_cases c8:j=8
   ·subst c8;show Fits 1 (q74 d);cases d<;>decide
   by_cases c9:j=9
   ·subst c9;show Fits 1 (q74 f);cases f<;>decide
   have hw:=h2 ((j-10)/2) (by omega)
   unfold jV jN Fits
   rw[if_neg c6,if_neg (show¬j<8 by omega),if_neg c6,if_neg c6',if_neg c7,if_neg c8,if_neg c9,if_pos (by omega),p1]
   split<;>omega
 ·intro h
  refine⟨fun c hc=> ?_,fun i hi=> ?_, ?_, ?_⟩
  ·have h1:=h (2*c) (by omega)
   have h2:=h (2*c+1) (by omega)
   unfold jV jN Fits at h1 h2
   rw[if_pos (show 2*c<6 by omega),if_pos (show 2*c<6 by omega),if_pos (show 2*c%2=0 by omega),show 2*c/2=c by omega]at h1
   rw[if_pos (show 2*c+1<6 by omega),if_pos (show 2*c+1<6 by omega),if_neg (show¬(2*c+1)%2=0 by omega),show(2*c+1)/2=c by omega]at h2
   cases d
   ·simp only[yn,if_false]at h1 h2⊢
    rw[p4]at h1 h2
    omega
   ·simp only[if_true,show 2*c%2=0 by omega]at h1
    simp only[if_true,show¬(2*c+1)%2=0 by omega,if_false]at h2
    rw[p5]at h1
    simp only[if_true]
    split at h2<;>omega
  ·have h1:=h (10+2*i) (by omega)
   unfold jV jN Fits at h1
   rw[if_neg (show¬10+2*i<6 by omega),if_neg (show¬10+2*i<6 by omega),if_neg (show¬10+2*i=6 by omega),if_neg (show¬10+2*i=7 by omega),if_neg (show¬10+2*i=8 by omega),if_neg (show¬10+2*i=9 by omega),
    show(10+2*i-10)/2=i by omega]at h1
   split at h1<;>omega
  ·have:Fits 3 (T.getD 0 0):=h 6 (by omega)
   unfold Fits at this
   omega
  ·have:Fits 3 (T.getD 1 0):=h 7 (by omega)
   unfold Fits at this
   omega
theorem zii(F:Nat)(b:Bool):q8y F b=some (q74 b,()):=by cases b<;>rfl
def Is64(l:List Int):Prop:=∀i,IntKind.i64.has (l.getD i 0)
theorem Is64.of{l:List Int}(h:∀x∈l,IntKind.i64.has x):Is64 l:=fun i=>q8h (p:=fun x=>IntKind.i64.has x) (has_iff.2 (by decide)) h i
theorem qh2{F:Nat}(hF:66≤F)(k:Nat)(d f:Bool){A B:List Int}(T W:List Int)(hA:Is64 A)(hB:Is64 B){c:Nat}(hc:c<3){st:List Int×Bool}(h:Laid (jA d) (jN d) (jV d f A B T W) (2*c) st):
  ∃st',q1x F (k+1) d f A B T W st.1 st.2 c=q1x F k d f A B T W st'.1 st'.2 ((c+1:Nat):Int)∧Laid (jA d) (jN d) (jV d f A B T W) (2*c+2) st' :=by
 obtain⟨out,fine⟩:=st
 have h0:q1x F (k+1) d f A B T W out fine c=q9l F (q1x F k) d f A B T W out fine c:=rfl
 simp only[h0]
 unfold q9l
 have h1:(c:Int)<3:=by omega
 have e8:y0 .i64 ((8:Int)*(c:Int))=((8*c:Nat):Int):=by rw[w64 (by omega) (by omega)];omega
 have e4:y0 .i64 (((8*c:Nat):Int)+4)=((8*c+4:Nat):Int):=by rw[w64 (by omega) (by omega)];omega
 have e5:y0 .i64 (((8*c:Nat):Int)+5)=((8*c+5:Nat):Int):=by rw[w64 (by omega) (by omega)];omega
 have hb0:=has_iff.1 (hB c)
 simp only[loB,hiB]at hb0
 have step1:=h.step
 have k1:=quh h.len h.bytes (jA d (2*c)) (jN d (2*c)) (jV d f A B T W (2*c))
 cases d
 ·have aA:jA false (2*c)=8*c:=by simp[jA,show 2*c<6 by omega];omega
  have aN:jN false (2*c)=4:=by simp[jN,show 2*c<6 by omega]
  have aV:jV false f A B T W (2*c)=A.getD c 0:=by simp[jV,show 2*c<6 by omega]
  have bA:jA false (2*c+1)=8*c+4:=by simp[jA,show 2*c+1<6 by omega];omega
  have bN:jN false (2*c+1)=4:=by simp[jN,show 2*c+1<6 by omega]
  have bV:jV false f A B T W (2*c+1)=B.getD c 0:=by simp[jV,show 2*c+1<6 by omega,show(2*c+1)%2=1 by omega,show(2*c+1)/2=c by omega]
  have step2:=step1.step
  rw[aA,aN,aV]at k1 step1 step2
  rw[bA,bN,bV]at step2
  have g1:=qkg hF h.bytes h.len (a:=8*c) (n:=4) (by decide) (by omega) (hA c) fine
  have g2:=qkg hF k1.2 k1.1 (a:=8*c+4) (n:=4) (by decide) (by omega) (hB c) (lay1 (out,fine) (8*c) 4 (A.getD c 0)).2
  simp only[yp]at g1 g2
  refine⟨_, ?_,step2⟩
  simp only[h1,decide_true,cond_true,Bool.not_false,yc,yd,yb,e8,e4,g1,g2,y5,q0n (show c<1000000000000 by omega)]
 ·have aA:jA true (2*c)=8*c:=by simp[jA,show 2*c<6 by omega]
  have aN:jN true (2*c)=5:=by simp[jN,show 2*c<6 by omega]
  have aV:jV true f A B T W (2*c)=A.getD c 0:=by simp[jV,show 2*c<6 by omega]
  have bA:jA true (2*c+1)=8*c+5:=by simp[jA,show 2*c+1<6 by omega,show(2*c+1)%2=1 by omega,show(2*c+1)/2=c by omega]
  have bN:jN true (2*c+1)=3:=by simp[jN,show 2*c+1<6 by omega,show(2*c+1)%2=1 by omega]
  have bV:jV true f A B T W (2*c+1)=if-4≤B.getD c 0∧B.getD c 0<4 then B.getD c 0%8 else-1:=by simp[jV,show 2*c+1<6 by omega,show(2*c+1)%2=1 by omega,show(2*c+1)/2=c by omega]
  rw[aA,aN,aV]at k1 step1
  have g1:=qkg hF h.bytes h.len (a:=8*c) (n:=5) (by decide) (by omega) (hA c) fine
  have g2:=fun v hv=>qkg hF k1.2 k1.1 (a:=8*c+5) (n:=3) (by decide) (by omega) (v:=v) hv (lay1 (out,fine) (8*c) 5 (A.getD c 0)).2
  have step2:=step1.step
  rw[bA,bN,bV]at step2
  have bad2:=fun(st' :List Int×Bool) hl hb hf hv=>step1.bad (st' :=st') hl hb hf hv
  rw[bN,bV]at bad2
  have keep2:=fun v=>quh k1.1 k1.2 (8*c+5) 3 v
  simp only[yp]at g1 g2
  generalize hst:lay1 (out,fine) (8*c) 5 (A.getD c 0)=st1 at*
  generalize hB' :B.getD c 0=y at*
  simp only[h1,decide_true,cond_true,Bool.not_true,cond_false,yc,yd,yb,e8,e5,g1,hB',y5,zii,q0n (show c<1000000000000 by omega)]
  by_cases hneg:y<0
  ·simp only[hneg,decide_true,cond_true]
   by_cases hm4: -4≤y
   ·have et:y0 .i64 (y-y0 .i64 (-8*q74 (decide (-4≤y))))=y+8:=by
     simp only[hm4,decide_true,q74,if_true]
     rw[w64 (x:= -8*1) (by decide) (by decide),w64 (by omega) (by omega)]
     omega
    rw[if_pos ⟨hm4,by omega⟩,show y%8=y+8 by omega]at step2
    have hy4:y<4:=by omega
    simp only[et,g2 (y+8) (has_iff.2 (by simp only[loB,hiB];omega)),y5,hy4,decide_true]
    refine⟨lay1 st1 (8*c+5) 3 (y+8), ?_,step2⟩
    cases hq:(lay1 st1 (8*c+5) 3 (y+8)).2<;>rfl
   ·have et:y0 .i64 (y-y0 .i64 (-8*q74 (decide (-4≤y))))=y:=by
     simp only[hm4,decide_false,q74,yn,if_false]
     rw[w64 (x:= -8*0) (by decide) (by decide),w64 (by omega) (by omega)]
     omega
    rw[if_neg (by omega)]at bad2
    have hq:(lay1 st1 (8*c+5) 3 y).2=false:=by unfold lay1;rw[if_neg];unfold Fits;omega
    simp only[et,g2 y (has_iff.2 (by simp only[loB,hiB];omega)),y5,hq,cond_false]
    exact⟨((lay1 st1 (8*c+5) 3 y).1,false),rfl,bad2 _ (keep2 y).1 (keep2 y).2 rfl (by unfold Fits;omega)⟩
  ·have et:y0 .i64 (y-y0 .i64 (-8*q74 false))=y:=by
    simp only[q74,yn,if_false]
    rw[w64 (x:= -8*0) (by decide) (by decide),w64 (by omega) (by omega)]
    omega
   simp only[hneg,decide_false,cond_false,et,g2 y (has_iff.2 (by simp only[loB,hiB];omega)),y5]
   by_cases hy4:y<4
   ·rw[if_pos ⟨by omega,hy4⟩,show y%8=y by omega]at step2
    simp only[hy4,decide_true]
    refine⟨lay1 st1 (8*c+5) 3 y, ?_,step2⟩
    cases hq:(lay1 st1 (8*c+5) 3 y).2<;>rfl
   ·rw[if_neg (by omega)]at bad2
    simp only[hy4,decide_false]
    refine⟨((lay1 st1 (8*c+5) 3 y).1,false), ?_,bad2 _ (keep2 y).1 (keep2 y).2 rfl (by unfold Fits;omega)⟩
    cases hq:(lay1 st1 (8*c+5) 3 y).2<;>rfl
theorem Laid.off{A N:Nat→Nat}{V:Nat→Int}{m:Nat}{st st' :List Int×Bool}(h:Laid A N V m st)(h0:st.2=false)(hl:st'.1.length=8)(hb:Bytes st'.1)(hf:st'.2=false):Laid A N V (m+1) st' :=by
 refine⟨hl,hb, ?_, ?_⟩
 ·rw[hf]
  simp only[yn,false_iff]
  intro hall
  rw[h.fine.2 fun i hi=>hall i (by omega)]at h0
  cases h0
 ·rw[hf]
  intro h2
  cases h2
theorem z12{F:Nat}(hF:66≤F){st:List Int×Bool}(hb:Bytes st.1)(hl:st.1.length=8){a n:Nat}(hn:n≤16)(h:a+n≤64){v:Int}(hv:IntKind.i64.has v):
  q08 F a n v st.1 st.2=some ((lay1 st a n v).1,((lay1 st a n v).2,())):=qkg hF hb hl hn h hv st.2
theorem zij(out:List Int)(a n:Nat)(v:Int):lay1 (out,false) a n v=(out,false):=by unfold lay1;rw[if_neg];simp
theorem iand1(x:Int):iand .i64 x 1=x%2:=qfb (x:=x) (b:=1) (by decide)
theorem z7c{F:Nat}(hF:66≤F)(k:Nat)(d f:Bool)(A B T:List Int){W:List Int}(hW:Is64 W){i:Nat}(hi:i<16){st:List Int×Bool}(h:Laid (jA d) (jN d) (jV d f A B T W) (10+2*i) st):
  ∃st',q2m F (k+1) st.1 st.2 W i=q2m F k st'.1 st'.2 W ((i+1:Nat):Int)∧Laid (jA d) (jN d) (jV d f A B T W) (10+2*(i+1)) st' :=by
 obtain⟨out,fine⟩:=st
 have h0:q2m F (k+1) out fine W i=q9m F (q2m F k) out fine W i:=rfl
 simp only[h0]
 unfold q9m
 have h1:(i:Int)<16:=by omega
 have hc:=zar hi
 have e1:y0 .i64 ((47:Int)-(q43 i:Int))=((47-q43 i:Nat):Int):=by rw[w64 (by omega) (by omega)];omega
 have e2:y0 .i64 ((63:Int)-(q43 i:Int))=((63-q43 i:Nat):Int):=by rw[w64 (by omega) (by omega)];omega
 have hw:=has_iff.1 (hW i)
 simp only[loB,hiB]at hw
 have aA:jA d (10+2*i)=47-q43 i:=by
  unfold jA
  rw[if_neg (by omega),if_neg (by omega),if_neg (by omega),if_neg (by omega),if_neg (by omega),if_pos (by omega),show(10+2*i-10)/2=i by omega]
 have bA:jA d (10+2*i+1)=63-q43 i:=by
  unfold jA
  rw[if_neg (by omega),if_neg (by omega),if_neg (by omega),if_neg (by omega),if_neg (by omega),if_neg (by omega),show(10+2*i+1-10)/2=i by omega]
 have aN:jN d (10+2*i)=1:=by unfold jN;rw[if_neg (by omega),if_neg (by omega)]
 have bN:jN d (10+2*i+1)=1:=by unfold jN;rw[if_neg (by omega),if_neg (by omega)]
 have aV:jV d f A B T W (10+2*i)=if 0≤W.getD i 0∧W.getD i 0≤3 then W.getD i 0/2 else-1:=by
  unfold jV
  rw[if_neg (by omega),if_neg (by omega),if_neg (by omega),if_neg (by omega),if_neg (by omega),show(10+2*i-10)/2=i by omega,if_pos (show(10+2*i)%2=0 by omega)]
 have bV:jV d f A B T W (10+2*i+1)=if 0≤W.getD i 0∧W.getD i 0≤3 then W.getD i 0%2 else-1:=by
  unfold jV
  rw[if_neg (by omega),if_neg (by omega),if_neg (by omega),if_neg (by omega),if_neg (by omega),show(10+2*i+1-10)/2=i by omega,if_neg (show¬(10+2*i+1)%2=0 by omega)]
 have sh:ishr .i64 (W.getD i 0) 1=W.getD i 0/2:=z4m (x:=W.getD i 0) (k:=1) (by decide)
 have l1:=fun(o:List Int) (hb:Bytes o) (hl:o.length=8) (fl:Bool) (v:Int) (hv:IntKind.i64.has v)=>qkg hF hb hl (a:=47-q43 i) (n:=1) (by decide) (by omega) hv fl
 have l2:=fun(o:List Int) (hb:Bytes o) (hl:o.length=8) (fl:Bool) (v:Int) (hv:IntKind.i64.has v)=>qkg hF hb hl (a:=63-q43 i) (n:=1) (by decide) (by omega) hv fl
 have m1:IntKind.i64.has (W.getD i 0/2%2):=has_iff.2 (by simp only[loB,hiB];omega)
 have m2:IntKind.i64.has (W.getD i 0%2):=has_iff.2 (by simp only[loB,hiB];omega)
 simp only[yp]at l1 l2
 have off:∀v1 v2,q08 F ((47-q43 i:Nat):Int) 1 v1 out false=some (out,(false,()))→q08 F ((63-q43 i:Nat):Int) 1 v2 out false=some (out,(false,()))→True:=fun _ _ _ _=>trivial
 have o1:q08 F ((47-q43 i:Nat):Int) 1 (W.getD i 0/2%2) out false=some (out,(false,())):=by rw[l1 out h.bytes h.len false _ m1,zij]
 have o2:q08 F ((63-q43 i:Nat):Int) 1 (W.getD i 0%2) out false=some (out,(false,())):=by rw[l2 out h.bytes h.len false _ m2,zij]
 simp only[h1,decide_true,cond_true,yc,yd,yb,z4s F hi,y5,e1,e2,sh,iand1,q0n (show i<1000000000000 by omega)]
 cases fine
 ·simp only[cond_false,o1,o2,y5]
  exact⟨(out,false),rfl,(h.off rfl (st' :=(out,false)) h.len h.bytes rfl).off rfl h.len h.bytes rfl⟩
 ·simp only[cond_true]
  by_cases hg:0≤W.getD i 0∧W.getD i 0≤3
  ·have h4:W.getD i 0<4:=by omega
   have step1:=h.step
   have k1:=quh h.len h.bytes (47-q43 i) 1 (W.getD i 0/2)
   have step2:=step1.step
   rw[aA,aN,aV,if_pos hg]at step1 step2
   rw[bA,bN,bV,if_pos hg]at step2
   have em:W.getD i 0/2%2=W.getD i 0/2:=by omega
   rw[em]at m1
   simp only[hg.1,decide_true,cond_true,h4,em,l1 out h.bytes h.len true _ m1,y5,l2 _ k1.2 k1.1 _ _ m2]
   exact⟨_,rfl,step2⟩
  ·have b1:=h.bad (st' :=(out,false)) h.len h.bytes rfl (by rw[aN,aV,if_neg hg];unfold Fits;omega)
   refine⟨(out,false), ?_,b1.off rfl h.len h.bytes rfl⟩
   by_cases hn:0≤W.getD i 0
   ·have h4:¬W.getD i 0<4:=by omega
    simp only[hn,h4,decide_true,decide_false,cond_true,o1,o2,y5]
   ·simp only[hn,decide_false,cond_false,o1,o2,y5]
theorem qyf{F:Nat}(hF:66≤F)(d f:Bool)(A B T:List Int){W:List Int}(hW:Is64 W):∀(k i:Nat) (st:List Int×Bool),i≤16→16-i<k→Laid (jA d) (jN d) (jV d f A B T W) (10+2*i) st→
  ∃st',q2m F k st.1 st.2 W i=some (st'.1,(st'.2,()))∧Laid (jA d) (jN d) (jV d f A B T W) 42 st'
 |0,i,st,_,h,_=>by omega
 |k+1,i,st,hi,hk,h=>by
  by_cases h16:i<16
  ·obtain⟨st',e,h'⟩:=z7c hF k d f A B T hW h16 h
   rw[e]
   exact qyf hF d f A B T hW k (i+1) st' (by omega) (by omega) h'
  ·have:i=16:=by omega
   subst this
   exact⟨st,rfl,h⟩
instance (d:Bool) (A B T W:List Int):Decidable (Ok10 d A B T W):=by
 unfold Ok10
 have:∀c,Decidable (if d then(0≤A.getD c 0∧A.getD c 0≤31)∧(-4≤B.getD c 0∧B.getD c 0≤3)else(0≤A.getD c 0∧A.getD c 0≤15)∧(0≤B.getD c 0∧B.getD c 0≤15)):=fun c=>by
  cases d<;>simp only[yn,if_false,if_true]<;>exact inferInstance
 exact inferInstance
def qip(d f:Bool)(A B T W:List Int):List Int:=qfl (jA d) (jN d) (jV d f A B T W) [0,0,0,0,0,0,0,0] 42
theorem zn3{F:Nat}(hF:66≤F)(d f:Bool){A B T W:List Int}(hA:Is64 A)(hB:Is64 B)(hT:Is64 T)(hW:Is64 W):
  qeg F (d,(f,(A,(B,(T,(W,()))))))=if Ok10 d A B T W then some (qip d f A B T W,(0,()))else some ([],(1,())):=by
 unfold qeg
 obtain⟨n,hn⟩:∃n,F=n+4:=⟨F-4,by omega⟩
 have colours:∀(m:Nat),m=n+4→∃st:List Int×Bool,q1x F m d f A B T W [0,0,0,0,0,0,0,0] true 0=some (d,(f,(A,(B,(T,(W,(st.1,(st.2,()))))))))∧Laid (jA d) (jN d) (jV d f A B T W) 6 st:=by
  intro m hm
  subst hm
  obtain⟨s1,e1,h1⟩:=qh2 hF (n+3) d f T W hA hB (c:=0) (by decide) (Laid.nil _ _ _)
  obtain⟨s2,e2,h2⟩:=qh2 hF (n+2) d f T W hA hB (c:=1) (by decide) h1
  obtain⟨s3,e3,h3⟩:=qh2 hF (n+1) d f T W hA hB (c:=2) (by decide) h2
  exact⟨s3,e1.trans (e2.trans (e3.trans rfl)),h3⟩
 obtain⟨st6,e6,l6⟩:=colours F hn
 have l7:=l6.step
 have l8:=l7.step
 have l9:=l8.step
 have l10:=l9.step
 have f6:jA d 6=24∧jN d 6=3∧jV d f A B T W 6=T.getD 0 0:=⟨rfl,rfl,rfl⟩
 have f7:jA d 7=27∧jN d 7=3∧jV d f A B T W 7=T.getD 1 0:=⟨rfl,rfl,rfl⟩
 have f8:jA d 8=30∧jN d 8=1∧jV d f A B T W 8=q74 d:=⟨rfl,rfl,rfl⟩
 have f9:jA d 9=31∧jN d 9=1∧jV d f A B T W 9=q74 f:=⟨rfl,rfl,rfl⟩
 rw[f6.1,f6.2.1,f6.2.2]at l7 l8 l9 l10
 rw[f7.1,f7.2.1,f7.2.2]at l8 l9 l10
 rw[f8.1,f8.2.1,f8.2.2]at l9 l10
 rw[f9.1,f9.2.1,f9.2.2]at l10
 have g6:=z12 hF l6.bytes l6.len (a:=24) (n:=3) (by decide) (by decide) (hT 0)
 have g7:=z12 hF l7.bytes l7.len (a:=27) (n:=3) (by decide) (by decide) (hT 1)
 have g8:=z12 hF l8.bytes l8.len (a:=30) (n:=1) (by decide) (by decide) (v:=q74 d) (by cases d<;>exact has_iff.2 (by decide))
 have g9:=z12 hF l9.bytes l9.len (a:=31) (n:=1) (by decide) (by decide) (v:=q74 f) (by cases f<;>exact has_iff.2 (by decide))
 obtain⟨st,e,l42⟩:=qyf hF d f A B T hW F 0 _ (by omega) (by omega) l10
 simp only[yp]at g6 g7 g8 g9
 rw[yq]at e
 have e6' :q1x F F d f A B T W qdk true 0=_:=e6
 simp only[e6',y5,g6,g7,g8,g9,zii,e]
 have hfine:=l42.fine
 rw[←zea]at hfine
 by_cases hok:Ok10 d A B T W
 ·have:=hfine.2 hok
  rw[if_pos hok,this,l42.eq this]
  rfl
 ·have:st.2=false:=by
   cases hq:st.2
   ·rfl
   ·exact absurd (hfine.1 hq) hok
  rw[if_neg hok,this]
  rfl
def jl(d f:Bool)(A B T W:List Int)(m:Nat):List Int:=qfl (jA d) (jN d) (jV d f A B T W) [0,0,0,0,0,0,0,0] m
theorem zik:Bytes [0,0,0,0,0,0,0,0]:=fun x hx=>by simp at hx;omega
theorem jl_bytes(d f:Bool)(A B T W:List Int)(m:Nat):Bytes (jl d f A B T W m):=q4v _ _ _ zik m
theorem jl_len(d f:Bool)(A B T W:List Int)(m:Nat):(jl d f A B T W m).length=8:=by unfold jl;rw[q5z];rfl
theorem Ok10.which{d:Bool}{A B T W:List Int}(h:Ok10 d A B T W)(hW:W.length=16):∀i,0≤W.getD i 0∧W.getD i 0≤3:=fun i=>by
 rcases Nat.lt_or_ge i 16 with hc|hc
 ·exact h.2.1 i hc
 ·rw[ye,w8 (by omega)];decide
end Go.AE.Gn
set_option linter.unusedSimpArgs false
set_option linter.unusedVariables false
namespace Go.AE.Gn
open Go Go.AE
theorem list3{l:List Int}(h:l.length=3):[l.getD 0 0,l.getD 1 0,l.getD 2 0]=l:=by
 match l,h with
 |[a,b,c],_=>rfl
theorem list2{l:List Int}(h:l.length=2):[l.getD 0 0,l.getD 1 0]=l:=by
 match l,h with
 |[a,b],_=>rfl
theorem zk5{l:List Int}{n:Nat}(h:l.length=n):(yz n).map (fun i=>l.getD i 0)=l:=by
 subst h
 apply List.ext_getElem (by simp)
 intro i h1 h2
 simp[ye,h2]
theorem q7w{d f:Bool}{A B T W:List Int}(h:Ok10 d A B T W){j:Nat}(hj:j<42){a n:Nat}{v:Int}(ha:jA d j=a)(hn:jN d j=n)(hv' :jV d f A B T W j=v):hv (qip d f A B T W) a n=v:=by
 subst ha hn hv'
 exact zi5 zik (fun i hi=>(j_pos d i hi).1) (fun i j hi hj=>j_apart d i hi j hj) ((zea d f A B T W).1 h) hj
theorem eP_join{d f:Bool}{A B T W:List Int}(h:Ok10 d A B T W)(lA:A.length=3)(lB:B.length=3)(lT:T.length=2)(lW:W.length=16):eP (qip d f A B T W)=(d,(f,(A,(B,(T,(W,())))))):=by
 have hd:q8s (qip d f A B T W)=d:=by
  unfold q8s
  rw[q7w h (j:=8) (by decide) (a:=30) (n:=1) (v:=q74 d) rfl rfl rfl]
  cases d<;>rfl
 have hf:zk1 (qip d f A B T W)=f:=by
  unfold zk1
  rw[q7w h (j:=9) (by decide) (a:=31) (n:=1) (v:=q74 f) rfl rfl rfl]
  cases f<;>rfl
 have hA:eAs d (qip d f A B T W)=A:=by
  have key:∀c,c<3→eA d (qip d f A B T W) c=A.getD c 0:=by
   intro c hc
   unfold eA
   cases d
   ·rw[if_neg (by decide)]
    exact q7w h (j:=2*c) (by omega) (by simp[jA,show 2*c<6 by omega];omega) (by simp[jN,show 2*c<6 by omega]) (by simp[jV,show 2*c<6 by omega])
   ·rw[if_pos rfl]
    exact q7w h (j:=2*c) (by omega) (by simp[jA,show 2*c<6 by omega]) (by simp[jN,show 2*c<6 by omega]) (by simp[jV,show 2*c<6 by omega])
  unfold eAs
  rw[key 0 (by decide),key 1 (by decide),key 2 (by decide)]
  exact list3 lA
 have hB:eBs d (qip d f A B T W)=B:=by
  have key:∀c,c<3→eB d (qip d f A B T W) c=B.getD c 0:=by
   intro c hc
   unfold eB
   cases d
   ·rw[if_neg (by decide)]
    exact q7w h (j:=2*c+1) (by omega) (by simp[jA,show 2*c+1<6 by omega];omega) (by simp[jN,show 2*c+1<6 by omega])
     (by simp[jV,show 2*c+1<6 by omega,show(2*c+1)%2=1 by omega,show(2*c+1)/2=c by omega])
   ·have hc2:=h.1 c hc
    simp only[if_true]at hc2
    rw[if_pos rfl,q7w h (j:=2*c+1) (by omega) (a:=8*c+5) (n:=3) (v:=B.getD c 0%8) (by simp[jA,show 2*c+1<6 by omega,show(2*c+1)%2=1 by omega,show(2*c+1)/2=c by omega])
     (by simp[jN,show 2*c+1<6 by omega,show(2*c+1)%2=1 by omega])
     (by
      unfold jV
      rw[if_pos (by omega),if_neg (by omega),show(2*c+1)/2=c by omega,if_pos rfl,if_pos (by omega)])]
    unfold sg3
    split<;>omega
  unfold eBs
  rw[key 0 (by decide),key 1 (by decide),key 2 (by decide)]
  exact list3 lB
 have hW:eWs (qip d f A B T W)=W:=by
  unfold eWs
  conv=>rhs;rw[←zk5 lW]
  refine List.map_congr_left fun i hi=> ?_
  have hi:i<16:=by simpa using hi
  have hg:=h.2.1 i hi
  rw[q7w h (j:=10+2*i) (by omega) (a:=47-q43 i) (n:=1) (v:=W.getD i 0/2)
    (by unfold jA;rw[if_neg (by omega),if_neg (by omega),if_neg (by omega),if_neg (by omega),if_neg (by omega),if_pos (by omega),show(10+2*i-10)/2=i by omega])
    (by unfold jN;rw[if_neg (by omega),if_neg (by omega)])
    (by unfold jV;rw[if_neg (by omega),if_neg (by omega),if_neg (by omega),if_neg (by omega),if_neg (by omega),show(10+2*i-10)/2=i by omega,if_pos hg,if_pos (show(10+2*i)%2=0 by omega)]),
   q7w h (j:=10+2*i+1) (by omega) (a:=63-q43 i) (n:=1) (v:=W.getD i 0%2)
    (by unfold jA;rw[if_neg (by omega),if_neg (by omega),if_neg (by omega),if_neg (by omega),if_neg (by omega),if_neg (by omega),show(10+2*i+1-10)/2=i by omega])
    (by unfold jN;rw[if_neg (by omega),if_neg (by omega)])
    (by unfold jV;rw[if_neg (by omega),if_neg (by omega),if_neg (by omega),if_neg (by omega),if_neg (by omega),show(10+2*i+1-10)/2=i by omega,if_pos hg,if_neg (show¬(10+2*i+1)%2=0 by omega)])]
  omega
 unfold eP
 rw[hd,hf,hA,hB,hW,q7w h (j:=6) (by decide) (a:=24) (n:=3) rfl rfl rfl,q7w h (j:=7) (by decide) (a:=27) (n:=3) rfl rfl rfl]
 show(d,(f,(A,(B,([T.getD 0 0,T.getD 1 0],(W,()))))))=_
 rw[list2 lT]
theorem zk6(d f:Bool)(A B T W:List Int):(qip d f A B T W).length=8:=jl_len d f A B T W 42
theorem zeb(d f:Bool)(A B T W:List Int):Bytes (qip d f A B T W):=jl_bytes d f A B T W 42
end Go.AE.Gn
set_option linter.unusedVariables false
set_option linter.unusedSimpArgs false
namespace Go.AE.Gn
open Go Go.AE
def pk(b:List Int)(L:List Nat):Nat→Int
 |0=>0
 |i+1=>2*pk b L i+hv b (L.getD i 0) 1
theorem qui(b:List Int)(L:List Nat):∀i,0≤pk b L i∧pk b L i<2^i
 |0=>by simp[pk]
 |i+1=>by
  have h:=qui b L i
  have h1:=q0u b (L.getD i 0) 1
  simp only[pk,Int.pow_succ]
  omega
theorem zn4:((yz 2048).all fun n=>(yz 2).all fun v=>ior .i64 (ishl .i64 (n:Int) 1) v==2*(n:Int)+v)=true:=by kernel_rfl
theorem or_bit{n v:Int}(hn:0≤n∧n<2048)(hv:0≤v∧v≤1):ior .i64 (ishl .i64 n 1) v=2*n+v:=by
 obtain⟨n,rfl⟩:=yh hn.1
 obtain⟨v,rfl⟩:=yh hv.1
 have:=List.all_eq_true.1 (List.all_eq_true.1 zn4 n (List.mem_range.2 (by omega))) v (List.mem_range.2 (by omega))
 simpa using this
theorem zk7:((yz 2048).all fun n=>ishl .i64 (n:Int) 1==2*(n:Int))=true:=by kernel_rfl
theorem shl_one{n:Int}(hn:0≤n∧n<2048):ishl .i64 n 1=2*n:=by
 obtain⟨n,rfl⟩:=yh hn.1
 have:=List.all_eq_true.1 zk7 n (List.mem_range.2 (by omega))
 simpa using this
def q3a(L:List Nat):List Int:=List.map (fun a:Nat=>Int.ofNat a) L
theorem quj(L:List Nat)(i:Nat):(q3a L).getD i 0=((L.getD i 0:Nat):Int):=by
 unfold q3a
 rw[ye,ye,List.getElem?_map]
 cases L[i]? <;>rfl
theorem qch(L:List Nat):(q3a L).length=L.length:=by simp[q3a]
def Posn(L:List Nat):Prop:=L.length≤12∧∀i,L.getD i 0<64
theorem hvT(b:List Int)(a n:Nat)(hn:n≤16):y0 .i64 (hv b a n)=hv b a n:=by
 have h1:=q0u b a n
 have h2:(2:Int)^n≤2^16:=q3h hn
 exact w64 (by omega) (by omega)
theorem zk8{b:List Int}(hb:Bytes b)(hl:b.length=8)(x1:Bool)(x2:Bool)(x3:List Int)(x4:List Int)(x5:List Int)(x6:List Int)(x7:Bool){L:List Nat}(hL:Posn L):
  ∀(d i k:Nat),i+d=L.length→d<k→q1q 600 k b x1 x2 x3 x4 x5 x6 x7 (pk b L i) (q3a L) ((L.length:Int)) ((i:Int))=some (pk b L L.length,()):=by
 intro d
 induction d with
 |zero=>
  intro i k h1 h2
  obtain⟨k,rfl⟩:∃k',k=k' +1:=⟨k-1,by omega⟩
  obtain rfl:i=L.length:=by omega
  unfold q1q q51
  simp only[Int.lt_irrefl,decide_false,cond_false]
 |succ d ih=>
  intro i k h1 h2
  obtain⟨k,rfl⟩:∃k',k=k' +1:=⟨k-1,by omega⟩
  have hlen:=hL.1
  have i1:(i:Int)<(L.length:Int):=by omega
  have hp:=qui b L i
  have hp2:(2:Int)^i≤2^11:=q3h (by omega)
  have hv1:=q0u b (L.getD i 0) 1
  have ha:=hL.2 i
  have r:q9h 600 b ((L.getD i 0:Nat):Int) (1:Int)=_:=zac (n:=1) (by omega) hb (by omega) (by omega) (by omega)
  unfold q1q q51
  simp only[i1,decide_true,cond_true,yc,yd,yb,qch,quj,r,y5,hvT b _ 1 (by omega)]
  rw[q0n (by omega),or_bit (by omega) (by omega),show 2*pk b L i+hv b (L.getD i 0) 1=pk b L (i+1)from rfl]
  exact ih (i+1) k (by omega) (by omega)
theorem qqy{b:List Int}(hb:Bytes b)(hl:b.length=8)(a1 a2:Bool)(a3 a4 a5 a6:List Int)(a7:Bool){L:List Nat}(hL:Posn L):q07 600 b a1 a2 a3 a4 a5 a6 a7 (q3a L)=some (pk b L L.length,()):=by
 unfold q07
 have h:=zk8 hb hl a1 a2 a3 a4 a5 a6 a7 hL L.length 0 600 (by omega) (by have:=hL.1;omega)
 rw[show pk b L 0=0 from rfl,show((0:Nat):Int)=0 from rfl]at h
 rw[qch,h]
 rfl
theorem zgm{b:List Int}(hb:Bytes b)(hl:b.length=8){L:List Nat}(hL:Posn L):
  ∀(d i k:Nat),i+d=L.length→d<k→q9p 600 k b (q3a L) (pk b L i) (i:Int)=some (pk b L L.length,()):=by
 intro d
 induction d with
 |zero=>
  intro i k h1 h2
  obtain⟨k,rfl⟩:∃k',k=k' +1:=⟨k-1,by omega⟩
  obtain rfl:i=L.length:=by omega
  unfold q9p qgt
  simp only[qch,Int.lt_irrefl,decide_false,cond_false]
 |succ d ih=>
  intro i k h1 h2
  obtain⟨k,rfl⟩:∃k',k=k' +1:=⟨k-1,by omega⟩
  have hlen:=hL.1
  have i1:(i:Int)<(L.length:Int):=by omega
  have hp:=qui b L i
  have hp2:(2:Int)^i≤2^11:=q3h (by omega)
  have hv1:=q0u b (L.getD i 0) 1
  have ha:=hL.2 i
  have r:q3s 600 b ((L.getD i 0:Nat):Int) (1:Int)=_:=qlz (n:=1) (by omega) hb hl (by omega) (by omega)
  unfold q9p qgt
  simp only[qch,i1,decide_true,cond_true,yc,yd,yb,quj,r,y5]
  rw[q0n (by omega),w64 (x:=2*pk b L i) (by omega) (by omega),w64 (by omega) (by omega),show 2*pk b L i+hv b (L.getD i 0) 1=pk b L (i+1)from rfl]
  exact ih (i+1) k (by omega) (by omega)
theorem qop{b:List Int}(hb:Bytes b)(hl:b.length=8){L:List Nat}(hL:Posn L):q2k 600 b (q3a L)=some (pk b L L.length,()):=by
 unfold q2k
 have h:=zgm hb hl hL L.length 0 600 (by omega) (by have:=hL.1;omega)
 rw[show pk b L 0=0 from rfl,show((0:Nat):Int)=0 from rfl]at h
 rw[h]
 rfl
theorem qat{b:List Int}(hb:Bytes b)(hl:b.length=8)(a1 a2:Bool)(a3 a4 a5 a6:List Int)(a7:Bool){x y:Int}{a n:Nat}(hx:x=a)(hy:y=(a:Int)+n-1)(hn:n≤16)(h:a+n≤64):
  q05 600 b a1 a2 a3 a4 a5 a6 a7 x y=some (hv b a n,())∧q22 600 b x y=some (hv b a n,()):=by
 subst hx
 subst hy
 have e:y0 .i64 (y0 .i64 ((a:Int)+n-1-a)+1)=(n:Int):=by
  rw[w64 (x:=(a:Int)+n-1-a) (by omega) (by omega),w64 (by omega) (by omega)]
  omega
 unfold q05 q22
 rw[e,zac (by omega) hb (by omega) (by omega) (by omega),qlz (by omega) hb hl hn h]
 simp only[y5,hvT b a n hn,and_self]
theorem z8a(x y z:Int){p q r:Nat}(hp:1≤p∧p≤8)(hq:1≤q∧q≤8)(hr:1≤r∧r≤8)(k:Nat)(x1:List Int):
  q2r 600 (k+4) [(p:Int),(q:Int),(r:Int)] x1 [0,0,0,255] [x,y,z] 0=some (x1,([q0o p x,q0o q y,q0o r z,255],())):=by
 have e0:=qbc (F:=600) (by omega) hp x
 have e1:=qbc (F:=600) (by omega) hq y
 have e2:=qbc (F:=600) (by omega) hr z
 unfold q2r q54
 simp only[show(0:Int)<3 by decide,show(0:Int)<4 by decide,decide_true,cond_true,Int.le_refl,yd,show y6 0=0 from rfl,yt,e0,y5,List.set_cons_zero,show y0 .i64 (0+1)=1 from rfl]
 unfold q2r q54
 simp only[show(1:Int)<3 by decide,show(1:Int)<4 by decide,show(0:Int)≤1 by decide,decide_true,cond_true,yd,show y6 1=1 from rfl,yt,yu,e1,y5,List.set_cons_zero,List.set_cons_succ,show y0 .i64 (1+1)=2 from rfl]
 unfold q2r q54
 simp only[show(2:Int)<3 by decide,show(2:Int)<4 by decide,show(0:Int)≤2 by decide,decide_true,cond_true,yd,show y6 2=2 from rfl,yt,yu,e2,y5,List.set_cons_zero,List.set_cons_succ,show y0 .i64 (2+1)=3 from rfl]
 unfold q2r q54
 simp only[Int.lt_irrefl,decide_false,cond_false]
def q7x(x y z:Int):List Int:=[q0o 4 x,q0o 4 y,q0o 4 z,255]
def qag(x y z:Int):List Int:=[q0o 6 x,q0o 7 y,q0o 6 z,255]
theorem zil(x y z:Int):q4i 600 [x,y,z]=some (q7x x y z,()):=by
 unfold q4i qel
 have h:=z8a x y z (p:=4) (q:=4) (r:=4) (by omega) (by omega) (by omega) 596 [0,0,0,0]
 rw[show(596+4:Nat)=600 from rfl]at h
 simp only[show((4:Nat):Int)=4 from rfl]at h
 rw[h]
 rfl
theorem plane_is(x y z:Int):q90 600 [x,y,z]=some (qag x y z,()):=by
 unfold q90 qel
 have h:=z8a x y z (p:=6) (q:=7) (r:=6) (by omega) (by omega) (by omega) 596 [0,0,0,0]
 rw[show(596+4:Nat)=600 from rfl]at h
 simp only[show((6:Nat):Int)=6 from rfl,show((7:Nat):Int)=7 from rfl]at h
 rw[h]
 rfl
def Small(x:Int):Prop:=0≤x∧x<100000
theorem Small.w{x:Int}(h:Small x): -9000000000000000000≤x∧x≤9000000000000000000:=by unfold Small at h;omega
theorem qph{x y z:Int}(hx:Small x)(hy:Small y)(hz:Small z):q2b 600 [x,y,z]=some (q7x x y z,()):=by
 unfold q2b
 have e0:q0c 600 x 4=_:=qbt (b:=4) (by omega) (by omega) hx.w
 have e1:q0c 600 y 4=_:=qbt (b:=4) (by omega) (by omega) hy.w
 have e2:q0c 600 z 4=_:=qbt (b:=4) (by omega) (by omega) hz.w
 simp only[yt,yu,e0,e1,e2,y5]
 rfl
theorem zk9{l:List Int}(h:∀i,-9000000000000000000≤l.getD i 0∧l.getD i 0≤9000000000000000000):qe0 600 l=some (qag (l.getD 0 0) (l.getD 1 0) (l.getD 2 0),()):=by
 unfold qe0
 have e0:q0c 600 (l.getD 0 0) 6=_:=qbt (b:=6) (by omega) (by omega) (h 0)
 have e1:q0c 600 (l.getD 1 0) 7=_:=qbt (b:=7) (by omega) (by omega) (h 1)
 have e2:q0c 600 (l.getD 2 0) 6=_:=qbt (b:=6) (by omega) (by omega) (h 2)
 simp only[e0,e1,e2,y5]
 rfl
def qah(n:Int):Int:=etctwo_DistanceT1261.getD (n%8).toNat 0
theorem qs6(n:Int):q55 600 n=some (qah n,()):=by
 unfold q55 qah
 rw[iand7]
 have h1:(0:Int)≤n%8:=by omega
 have h2:n%8<8:=by omega
 simp only[h1,h2,decide_true,yd,cond_true]
theorem qyg{n:Int}(hn: -9223372036854775808≤n∧n≤9223372036854775807):q7o 600 n=some (qah n,()):=by
 unfold q7o qah
 have hf:=zi7 (x:=n) (m:=8) (by decide)
 by_cases h:yv n 8<0
 ·rw[if_pos h]at hf
  have hlo: -8<yv n 8:=Int.lt_tmod_of_pos n (by decide)
  have e:y0 .i64 (yv n 8+8)=n%8:=by
   rw[w64 (by omega) (by omega),hf]
  have h1:(0:Int)≤n%8:=by omega
  have h2:n%8<8:=by omega
  simp only[h,decide_true,cond_true,e,h1,h2,yd]
 ·rw[if_neg h]at hf
  have h1:(0:Int)≤n%8:=by omega
  have h2:n%8<8:=by omega
  have h3:¬n%8<0:=by omega
  simp only[hf,h3,decide_false,cond_false,h1,h2,decide_true,yd,cond_true]
theorem qs7(n:Int):0≤qah n∧qah n≤64:=by
 unfold qah
 exact q8h (p:=fun x=>0≤x∧x≤64) (by decide) (by decide) _
def addV(l:List Int)(n:Int):List Int:=[q1w (l.getD 0 0+n),q1w (l.getD 1 0+n),q1w (l.getD 2 0+n),l.getD 3 0]
theorem zka{a b c e n:Int}(ha:0≤a∧a≤255)(hb:0≤b∧b≤255)(hc:0≤c∧c≤255)(hn: -64≤n∧n≤64)(k:Nat)(x2:List Int):
  q21 600 (k+4) n [a,b,c,e] x2 0=some ([q1w (a+n),q1w (b+n),q1w (c+n),e],(x2,())):=by
 have ea:y0 .i64 (a+n)=a+n:=w64 (by omega) (by omega)
 have eb:y0 .i64 (b+n)=b+n:=w64 (by omega) (by omega)
 have ec:y0 .i64 (c+n)=c+n:=w64 (by omega) (by omega)
 unfold q21 q4b
 simp only[show(0:Int)<3 by decide,show(0:Int)<4 by decide,decide_true,cond_true,Int.le_refl,yd,show y6 0=0 from rfl,yt,ea,qe3,y5,List.set_cons_zero,show y0 .i64 (0+1)=1 from rfl]
 unfold q21 q4b
 simp only[show(1:Int)<3 by decide,show(1:Int)<4 by decide,show(0:Int)≤1 by decide,decide_true,cond_true,yd,show y6 1=1 from rfl,yt,yu,eb,qe3,y5,List.set_cons_zero,List.set_cons_succ,show y0 .i64 (1+1)=2 from rfl]
 unfold q21 q4b
 simp only[show(2:Int)<3 by decide,show(2:Int)<4 by decide,show(0:Int)≤2 by decide,decide_true,cond_true,yd,show y6 2=2 from rfl,yt,yu,ec,qe3,y5,List.set_cons_zero,List.set_cons_succ,show y0 .i64 (2+1)=3 from rfl]
 unfold q21 q4b
 simp only[Int.lt_irrefl,decide_false,cond_false]
theorem zec(x y z:Int)(i:Nat):0≤(q7x x y z).getD i 0∧(q7x x y z).getD i 0≤255:=by
 have h1:=q0p (b:=4) (by omega) x
 have h2:=q0p (b:=4) (by omega) y
 have h3:=q0p (b:=4) (by omega) z
 exact q8h (p:=fun x=>0≤x∧x≤255) (by decide) (fun v hv=>by
  simp only[q7x,yr,List.not_mem_nil,or_false]at hv
  rcases hv with rfl|rfl|rfl|rfl<;>omega) i
theorem qoq(x y z:Int)(i:Nat):0≤(qag x y z).getD i 0∧(qag x y z).getD i 0≤255:=by
 have h1:=q0p (b:=6) (by omega) x
 have h2:=q0p (b:=7) (by omega) y
 have h3:=q0p (b:=6) (by omega) z
 exact q8h (p:=fun x=>0≤x∧x≤255) (by decide) (fun v hv=>by
  simp only[qag,yr,List.not_mem_nil,or_false]at hv
  rcases hv with rfl|rfl|rfl|rfl<;>omega) i
theorem qbu(x y z:Int){n:Int}(hn: -64≤n∧n≤64):q0h 600 (q7x x y z) n=some (addV (q7x x y z) n,())∧q1d 600 (q7x x y z) n=some (addV (q7x x y z) n,()):=by
 have hb:=zec x y z
 have h:=zka (a:=q0o 4 x) (b:=q0o 4 y) (c:=q0o 4 z) (e:=255) (n:=n) (hb 0) (hb 1) (hb 2) hn 596 [0,0,0,0]
 rw[show(596+4:Nat)=600 from rfl]at h
 refine⟨?_,zih (by omega) (by omega) hb⟩
 unfold q0h q7x
 rw[h]
 rfl
end Go.AE.Gn
set_option linter.unusedVariables false
set_option linter.unusedSimpArgs false
namespace Go.AE.Gn
open Go Go.AE
def qm0(o h v:Int)(i:Nat):Int:=((i%4:Nat):Int)*(h-o)+((i/4:Nat):Int)*(v-o)+4*o+2
def q44(o h v:List Int)(j:Nat):Int:=if j%4=3 then 255 else q1w (qm0 (o.getD (j%4) 0) (h.getD (j%4) 0) (v.getD (j%4) 0) (j/4)/4)
def quk(l:List Int):Prop:=∀i,0≤l.getD i 0∧l.getD i 0≤255
theorem zkb{o h v:Int}(ho:0≤o∧o≤255)(hh:0≤h∧h≤255)(hv:0≤v∧v≤255){i:Nat}(hi:i<16):
  y0 .i64 (y0 .i64 (y0 .i64 (y0 .i64 (yv (i:Int) 4*y0 .i64 (h-o))+y0 .i64 (y0 .i64 (yw (i:Int) 4)*y0 .i64 (v-o)))+y0 .i64 (4*o))+2)=qm0 o h v i∧-4000≤qm0 o h v i∧qm0 o h v i≤4000:=by
 have em:yv (i:Int) 4=((i%4:Nat):Int):=by rw[tmod_nonneg (by omega)];omega
 have ed:yw (i:Int) 4=((i/4:Nat):Int):=by rw[q1r (by omega)];omega
 have m1:=mulB' (n:=h-o) (t:=((i%4:Nat):Int)) (c:=255) (d:=3) (by omega) (by omega) (by decide)
 have m2:=mulB' (n:=v-o) (t:=((i/4:Nat):Int)) (c:=255) (d:=3) (by omega) (by omega) (by decide)
 rw[Int.mul_comm (h-o)]at m1
 rw[Int.mul_comm (v-o)]at m2
 rw[em,ed,w64 (x:=h-o) (by omega) (by omega),w64 (x:=v-o) (by omega) (by omega),w64 (x:=((i/4:Nat):Int)) (by omega) (by omega),w64 (x:=4*o) (by omega) (by omega)]
 unfold qm0
 rw[w64 (x:=((i%4:Nat):Int)*(h-o)) (by omega) (by omega),w64 (x:=((i/4:Nat):Int)*(v-o)) (by omega) (by omega),w64 (x:=((i%4:Nat):Int)*(h-o)+((i/4:Nat):Int)*(v-o)) (by omega) (by omega),
  w64 (x:=((i%4:Nat):Int)*(h-o)+((i/4:Nat):Int)*(v-o)+4*o) (by omega) (by omega),w64 (by omega) (by omega)]
 omega
theorem zed{o h v:List Int}(ho:quk o)(hh:quk h)(hv:quk v)(q:Nat→Int)(x3:List Int)(x6:Int){i:Nat}(hi:i<16):∀(d c k:Nat),c+d=3→d<k→
  q3w 600 k o h v x3 (tab 64 fun j=>if j/4=i∧(j%4<c∨j%4=3)then q44 o h v j else q j) (i:Int) x6 (c:Int)=some (o,(h,(v,(x3,(tab 64 (fun j=>if j/4=i then q44 o h v j else q j),(x6,()))))))∧
  q7m 600 k o h v x3 (tab 64 fun j=>if j/4=i∧(j%4<c∨j%4=3)then q44 o h v j else q j) (i:Int) (c:Int)=some (o,(h,(v,(x3,(tab 64 (fun j=>if j/4=i then q44 o h v j else q j),((i:Int),())))))):=by
 intro d
 induction d with
 |zero=>
  intro c k h1 h2
  obtain⟨k,rfl⟩:∃k',k=k' +1:=⟨k-1,by omega⟩
  obtain rfl:c=3:=by omega
  unfold q3w q8a q7m qem
  have:¬(((3:Nat):Int)<3):=by omega
  simp only[this,decide_false,cond_false]
  rw[q01 fun j hj=>show(if j/4=i∧(j%4<3∨j%4=3)then q44 o h v j else q j)=if j/4=i then q44 o h v j else q j by
   have:j%4<3∨j%4=3:=by omega
   simp only[this,and_true]]
  exact⟨rfl,rfl⟩
 |succ d ih=>
  intro c k h1 h2
  obtain⟨k,rfl⟩:∃k',k=k' +1:=⟨k-1,by omega⟩
  have hc:c<4:=by omega
  have i1:(c:Int)<3:=by omega
  have i1' :(c:Int)<4:=by omega
  have i2:(i:Int)<16:=by omega
  obtain⟨e,b1,b2⟩:=zkb (ho c) (hh c) (hv c) hi
  have es:ishr .i64 (qm0 (o.getD c 0) (h.getD c 0) (v.getD c 0) i) 2=qm0 (o.getD c 0) (h.getD c 0) (v.getD c 0) i/4:=z4m (k:=2) (by omega)
  have em:=(zi6 600 (a:=0) (b:=qm0 (o.getD c 0) (h.getD c 0) (v.getD c 0) i) (k:=1) (o:=4) (add:=0) (by omega) (by omega) (by omega) (by omega) (by omega) (by omega)).2.1
  have emv:mixV 0 (qm0 (o.getD c 0) (h.getD c 0) (v.getD c 0) i) 1 4 0=qm0 (o.getD c 0) (h.getD c 0) (v.getD c 0) i/4:=by
   unfold mixV
   congr 1
   omega
  rw[emv]at em
  have ef:q1w (qm0 (o.getD c 0) (h.getD c 0) (v.getD c 0) i/4)=q44 o h v (i*4+c):=by
   unfold q44
   rw[(mul4 i c hc).1,(mul4 i c hc).2,if_neg (by omega)]
  unfold q3w q8a q7m qem
  simp only[i1,i1',i2,decide_true,cond_true,yc,yd,yb,e,es,em,qe3,z4w,y5,ef,qbd]
  rw[q0n (by omega),q01 fun j hj=>show(if j=i*4+c then q44 o h v (i*4+c)else if j/4=i∧(j%4<c∨j%4=3)then q44 o h v j else q j)=if j/4=i∧(j%4<c+1∨j%4=3)then q44 o h v j else q j by
   by_cases h3:j=i*4+c
   ·rw[if_pos h3,if_pos (by omega),h3]
   ·rw[if_neg h3]
    by_cases h5:j/4=i∧(j%4<c∨j%4=3)
    ·rw[if_pos h5,if_pos (by omega)]
    ·rw[if_neg h5,if_neg (by omega)]]
  exact ih (c+1) k (by omega) (by omega)
theorem zee{o h v:List Int}(ho:quk o)(hh:quk h)(hv:quk v)(x3:List Int):∀(d i k:Nat),i+d=16→d<k→
  q3x 600 k o h v x3 (tab 64 (upR i 0 (q44 o h v))) (i:Int)=some (x3,(tab 64 (q44 o h v),()))∧q7n 600 k o h v x3 (tab 64 (upR i 0 (q44 o h v))) (i:Int)=some (x3,(tab 64 (q44 o h v),())):=by
 intro d
 induction d with
 |zero=>
  intro i k h1 h2
  obtain⟨k,rfl⟩:∃k',k=k' +1:=⟨k-1,by omega⟩
  obtain rfl:i=16:=by omega
  unfold q3x q8b q7n qen
  have:¬(((16:Nat):Int)<16):=by omega
  simp only[this,decide_false,cond_false,zmf (i:=16) (q44 o h v) (show 64≤16*4 by omega),and_self]
 |succ d ih=>
  intro i k h1 h2
  obtain⟨k,rfl⟩:∃k',k=k' +1:=⟨k-1,by omega⟩
  have hi:i<16:=by omega
  have i2:(i:Int)<16:=by omega
  obtain⟨l1,l2⟩:=zed ho hh hv (upR i 0 (q44 o h v)) x3 (i:Int) hi 3 0 600 (by omega) (by omega)
  rw[show((0:Nat):Int)=0 from rfl]at l1 l2
  have es:(tab 64 (upR i 0 (q44 o h v))).set (3+i*4) 255=tab 64 fun j=>if j/4=i∧(j%4<0∨j%4=3)then q44 o h v j else upR i 0 (q44 o h v) j:=by
   rw[qbd]
   refine q01 fun j hj=> ?_
   by_cases h3:j=3+i*4
   ·rw[if_pos h3,if_pos (by omega)]
    unfold q44
    rw[if_pos (by omega)]
   ·rw[if_neg h3,if_neg (by omega)]
  have en:(tab 64 fun j=>if j/4=i then q44 o h v j else upR i 0 (q44 o h v) j)=tab 64 (upR (i+1) 0 (q44 o h v)):=q01 fun j hj=>by
   unfold upR
   by_cases h3:j/4=i
   ·rw[if_pos h3,if_pos (by omega)]
   ·rw[if_neg h3]
    by_cases h4:j<i*4+0
    ·rw[if_pos h4,if_pos (by omega)]
    ·rw[if_neg h4,if_neg (by omega)]
  rw[en]at l1 l2
  unfold q3x q8b q7n qen
  simp only[i2,decide_true,cond_true,yc,yd,yb,es,l1,l2,y5]
  rw[q0n (by omega)]
  exact ih (i+1) k (by omega) (by omega)
theorem zn5:q0b=tab 64 fun _=>0:=by decide+kernel
theorem Plane_is{o h v:List Int}(ho:quk o)(hh:quk h)(hv:quk v):qg1 600 o h v=some (tab 64 (q44 o h v),())∧qri 600 o h v=some (tab 64 (q44 o h v),()):=by
 obtain⟨h1,h2⟩:=zee ho hh hv q0b 16 0 600 (by omega) (by omega)
 rw[zi8,←zn5,show((0:Nat):Int)=0 from rfl]at h1 h2
 unfold qg1 qri
 rw[h1,h2]
 exact⟨rfl,rfl⟩
def plO(b:List Int):List Int:=qag (hv b 1 6) (pk b [7,9,10,11,12,13,14] 7) (pk b [15,19,20,22,23,24] 6)
def plH(b:List Int):List Int:=qag (pk b [25,26,27,28,29,31] 6) (hv b 32 7) (hv b 39 6)
def plV(b:List Int):List Int:=qag (hv b 45 6) (hv b 51 7) (hv b 58 6)
def qx8(b:List Int)(j:Nat):Int:=q44 (plO b) (plH b) (plV b) j
theorem qh3{L:List Nat}(h:(decide (L.length≤12)&&L.all fun a=>decide (a<64))=true):Posn L:=by
 simp only[yl,decide_eq_true_eq,List.all_eq_true]at h
 refine⟨h.1,fun i=> ?_⟩
 rw[ye]
 by_cases hi:i<L.length
 ·rw[yj hi]
  exact h.2 _ (List.getElem_mem hi)
 ·rw[w8 (by omega)]
  decide
theorem hvw(b:List Int)(a n:Nat)(hn:n≤16):Small (hv b a n):=by
 have h1:=q0u b a n
 have h2:(2:Int)^n≤2^16:=q3h hn
 unfold Small
 omega
theorem pkw(b:List Int)(L:List Nat)(n:Nat)(hn:n≤16):Small (pk b L n):=by
 have h1:=qui b L n
 have h2:(2:Int)^n≤2^16:=q3h hn
 unfold Small
 omega
theorem z4y{x y z:Int}(hx:Small x)(hy:Small y)(hz:Small z):qe0 600 [x,y,z]=some (qag x y z,()):=
 zk9 fun i=>q8h (p:=fun x=> -9000000000000000000≤x∧x≤9000000000000000000) (by decide) (fun v hv=>by
  simp only[yr,List.not_mem_nil,or_false]at hv
  rcases hv with rfl|rfl|rfl
  ·exact hx.w
  ·exact hy.w
  ·exact hz.w) i
theorem zn6{b:List Int}(hb:Bytes b)(hl:b.length=8)(a1 a2:Bool)(a3 a4 a5 a6:List Int)(a7:Bool):
  q5i 600 b a1 a2 a3 a4 a5 a6 a7=some (tab 64 (qx8 b),())∧qy4 600 b=some (tab 64 (qx8 b),()):=by
 have t1:q64=q3a [7,9,10,11,12,13,14]:=rfl
 have t2:q65=q3a [15,19,20,22,23,24]:=rfl
 have t3:q66=q3a [25,26,27,28,29,31]:=rfl
 have p1:=qh3 (L:=[7,9,10,11,12,13,14]) (by decide)
 have p2:=qh3 (L:=[15,19,20,22,23,24]) (by decide)
 have p3:=qh3 (L:=[25,26,27,28,29,31]) (by decide)
 have g1:=qqy hb hl a1 a2 a3 a4 a5 a6 a7 p1
 have g2:=qqy hb hl a1 a2 a3 a4 a5 a6 a7 p2
 have g3:=qqy hb hl a1 a2 a3 a4 a5 a6 a7 p3
 have k1:=qop hb hl p1
 have k2:=qop hb hl p2
 have k3:=qop hb hl p3
 obtain⟨r1,s1⟩:=qat hb hl a1 a2 a3 a4 a5 a6 a7 (x:=1) (y:=6) (a:=1) (n:=6) rfl rfl (by omega) (by omega)
 obtain⟨r2,s2⟩:=qat hb hl a1 a2 a3 a4 a5 a6 a7 (x:=32) (y:=38) (a:=32) (n:=7) rfl rfl (by omega) (by omega)
 obtain⟨r3,s3⟩:=qat hb hl a1 a2 a3 a4 a5 a6 a7 (x:=39) (y:=44) (a:=39) (n:=6) rfl rfl (by omega) (by omega)
 obtain⟨r4,s4⟩:=qat hb hl a1 a2 a3 a4 a5 a6 a7 (x:=45) (y:=50) (a:=45) (n:=6) rfl rfl (by omega) (by omega)
 obtain⟨r5,s5⟩:=qat hb hl a1 a2 a3 a4 a5 a6 a7 (x:=51) (y:=57) (a:=51) (n:=7) rfl rfl (by omega) (by omega)
 obtain⟨r6,s6⟩:=qat hb hl a1 a2 a3 a4 a5 a6 a7 (x:=58) (y:=63) (a:=58) (n:=6) rfl rfl (by omega) (by omega)
 obtain⟨q1,q2⟩:=Plane_is (o:=plO b) (h:=plH b) (v:=plV b) (qoq _ _ _) (qoq _ _ _) (qoq _ _ _)
 have w1:=z4y (hvw b 1 6 (by omega)) (pkw b [7,9,10,11,12,13,14] 7 (by omega)) (pkw b [15,19,20,22,23,24] 6 (by omega))
 have w2:=z4y (pkw b [25,26,27,28,29,31] 6 (by omega)) (hvw b 32 7 (by omega)) (hvw b 39 6 (by omega))
 have w3:=z4y (hvw b 45 6 (by omega)) (hvw b 51 7 (by omega)) (hvw b 58 6 (by omega))
 unfold q5i qy4
 rw[t1,t2,t3]
 simp only[g1,g2,g3,k1,k2,k3,r1,r2,r3,r4,r5,r6,s1,s2,s3,s4,s5,s6,y5,plane_is,List.length_cons,List.length_nil,Nat.zero_add,Nat.reduceAdd,w1,w2,w3]
 rw[show qag (hv b 1 6) (pk b [7,9,10,11,12,13,14] 7) (pk b [15,19,20,22,23,24] 6)=plO b from rfl,show qag (pk b [25,26,27,28,29,31] 6) (hv b 32 7) (hv b 39 6)=plH b from rfl,show qag (hv b 45 6) (hv b 51 7) (hv b 58 6)=plV b from rfl,q1,q2]
 exact⟨rfl,rfl⟩
end Go.AE.Gn
set_option linter.unusedVariables false
set_option linter.unusedSimpArgs false
namespace Go.AE.Gn
open Go Go.AE
def tA(b:List Int):List Int:=q7x (pk b [3,4,6,7] 4) (hv b 8 4) (hv b 12 4)
def tZ(b:List Int):List Int:=q7x (hv b 16 4) (hv b 20 4) (hv b 24 4)
def tD(b:List Int):Int:=qah (pk b [28,29,31] 3)
def zgn(b:List Int):List Int:=tA b++(addV (tZ b) (tD b)++(tZ b++addV (tZ b) (0-tD b)))
def hL(b:List Int):List Int:=q7x (hv b 1 4) (pk b [5,6,7,11] 4) (pk b [12,14,15,16] 4)
def hM(b:List Int):List Int:=q7x (hv b 17 4) (hv b 21 4) (hv b 25 4)
def hX(b:List Int):Int:=256*hv b 1 4+16*pk b [5,6,7,11] 4+pk b [12,14,15,16] 4
def hY(b:List Int):Int:=256*hv b 17 4+16*hv b 21 4+hv b 25 4
def hD(b:List Int):Int:=qah (if hY b≤hX b then 2*pk b [29,31] 2+1 else 2*pk b [29,31] 2)
def zaw(b:List Int):List Int:=addV (hL b) (hD b)++(addV (hL b) (0-hD b)++(addV (hM b) (hD b)++addV (hM b) (0-hD b)))
theorem q59(b:List Int)(a n:Nat):hv b a (n+1)=2*hv b a n+hv b (a+n) 1:=by
 simp only[hv,qam,Nat.add_zero]
 omega
theorem zn7(b:List Int)(a:Nat):hv b a 0=0:=rfl
theorem hX_is(b:List Int):pk b [1,2,3,4,5,6,7,11,12,14,15,16] 12=hX b:=by
 unfold hX
 rw[q59 b 1 3,q59 b 1 2,q59 b 1 1]
 simp only[pk,yt,yu,Nat.reduceAdd]
 omega
theorem hY_is(b:List Int):hv b 17 12=hY b:=by
 unfold hY
 rw[q59 b 17 11,q59 b 17 10,q59 b 17 9,q59 b 17 8,q59 b 17 7,q59 b 17 6,q59 b 17 5,q59 b 17 4,q59 b 21 3,q59 b 21 2,q59 b 21 1,q59 b 25 3,q59 b 25 2,q59 b 25 1]
 simp only[Nat.reduceAdd]
 omega
def z4z(l W:List Int)(j:Nat):Int:=l.getD ((W.getD (j/4) 0).toNat*4+j%4) 0
theorem zgo{l W:List Int}(hl:l.length=16)(hW:∀i,0≤W.getD i 0∧W.getD i 0≤3)(x1:List Int):∀(d i k:Nat),i+d=16→d<k→
  q1e 600 k l x1 (tab 64 (upR i 0 (z4z l W))) W (i:Int)=some (x1,(tab 64 (z4z l W),())):=by
 intro d
 induction d with
 |zero=>
  intro i k h1 h2
  obtain⟨k,rfl⟩:∃k',k=k' +1:=⟨k-1,by omega⟩
  obtain rfl:i=16:=by omega
  unfold q1e q4j
  have:¬(((16:Nat):Int)<16):=by omega
  simp only[this,decide_false,cond_false,zmf (i:=16) (z4z l W) (show 64≤16*4 by omega)]
 |succ d ih=>
  intro i k h1 h2
  obtain⟨k,rfl⟩:∃k',k=k' +1:=⟨k-1,by omega⟩
  have i1:(i:Int)<16:=by omega
  have hw:=hW i
  have j1:(0:Int)≤W.getD i 0:=hw.1
  have j2:W.getD i 0<4:=by omega
  unfold q1e q4j
  simp only[i1,j1,j2,decide_true,cond_true,yc,yd,yb,qwy hl (show(W.getD i 0).toNat*4+4≤16 by omega),z4o (show i*4+4≤64 by omega)]
  rw[q0n (by omega),q01 fun j hj=>show(if j/4=i then l.getD ((W.getD i 0).toNat*4+j%4) 0 else upR i 0 (z4z l W) j)=upR (i+1) 0 (z4z l W) j by
   unfold upR
   by_cases h3:j/4=i
   ·rw[if_pos h3,if_pos (by omega)]
    unfold z4z
    rw[h3]
   ·rw[if_neg h3]
    by_cases h4:j<i*4+0
    ·rw[if_pos h4,if_pos (by omega)]
    ·rw[if_neg h4,if_neg (by omega)]]
  exact ih (i+1) k (by omega) (by omega)
theorem zn8{l W:List Int}(hl:l.length=16)(hW:∀i,0≤W.getD i 0∧W.getD i 0≤3)(a0:List Int)(a1 a2:Bool)(a3 a4 a5:List Int)(a7:Bool):
  q3o 600 a0 a1 a2 a3 a4 a5 W a7 l=some (tab 64 (z4z l W),()):=by
 unfold q3o
 have h:=zgo hl hW q0b 16 0 600 (by omega) (by omega)
 rw[zi8,←zn5,show((0:Nat):Int)=0 from rfl]at h
 rw[h]
 rfl
theorem neg_w{d:Int}(h:0≤d∧d≤64):y0 .i64 (0-d)=0-d:=w64 (by omega) (by omega)
theorem ofT_is{b:List Int}(hb:Bytes b)(hl:b.length=8)(a1 a2:Bool)(a3 a4 a5:List Int){W:List Int}(hW:∀i,0≤W.getD i 0∧W.getD i 0≤3)(a7:Bool):
  q88 600 b a1 a2 a3 a4 a5 W a7=some (tab 64 (z4z (zgn b) W),())∧qpb 600 b 1=some (zgn b,()):=by
 have t1:[(3:Int),4,6,7]=q3a [3,4,6,7]:=rfl
 have t2:[(28:Int),29,31]=q3a [28,29,31]:=rfl
 have p1:=qh3 (L:=[3,4,6,7]) (by decide)
 have p2:=qh3 (L:=[28,29,31]) (by decide)
 have g1:q07 600 b a1 a2 a3 a4 a5 W a7 (q3a [3,4,6,7])=some (pk b [3,4,6,7] 4,()):=qqy hb hl a1 a2 a3 a4 a5 W a7 p1
 have g2:q07 600 b a1 a2 a3 a4 a5 W a7 (q3a [28,29,31])=some (pk b [28,29,31] 3,()):=qqy hb hl a1 a2 a3 a4 a5 W a7 p2
 have k1:q2k 600 b (q3a [3,4,6,7])=some (pk b [3,4,6,7] 4,()):=qop hb hl p1
 have k2:q2k 600 b (q3a [28,29,31])=some (pk b [28,29,31] 3,()):=qop hb hl p2
 obtain⟨r1,s1⟩:=qat hb hl a1 a2 a3 a4 a5 W a7 (x:=8) (y:=11) (a:=8) (n:=4) rfl rfl (by omega) (by omega)
 obtain⟨r2,s2⟩:=qat hb hl a1 a2 a3 a4 a5 W a7 (x:=12) (y:=15) (a:=12) (n:=4) rfl rfl (by omega) (by omega)
 obtain⟨r3,s3⟩:=qat hb hl a1 a2 a3 a4 a5 W a7 (x:=16) (y:=19) (a:=16) (n:=4) rfl rfl (by omega) (by omega)
 obtain⟨r4,s4⟩:=qat hb hl a1 a2 a3 a4 a5 W a7 (x:=20) (y:=23) (a:=20) (n:=4) rfl rfl (by omega) (by omega)
 obtain⟨r5,s5⟩:=qat hb hl a1 a2 a3 a4 a5 W a7 (x:=24) (y:=27) (a:=24) (n:=4) rfl rfl (by omega) (by omega)
 have c1:=qph (pkw b [3,4,6,7] 4 (by omega)) (hvw b 8 4 (by omega)) (hvw b 12 4 (by omega))
 have c2:=qph (hvw b 16 4 (by omega)) (hvw b 20 4 (by omega)) (hvw b 24 4 (by omega))
 have d1:=qs6 (pk b [28,29,31] 3)
 have d2:=qyg (n:=pk b [28,29,31] 3) (by have:=pkw b [28,29,31] 3 (by omega);unfold Small at this;omega)
 have db:=qs7 (pk b [28,29,31] 3)
 obtain⟨m1,n1⟩:=qbu (hv b 16 4) (hv b 20 4) (hv b 24 4) (n:=qah (pk b [28,29,31] 3)) (by omega)
 obtain⟨m2,n2⟩:=qbu (hv b 16 4) (hv b 20 4) (hv b 24 4) (n:=0-qah (pk b [28,29,31] 3)) (by omega)
 have f:=zn8 (l:=zgn b) rfl hW b a1 a2 a3 a4 a5 a7
 unfold zgn tA tZ tD at f
 unfold q88 qpb zgn tA tZ tD
 rw[t1,t2]
 simp only[g1,g2,k1,k2,r1,r2,r3,r4,r5,s1,s2,s3,s4,s5,c1,c2,d1,d2,m1,m2,n1,n2,neg_w db,zil,y5,f,beq_self_eq_true,cond_true]
 refine⟨?_, ?_⟩<;>first|trivial|rfl
theorem zef{x y z:Int}(hx:Small x)(hy:Small y)(hz:Small z):qg2 600 [x,y,z]=some (256*x+16*y+z,()):=by
 unfold Small at hx hy hz
 unfold qg2
 simp only[yt,yu]
 rw[w64 (x:=256*x) (by omega) (by omega),w64 (x:=16*y) (by omega) (by omega),w64 (x:=256*x+16*y) (by omega) (by omega),w64 (by omega) (by omega)]
theorem ofH_is{b:List Int}(hb:Bytes b)(hl:b.length=8)(a1 a2:Bool)(a3 a4 a5:List Int){W:List Int}(hW:∀i,0≤W.getD i 0∧W.getD i 0≤3)(a7:Bool):
  q89 600 b a1 a2 a3 a4 a5 W a7=some (tab 64 (z4z (zaw b) W),())∧qpb 600 b 2=some (zaw b,()):=by
 have t1:[(5:Int),6,7,11]=q3a [5,6,7,11]:=rfl
 have t2:[(12:Int),14,15,16]=q3a [12,14,15,16]:=rfl
 have t3:[(29:Int),31]=q3a [29,31]:=rfl
 have t4:qc5=q3a [1,2,3,4,5,6,7,11,12,14,15,16]:=rfl
 have p1:=qh3 (L:=[5,6,7,11]) (by decide)
 have p2:=qh3 (L:=[12,14,15,16]) (by decide)
 have p3:=qh3 (L:=[29,31]) (by decide)
 have p4:=qh3 (L:=[1,2,3,4,5,6,7,11,12,14,15,16]) (by decide)
 have g1:q07 600 b a1 a2 a3 a4 a5 W a7 (q3a [5,6,7,11])=some (pk b [5,6,7,11] 4,()):=qqy hb hl a1 a2 a3 a4 a5 W a7 p1
 have g2:q07 600 b a1 a2 a3 a4 a5 W a7 (q3a [12,14,15,16])=some (pk b [12,14,15,16] 4,()):=qqy hb hl a1 a2 a3 a4 a5 W a7 p2
 have g3:q07 600 b a1 a2 a3 a4 a5 W a7 (q3a [29,31])=some (pk b [29,31] 2,()):=qqy hb hl a1 a2 a3 a4 a5 W a7 p3
 have g4:q07 600 b a1 a2 a3 a4 a5 W a7 (q3a [1,2,3,4,5,6,7,11,12,14,15,16])=some (hX b,()):=(qqy hb hl a1 a2 a3 a4 a5 W a7 p4).trans (by rw[show([1,2,3,4,5,6,7,11,12,14,15,16]:List Nat).length=12 from rfl,hX_is])
 have k1:q2k 600 b (q3a [5,6,7,11])=some (pk b [5,6,7,11] 4,()):=qop hb hl p1
 have k2:q2k 600 b (q3a [12,14,15,16])=some (pk b [12,14,15,16] 4,()):=qop hb hl p2
 have k3:q2k 600 b (q3a [29,31])=some (pk b [29,31] 2,()):=qop hb hl p3
 obtain⟨r1,s1⟩:=qat hb hl a1 a2 a3 a4 a5 W a7 (x:=1) (y:=4) (a:=1) (n:=4) rfl rfl (by omega) (by omega)
 obtain⟨r2,s2⟩:=qat hb hl a1 a2 a3 a4 a5 W a7 (x:=17) (y:=20) (a:=17) (n:=4) rfl rfl (by omega) (by omega)
 obtain⟨r3,s3⟩:=qat hb hl a1 a2 a3 a4 a5 W a7 (x:=21) (y:=24) (a:=21) (n:=4) rfl rfl (by omega) (by omega)
 obtain⟨r4,s4⟩:=qat hb hl a1 a2 a3 a4 a5 W a7 (x:=25) (y:=28) (a:=25) (n:=4) rfl rfl (by omega) (by omega)
 obtain⟨r5,_⟩:=qat hb hl a1 a2 a3 a4 a5 W a7 (x:=17) (y:=28) (a:=17) (n:=12) rfl rfl (by omega) (by omega)
 rw[hY_is]at r5
 have c1:=qph (hvw b 1 4 (by omega)) (pkw b [5,6,7,11] 4 (by omega)) (pkw b [12,14,15,16] 4 (by omega))
 have c2:=qph (hvw b 17 4 (by omega)) (hvw b 21 4 (by omega)) (hvw b 25 4 (by omega))
 have u1:=zef (hvw b 1 4 (by omega)) (pkw b [5,6,7,11] 4 (by omega)) (pkw b [12,14,15,16] 4 (by omega))
 have u2:=zef (hvw b 17 4 (by omega)) (hvw b 21 4 (by omega)) (hvw b 25 4 (by omega))
 have hpk:=qui b [29,31] 2
 have e1:=shl_one (n:=pk b [29,31] 2) (by omega)
 have e2:y0 .i64 (2*pk b [29,31] 2)=2*pk b [29,31] 2:=w64 (by omega) (by omega)
 have e3:y0 .i64 (2*pk b [29,31] 2+1)=2*pk b [29,31] 2+1:=w64 (by omega) (by omega)
 have dR:=fun n (hn:0≤n∧n≤100)=>qyg (n:=n) (by omega)
 have f:=zn8 (l:=zaw b) rfl hW b a1 a2 a3 a4 a5 a7
 have db:=qs7 (2*pk b [29,31] 2+1)
 have db' :=qs7 (2*pk b [29,31] 2)
 have z21:((2:Int)==1)=false:=rfl
 rw[show 256*hv b 1 4+16*pk b [5,6,7,11] 4+pk b [12,14,15,16] 4=hX b from rfl]at u1
 rw[show 256*hv b 17 4+16*hv b 21 4+hv b 25 4=hY b from rfl]at u2
 unfold q89 qpb
 rw[t1,t2,t3,t4]
 simp only[z21,cond_false,g1,g2,g3,g4,k1,k2,k3,r1,r2,r3,r4,r5,s1,s2,s3,s4,c1,c2,u1,u2,e1,e2,e3,zil,y5]
 rw[show q7x (hv b 1 4) (pk b [5,6,7,11] 4) (pk b [12,14,15,16] 4)=hL b from rfl,show q7x (hv b 17 4) (hv b 21 4) (hv b 25 4)=hM b from rfl]
 by_cases h:hY b≤hX b
 ·have hd:hD b=qah (2*pk b [29,31] 2+1):=by
   unfold hD
   rw[if_pos h]
  unfold zaw at f
  rw[hd]at f
  have d2:=dR (2*pk b [29,31] 2+1) (by omega)
  obtain⟨m1,n1⟩:q0h 600 (hL b) (qah (2*pk b [29,31] 2+1))=_∧q1d 600 (hL b) (qah (2*pk b [29,31] 2+1))=_:=qbu _ _ _ (by omega)
  obtain⟨m2,n2⟩:q0h 600 (hL b) (0-qah (2*pk b [29,31] 2+1))=_∧q1d 600 (hL b) (0-qah (2*pk b [29,31] 2+1))=_:=qbu _ _ _ (by omega)
  obtain⟨m3,n3⟩:q0h 600 (hM b) (qah (2*pk b [29,31] 2+1))=_∧q1d 600 (hM b) (qah (2*pk b [29,31] 2+1))=_:=qbu _ _ _ (by omega)
  obtain⟨m4,n4⟩:q0h 600 (hM b) (0-qah (2*pk b [29,31] 2+1))=_∧q1d 600 (hM b) (0-qah (2*pk b [29,31] 2+1))=_:=qbu _ _ _ (by omega)
  simp only[h,decide_true,cond_true,qs6,d2,neg_w db,m1,m2,m3,m4,n1,n2,n3,n4,y5]
  unfold zaw
  rw[hd]
  exact⟨by
   rw[show q7x (hv b 1 4) (pk b [5,6,7,11] 4) (pk b [12,14,15,16] 4)=hL b from rfl,show q7x (hv b 17 4) (hv b 21 4) (hv b 25 4)=hM b from rfl,f]
   rfl,rfl⟩
 ·have hd:hD b=qah (2*pk b [29,31] 2):=by
   unfold hD
   rw[if_neg h]
  unfold zaw at f
  rw[hd]at f
  have d2:=dR (2*pk b [29,31] 2) (by omega)
  obtain⟨m1,n1⟩:q0h 600 (hL b) (qah (2*pk b [29,31] 2))=_∧q1d 600 (hL b) (qah (2*pk b [29,31] 2))=_:=qbu _ _ _ (by omega)
  obtain⟨m2,n2⟩:q0h 600 (hL b) (0-qah (2*pk b [29,31] 2))=_∧q1d 600 (hL b) (0-qah (2*pk b [29,31] 2))=_:=qbu _ _ _ (by omega)
  obtain⟨m3,n3⟩:q0h 600 (hM b) (qah (2*pk b [29,31] 2))=_∧q1d 600 (hM b) (qah (2*pk b [29,31] 2))=_:=qbu _ _ _ (by omega)
  obtain⟨m4,n4⟩:q0h 600 (hM b) (0-qah (2*pk b [29,31] 2))=_∧q1d 600 (hM b) (0-qah (2*pk b [29,31] 2))=_:=qbu _ _ _ (by omega)
  simp only[h,decide_false,cond_false,qs6,d2,neg_w db',m1,m2,m3,m4,n1,n2,n3,n4,y5]
  unfold zaw
  rw[hd]
  exact⟨by
   rw[show q7x (hv b 1 4) (pk b [5,6,7,11] 4) (pk b [12,14,15,16] 4)=hL b from rfl,show q7x (hv b 17 4) (hv b 21 4) (hv b 25 4)=hM b from rfl,f]
   rfl,rfl⟩
end Go.AE.Gn
set_option linter.unusedVariables false
set_option linter.unusedSimpArgs false
namespace Go.AE.Gn
open Go Go.AE
def bb(b:List Int)(p:Bool):List Int:=if p then hset b 30 1 1 else b
def qul(b:List Int)(p:Bool):Bool:= !p||(hv b 30 1==1)
def xD(b:List Int)(p:Bool):Bool:=q8s (bb b p)
def xF(b:List Int)(p:Bool):Bool:=zk1 (bb b p)
def xA(b:List Int)(p:Bool):List Int:=eAs (q8s (bb b p)) (bb b p)
def xB(b:List Int)(p:Bool):List Int:=eBs (q8s (bb b p)) (bb b p)
def xT(b:List Int)(p:Bool):List Int:=[hv (bb b p) 24 3,hv (bb b p) 27 3]
def xW(b:List Int)(p:Bool):List Int:=eWs (bb b p)
def qum(b:List Int)(p:Bool):Int:=if qq5 (xD b p) (xA b p) (xB b p)=3 then 0 else 1+qq5 (xD b p) (xA b p) (xB b p)
theorem bb_ok{b:List Int}(hb:Bytes b)(hl:b.length=8)(p:Bool):Bytes (bb b p)∧(bb b p).length=8:=by
 unfold bb
 cases p
 ·exact⟨hb,hl⟩
 ·exact⟨qil hb 30 1 1,by rw[if_pos rfl,qu7,hl]⟩
theorem z50(d:Bool)(A B:List Int):0≤qq5 d A B∧qq5 d A B≤3:=by
 unfold qq5
 cases d
 ·simp
 ·simp only[if_true]
  split
  ·omega
  ·split
   ·omega
   ·split<;>omega
theorem read_is{b:List Int}(hb:Bytes b)(hl:b.length=8)(p:Bool):qji 600 b p=some (b,(xD b p,(xF b p,(xA b p,(xB b p,(xT b p,(xW b p,(qul b p,())))))))):=by
 have hP:=qx5 (F:=600) (by omega) (bb_ok hb hl p).1 (bb_ok hb hl p).2
 unfold qji
 cases p
 ·have hP' :q2x 600 b=some (eP b,(0,())):=hP
  simp only[Bool.not_false,cond_true,cond_false,hP',y5]
  rfl
 ·have hP' :q2x 600 (hset b 30 1 1)=some (eP (hset b 30 1 1),(0,())):=hP
  have g:q07 600 b false false [0,0,0] [0,0,0] [0,0] q4s false [(30:Int)]=some (pk b [30] 1,()):=qqy hb hl false false [0,0,0] [0,0,0] [0,0] q4s false (qh3 (L:=[30]) (by decide))
  have hs:q26 600 b (30:Int) (1:Int) (1:Int)=some (hset b 30 1 1,(0,())):=qim (a:=30) (n:=1) (by omega) hb (by omega) (by omega) (by omega) (by omega)
  have hk:pk b [30] 1=hv b 30 1:=by
   simp only[pk,yt]
   omega
  simp only[Bool.not_true,cond_true,cond_false,g,hs,hP',y5,hk]
  rfl
theorem xFair(b:List Int)(p:Bool):qye (xA b p) (xB b p):=eFair _ _
theorem zax(b:List Int)(p:Bool):∀i,0≤(xW b p).getD i 0∧(xW b p).getD i 0≤3:=z4x _
theorem kind_is(b:List Int)(p:Bool)(a0:List Int)(a7:Bool):q77 600 a0 (xD b p) (xF b p) (xA b p) (xB b p) (xT b p) (xW b p) a7=some (qum b p,()):=by
 unfold q77 qum
 rw[qx6 (by omega) _ _ (xFair b p)]
 have hf:=z50 (xD b p) (xA b p) (xB b p)
 simp only[y5]
 by_cases h:qq5 (xD b p) (xA b p) (xB b p)=3
 ·rw[if_pos h,beqT h]
  rfl
 ·rw[if_neg h,beqF h,w64 (by omega) (by omega)]
  rfl
def zay(s f:Bool)(W bs:List Int)(q:Nat→Int)(j:Nat):Int:=if s=false∧W.getD (j/4) 0=0 then bs.getD (q3k f (j/4:Nat)*4+j%4) 0 else q j
def upTo(i:Nat)(g q:Nat→Int)(j:Nat):Int:=if j/4<i then g j else q j
theorem zim{i:Nat}{g q h:Nat→Int}(hh:∀c,c<4→h c=g (i*4+c)):(tab 64 fun j=>if j/4=i then h (j%4)else upTo i g q j)=tab 64 (upTo (i+1) g q):=q01 fun j hj=>by
 unfold upTo
 by_cases h3:j/4=i
 ·rw[if_pos h3,if_pos (by omega),hh _ (Nat.mod_lt _ (by decide)),←h3]
  congr 1
  omega
 ·rw[if_neg h3]
  by_cases h4:j/4<i
  ·rw[if_pos h4,if_pos (by omega)]
  ·rw[if_neg h4,if_neg (by omega)]
theorem z51{i:Nat}{g q:Nat→Int}(hh:∀j,j/4=i→q j=g j):tab 64 (upTo i g q)=tab 64 (upTo (i+1) g q):=q01 fun j hj=>by
 unfold upTo
 by_cases h4:j/4<i
 ·rw[if_pos h4,if_pos (by omega)]
 ·rw[if_neg h4]
  by_cases h3:j/4=i
  ·rw[if_pos (by omega),hh j h3]
  ·rw[if_neg (by omega)]
theorem zeg(g q:Nat→Int):tab 64 (upTo 0 g q)=tab 64 q:=q01 fun j hj=>if_neg (by omega)
theorem zin(g q:Nat→Int):tab 64 (upTo 16 g q)=tab 64 g:=q01 fun j hj=>if_pos (by omega)
theorem zaz(x0:List Int)(x1:Bool)(x3:List Int)(x4:List Int)(x5:List Int)(x6:List Int)(x8:List Int)(s f:Bool){W bs:List Int}(hbs:bs.length=8)(q:Nat→Int):∀(d i k:Nat),i+d=16→d<k→
  q0w 600 k x0 x1 f x3 x4 x5 x6 s x8 (tab 64 (upTo i (zay s f W bs q) q)) bs W ((i:Int))=some (x8,(tab 64 (zay s f W bs q),())):=by
 intro d
 induction d with
 |zero=>
  intro i k h1 h2
  obtain⟨k,rfl⟩:∃k',k=k' +1:=⟨k-1,by omega⟩
  obtain rfl:i=16:=by omega
  unfold q0w q3d
  have:¬(((16:Nat):Int)<16):=by omega
  simp only[this,decide_false,cond_false,zin]
 |succ d ih=>
  intro i k h1 h2
  obtain⟨k,rfl⟩:∃k',k=k' +1:=⟨k-1,by omega⟩
  have hi:i<16:=by omega
  have i1:(i:Int)<16:=by omega
  have fin:=ih (i+1) k (by omega) (by omega)
  unfold q0w q3d
  cases s
  ·by_cases hw:W.getD i 0=0
   ·have hh:=qug f i
    have j2:((q3k f (i:Nat):Nat):Int)<2:=by omega
    simp only[i1,decide_true,cond_true,yc,yd,yb,Bool.not_false,beqT hw,(z4v 600 f i).1,y5,j2,qwy hbs (show q3k f (i:Nat)*4+4≤8 by omega),z4o (show i*4+4≤64 by omega)]
    rw[q0n (by omega),show(tab 64 fun j=>if j/4=i then bs.getD (q3k f (i:Int)*4+j%4) 0 else upTo i (zay false f W bs q) q j)=tab 64 (upTo (i+1) (zay false f W bs q) q)from zim (h:=fun c=>bs.getD (q3k f (i:Int)*4+c) 0) (fun c hc=>by
     unfold zay
     rw[(mul4 i c hc).1,(mul4 i c hc).2,if_pos ⟨rfl,hw⟩])]
    exact fin
   ·simp only[i1,decide_true,cond_true,yc,yd,yb,Bool.not_false,beqF hw,cond_false]
    rw[q0n (by omega),z51 (i:=i) (fun j hj=>by
     unfold zay
     rw[hj,if_neg (fun h=>hw h.2)])]
    exact fin
  ·simp only[i1,decide_true,cond_true,yc,yd,yb,Bool.not_true,cond_false]
   rw[q0n (by omega),z51 (i:=i) (fun j hj=>by
    unfold zay
    rw[if_neg (fun h=>by cases h.1)])]
   exact fin
theorem qs8(d f:Bool)(A B T W:List Int):(qd1 d f A B T W).length=64:=z4n (m:=4) _ (fun _ _=>rfl)
def zn9(b:List Int)(p:Bool)(j:Nat):Int:=(qd1 (xD b p) (xF b p) (xA b p) (xB b p) (xT b p) (xW b p)).getD j 0
def zna(b:List Int)(p:Bool):List Int:=q1c (xD b p) (xA b p) (xB b p)
theorem znb(b:List Int)(p:Bool):qd1 (xD b p) (xF b p) (xA b p) (xB b p) (xT b p) (xW b p)=tab 64 (zn9 b p):=qfc (qs8 _ _ _ _ _ _)
def zgp(b:List Int)(p:Bool):Nat→Int:=zay (qul b p) (xF b p) (xW b p) (zna b p) (zn9 b p)
theorem znc(b:List Int)(p:Bool)(a0:List Int):q5h 600 a0 (xD b p) (xF b p) (xA b p) (xB b p) (xT b p) (xW b p) (qul b p)=some (tab 64 (zgp b p),()):=by
 unfold q5h
 rw[z89 (by omega) _ _ (xFair b p) (zax b p),qx6 (by omega) _ _ (xFair b p),znb]
 have h:=zaz a0 (xD b p) (xA b p) (xB b p) (xT b p) (xW b p) q0b (qul b p) (xF b p) (W:=xW b p) (bs:=zna b p) (qs5 _ _ _) (zn9 b p) 16 0 600 (by omega) (by omega)
 rw[zeg,show((0:Nat):Int)=0 from rfl]at h
 simp only[y5]
 rw[show q1c (xD b p) (xA b p) (xB b p)=zna b p from rfl,h]
 rfl
def zF(s:Bool)(kind:Int)(W:List Int)(g:Nat→Int)(j:Nat):Int:=if s=false∧kind≠3∧W.getD (j/4) 0=2 then 0 else g j
theorem zero_row:[(0:Int),0,0,0]=tab 4 fun _=>0:=rfl
theorem zkc(x0:List Int)(x1:List Int)(x2:Bool)(x3:Bool)(x4:List Int)(x5:List Int)(x6:List Int)(x7:List Int)(s:Bool)(kind:Int)(W:List Int)(g:Nat→Int):∀(d i k:Nat),i+d=16→d<k→
  q18 600 k x0 x1 x2 x3 x4 x5 x6 x7 s kind (tab 64 (upTo i (zF s kind W g) g)) W ((i:Int))=some (x0,(tab 64 (zF s kind W g),())):=by
 intro d
 induction d with
 |zero=>
  intro i k h1 h2
  obtain⟨k,rfl⟩:∃k',k=k' +1:=⟨k-1,by omega⟩
  obtain rfl:i=16:=by omega
  unfold q18 q78
  have:¬(((16:Nat):Int)<16):=by omega
  simp only[this,decide_false,cond_false,zin]
 |succ d ih=>
  intro i k h1 h2
  obtain⟨k,rfl⟩:∃k',k=k' +1:=⟨k-1,by omega⟩
  have i1:(i:Int)<16:=by omega
  have fin:=ih (i+1) k (by omega) (by omega)
  have keep:(¬(s=false∧kind≠3∧W.getD i 0=2))→tab 64 (upTo i (zF s kind W g) g)=tab 64 (upTo (i+1) (zF s kind W g) g):=fun h=>z51 fun j hj=>by
   unfold zF
   rw[hj,if_neg h]
  unfold q18 q78
  cases s
  ·by_cases hk:kind=3
   ·simp only[i1,decide_true,cond_true,yc,yd,yb,Bool.not_false,hk,show((3:Int) !=3)=false from rfl,cond_false]
    rw[hk]at keep fin
    rw[q0n (by omega),keep (fun h=>h.2.1 rfl)]
    exact fin
   ·by_cases hw:W.getD i 0=2
    ·simp only[i1,decide_true,cond_true,yc,yd,yb,Bool.not_false,bneT hk,beqT hw,zero_row,z4o (show i*4+4≤64 by omega)]
     rw[q0n (by omega),show(tab 64 fun j=>if j/4=i then 0 else upTo i (zF false kind W g) g j)=tab 64 (upTo (i+1) (zF false kind W g) g)from zim (h:=fun _=>0) (fun c hc=>by
      unfold zF
      rw[(mul4 i c hc).1,if_pos ⟨rfl,hk,hw⟩])]
     exact fin
    ·simp only[i1,decide_true,cond_true,yc,yd,yb,Bool.not_false,bneT hk,beqF hw,cond_false]
     rw[q0n (by omega),keep (fun h=>hw h.2.2)]
     exact fin
  ·simp only[i1,decide_true,cond_true,yc,yd,yb,Bool.not_true,cond_false]
   rw[q0n (by omega),keep (fun h=>by cases h.1)]
   exact fin
def baseF(b:List Int)(p:Bool):Nat→Int:=if qum b p=0 then zgp b p else if qum b p=1 then z4z (zgn b) (xW b p)else if qum b p=2 then z4z (zaw b) (xW b p)else qx8 b
def qmf(b:List Int)(p:Bool):Nat→Int:=zF (qul b p) (qum b p) (xW b p) (baseF b p)
theorem kind4(b:List Int)(p:Bool):qum b p=0∨qum b p=1∨qum b p=2∨qum b p=3:=by
 have:=z50 (xD b p) (xA b p) (xB b p)
 unfold qum
 split<;>omega
theorem qs9{b:List Int}(hb:Bytes b)(hl:b.length=8)(p:Bool):q79 600 b p=some (tab 64 (qmf b p),(0,())):=by
 have hn:(((b.length:Nat):Int) !=8)=false:=by rw[hl];rfl
 unfold q79
 rw[hn,read_is hb hl p]
 simp only[cond_false,y5,kind_is]
 have l0:=fun g=>zkc q0b b (xD b p) (xF b p) (xA b p) (xB b p) (xT b p) (xW b p) (qul b p) (qum b p) (xW b p) g 16 0 600 (by omega) (by omega)
 simp only[zeg,show((0:Nat):Int)=0 from rfl]at l0
 have hT:=(ofT_is hb hl (xD b p) (xF b p) (xA b p) (xB b p) (xT b p) (zax b p) (qul b p)).1
 have hH:=(ofH_is hb hl (xD b p) (xF b p) (xA b p) (xB b p) (xT b p) (zax b p) (qul b p)).1
 have hp:=(zn6 hb hl (xD b p) (xF b p) (xA b p) (xB b p) (xT b p) (xW b p) (qul b p)).1
 have hd:=znc b p b
 unfold qmf baseF
 rcases kind4 b p with h|h|h|h
 ·rw[h]at l0⊢
  simp only[beq_self_eq_true,cond_true,hd,y5,l0,if_true]
 ·rw[h]at l0⊢
  simp only[show((1:Int)==0)=false from rfl,beq_self_eq_true,cond_true,cond_false,hT,y5,l0,show¬(1:Int)=0 by decide,if_false,if_true]
 ·rw[h]at l0⊢
  simp only[show((2:Int)==0)=false from rfl,show((2:Int)==1)=false from rfl,beq_self_eq_true,cond_true,cond_false,hH,y5,l0,show¬(2:Int)=0 by decide,show¬(2:Int)=1 by decide,if_false,if_true]
 ·rw[h]at l0⊢
  simp only[show((3:Int)==0)=false from rfl,show((3:Int)==1)=false from rfl,show((3:Int)==2)=false from rfl,beq_self_eq_true,cond_true,cond_false,hp,y5,l0,show¬(3:Int)=0 by decide,show¬(3:Int)=1 by decide,show¬(3:Int)=2 by decide,if_false]
end Go.AE.Gn
set_option linter.unusedVariables false
set_option linter.unusedSimpArgs false
namespace Go.AE.Gn
open Go Go.AE
theorem znd{b:List Int}(hb:Bytes b)(hl:b.length=8)(h:hv b 30 1=1):hset b 30 1 1=b:=by
 refine qqx (qil hb 30 1 1) hb (qu7 _ _ _ _) fun q hq=> ?_
 rw[qu8 hb (by omega)]
 by_cases hc:30≤q∧q<30+1
 ·rw[if_pos hc]
  have:=zi4 b (a:=30) (n:=1) hc.1 hc.2
  rw[h]at this
  exact this
 ·rw[if_neg hc]
end Go.AE.Gn
set_option linter.unusedVariables false
set_option linter.unusedSimpArgs false
namespace Go.AE.Gn
open Go Go.AE
theorem zio(n:Int):(y0 .i64 n)%18446744073709551616=n%18446744073709551616:=by
 simp only[y0]
 simp[IntKind.signed,IntKind.bits]
 try omega
theorem zkd(X:BitVec 64):BitVec.ofInt 64 (y0 .i64 (X.toNat:Int))=X:=by
 apply BitVec.eq_of_toNat_eq
 rw[BitVec.toNat_ofInt]
 have h:=zio (X.toNat:Int)
 have hx:=X.isLt
 have:((2^64:Nat):Int)=18446744073709551616:=by decide
 rw[this,h]
 omega
theorem zeh(X:BitVec 64):y0 .i64 (X.toNat:Int)=0↔X.toNat=0:=by
 have h:=zio (X.toNat:Int)
 have hx:=X.isLt
 constructor
 ·intro e
  rw[e]at h
  omega
 ·intro e
  rw[e]
  rfl
theorem zne(X:BitVec 64){b:Nat}(hb:b≤62):(X&&& ~~~(BitVec.ofNat 64 (2^b-1))).toNat=0↔X.toNat<2^b:=by
 have hM:∀i,i<64→(BitVec.ofNat 64 (2^b-1)).getLsbD i=decide (i<b):=fun i hi=>by
  rw[BitVec.getLsbD_ofNat,Nat.testBit_two_pow_sub_one]
  simp[hi]
 constructor
 ·intro h
  refine Nat.lt_pow_two_of_testBit _ fun i hi=> ?_
  by_cases h64:i<64
  ·have h2:(X&&& ~~~(BitVec.ofNat 64 (2^b-1))).getLsbD i=false:=by
    show Nat.testBit (X&&& ~~~(BitVec.ofNat 64 (2^b-1))).toNat i=false
    rw[h]
    exact Nat.zero_testBit i
   rw[BitVec.getLsbD_and,BitVec.getLsbD_not,hM i h64]at h2
   have hd:decide (i<b)=false:=by simp;omega
   rw[hd]at h2
   have h3:X.getLsbD i=false:=by
    cases hX:X.getLsbD i
    ·rfl
    ·rw[hX]at h2
     simp[h64]at h2
   exact h3
  ·exact BitVec.getLsbD_of_ge X i (by omega)
 ·intro h
  have:X&&& ~~~(BitVec.ofNat 64 (2^b-1))=0#64:=by
   apply BitVec.eq_of_getLsbD_eq
   intro i hi
   rw[BitVec.getLsbD_and,BitVec.getLsbD_not,hM i hi]
   by_cases hib:i<b
   ·simp[hib]
   ·have hx:X.getLsbD i=false:=Nat.testBit_lt_two_pow (Nat.lt_of_lt_of_le h (Nat.pow_le_pow_right (by decide) (by omega)))
    rw[hx]
    simp
  rw[this]
  rfl
theorem z52(x:Int):((BitVec.ofInt 64 x).toNat:Int)=x%18446744073709551616:=by
 rw[BitVec.toNat_ofInt]
 have:((2^64:Nat):Int)=18446744073709551616:=by decide
 rw[this,Int.toNat_of_nonneg (by omega)]
theorem andn_is{x:Int}(hx: -9223372036854775808≤x∧x≤9223372036854775807){b:Nat}(hb:b≤62){c:Int}(hc:c=2^b-1):qsg .i64 x c=0↔0≤x∧x<2^b:=by
 have hp:=q6p b
 have hpb:(2:Int)^b≤2^62:=q3h hb
 have hn:(2:Nat)^b≤2^62:=Nat.pow_le_pow_right (by decide) hb
 have hcn:c=((2^b-1:Nat):Int):=by
  have:1≤(2:Nat)^b:=Nat.pow_pos (by decide:0<2)
  have e:((2^b:Nat):Int)=(2:Int)^b:=we 2 b
  rw[hc]
  omega
 have e:((2^b:Nat):Int)=(2:Int)^b:=we 2 b
 have hx2:=z52 x
 unfold qsg
 rw[hcn,BitVec.ofInt_natCast]
 show y0 .i64 ((BitVec.ofInt 64 x&&& ~~~(BitVec.ofNat 64 (2^b-1))).toNat:Int)=0↔_
 rw[zeh,zne _ hb]
 omega
theorem or_range{x z:Int}(hx: -9223372036854775808≤x∧x≤9223372036854775807)(hz: -9223372036854775808≤z∧z≤9223372036854775807):qsg .i64 (ior .i64 x z) 63=0↔(0≤x∧x<64)∧(0≤z∧z<64):=by
 have hx2:=z52 x
 have hz2:=z52 z
 have key:qsg .i64 (ior .i64 x z) 63=y0 .i64 ((BitVec.ofInt 64 (y0 .i64 ((BitVec.ofInt 64 x|||BitVec.ofInt 64 z).toNat:Int))&&& ~~~(BitVec.ofInt 64 63)).toNat:Int):=rfl
 have e63:BitVec.ofInt 64 63=BitVec.ofNat 64 (2^6-1):=by decide
 rw[key,e63,zkd,zeh,zne _ (by omega),BitVec.toNat_or]
 have h1:(BitVec.ofInt 64 x).toNat≤(BitVec.ofInt 64 x).toNat|||(BitVec.ofInt 64 z).toNat:=Nat.left_le_or
 have h2:(BitVec.ofInt 64 z).toNat≤(BitVec.ofInt 64 x).toNat|||(BitVec.ofInt 64 z).toNat:=Nat.right_le_or
 constructor
 ·intro h
  omega
 ·intro h
  exact Nat.or_lt_two_pow (by omega) (by omega)
def layB(c:List Int)(L:List Nat)(n:Int):List Int:=qfl (fun i=>L.getD i 0) (fun _=>1) (fun i=>n/2^(L.length-1-i)%2) c L.length
def Pl(L:List Nat):Prop:=L.length≤12∧(∀i,i<L.length→L.getD i 0<64)∧∀i j,i<L.length→j<L.length→L.getD i 0=L.getD j 0→i=j
theorem z53{A N:Nat→Nat}{V:Nat→Int}{c:List Int}(hc:Bytes c){m:Nat}(hr:∀i,i<m→A i+N i≤8*c.length){q:Nat}(hq:∀i,i<m→¬(A i≤q∧q<A i+N i)):
  ∀i,i≤m→q09 (qfl A N V c i) q=q09 c q
 |0,_=>rfl
 |i+1,hi=>by
  rw[qfl,qu8 (q4v A N V hc i) (by rw[q5z];exact hr i (by omega)),if_neg (hq i (by omega))]
  exact z53 hc hr hq i (by omega)
theorem qdq(c:List Int)(L:List Nat)(n:Int):(layB c L n).length=c.length:=q5z _ _ _ _ _
theorem q7f{c:List Int}(hc:Bytes c)(L:List Nat)(n:Int):Bytes (layB c L n):=q4v _ _ _ hc _
theorem qsa{c:List Int}(hc:Bytes c)(hl:c.length=8){L:List Nat}(hL:Pl L)(n:Int){j:Nat}(hj:j<L.length):q09 (layB c L n) (L.getD j 0)=n/2^(L.length-1-j)%2:=by
 have h:=qu9 (A:=fun i=>L.getD i 0) (N:=fun _=>1) (V:=fun i=>n/2^(L.length-1-i)%2) hc (m:=L.length) (fun i hi=>by have:=hL.2.1 i hi;show L.getD i 0+1≤_;omega) (fun i k hi hk hik=>by
  have:L.getD i 0≠L.getD k 0:=fun e=>hik (hL.2.2 i k hi hk e)
  show L.getD i 0+1≤L.getD k 0∨L.getD k 0+1≤L.getD i 0
  omega) hj (q:=L.getD j 0) (w9 _) (Nat.lt_succ_self _) L.length hj (w9 _)
 unfold layB
 rw[h,show L.getD j 0+1-1-L.getD j 0=0 by omega]
 omega
theorem qai{c:List Int}(hc:Bytes c)(hl:c.length=8){L:List Nat}(hL:Pl L)(n:Int){q:Nat}(hq:∀i,i<L.length→L.getD i 0≠q):q09 (layB c L n) q=q09 c q:=
 z53 hc (fun i hi=>by have:=hL.2.1 i hi;show L.getD i 0+1≤_;omega) (fun i hi h=>hq i hi (by
  have h1:L.getD i 0≤q:=h.1
  have h2:q<L.getD i 0+1:=h.2
  omega)) L.length (w9 _)
theorem znf{c d:List Int}(hc:Bytes c)(hl:c.length=8)(hd:Bytes d)(hdl:d.length=8){L:List Nat}(hL:Pl L){n:Int}(h1:∀j,j<L.length→q09 d (L.getD j 0)=n/2^(L.length-1-j)%2)
  (h2:∀q,q<64→(∀i,i<L.length→L.getD i 0≠q)→q09 d q=q09 c q):d=layB c L n:=by
 refine qqx hd (q7f hc L n) (by rw[qdq,hl,hdl]) fun q hq=> ?_
 by_cases h:∃i,i<L.length∧L.getD i 0=q
 ·obtain⟨i,hi,rfl⟩:=h
  rw[qsa hc hl hL n hi,h1 i hi]
 ·have h' :∀i,i<L.length→L.getD i 0≠q:=fun i hi e=>h ⟨i,hi,e⟩
  rw[qai hc hl hL n h',h2 q (by omega) h']
theorem hset_lay{c:List Int}(hc:Bytes c)(hl:c.length=8){L:List Nat}(hL:Pl L){a n:Nat}(hn:L.length=n)(hLa:∀i,i<n→L.getD i 0=a+i)(h:a+n≤64)(v:Int):hset c a n v=layB c L v:=by
 refine znf hc hl (qil hc _ _ _) (by rw[qu7,hl]) hL (fun j hj=> ?_) fun q hq h' => ?_
 ·rw[qu8 hc (by omega),hLa j (by omega),if_pos (by omega)]
  congr 3
  omega
 ·rw[qu8 hc (by omega),if_neg]
  intro hc2
  have:=hLa (q-a) (by omega)
  exact h' (q-a) (by omega) (by omega)
theorem qun{L:List Nat}(h:(decide (L.length≤12)&&((yz L.length).all fun i=>decide (L.getD i 0<64)&&(yz L.length).all fun j=>decide (L.getD i 0=L.getD j 0→i=j)))=true):Pl L:=by
 simp only[yl,decide_eq_true_eq,List.all_eq_true,List.mem_range]at h
 exact⟨h.1,fun i hi=>(h.2 i hi).1,fun i j hi hj e=>(h.2 i hi).2 j hj e⟩
theorem shr_is{x:Int}{k:Nat}(hk:k≤63):iand .i64 (ishr .i64 x (k:Int)) 1=x/2^k%2:=by
 rw[z4m hk]
 exact qfb (b:=1) (by omega)
theorem bit_u(x:Int):y0 .u64 (x%2)=x%2:=wu64 (by omega) (by omega)
theorem zng{c:List Int}(hc:Bytes c)(hl:c.length=8)(n:Int){L:List Nat}(hL:Pl L):∀(d i k:Nat),i+d=L.length→d<k→
  q2a 600 k n (q3a L) (qfl (fun i=>L.getD i 0) (fun _=>1) (fun i=>n/2^(L.length-1-i)%2) c i) (L.length:Int) (i:Int)=some (layB c L n,()):=by
 intro d
 induction d with
 |zero=>
  intro i k h1 h2
  obtain⟨k,rfl⟩:∃k',k=k' +1:=⟨k-1,by omega⟩
  obtain rfl:i=L.length:=by omega
  unfold q2a q76
  simp only[Int.lt_irrefl,decide_false,cond_false]
  rfl
 |succ d ih=>
  intro i k h1 h2
  obtain⟨k,rfl⟩:∃k',k=k' +1:=⟨k-1,by omega⟩
  have hi:i<L.length:=by omega
  have hlen:=hL.1
  have hp:=hL.2.1 i hi
  have i1:(i:Int)<(L.length:Int):=by omega
  have e1:y0 .i64 (y0 .i64 ((L.length:Int)-1)-(i:Int))=((L.length-1-i:Nat):Int):=by
   rw[w64 (x:=(L.length:Int)-1) (by omega) (by omega),w64 (by omega) (by omega)]
   omega
  have hs:q26 600 (qfl (fun i=>L.getD i 0) (fun _=>1) (fun i=>n/2^(L.length-1-i)%2) c i) ((L.getD i 0:Nat):Int) (1:Int) (n/2^(L.length-1-i)%2)=_:=qim (n:=1) (by omega) (q4v _ _ _ hc i) (by rw[q5z];omega) (by omega) (by rw[q5z];omega) (by omega)
  have fin:=ih (i+1) k (by omega) (by omega)
  unfold q2a q76
  simp only[i1,decide_true,cond_true,yc,yd,yb,qch,quj,e1,shr_is (x:=n) (k:=L.length-1-i) (by omega),bit_u,hs,y5]
  rw[q0n (by omega)]
  exact fin
theorem zke{c:List Int}(hc:Bytes c)(hl:c.length=8)(n:Int){L:List Nat}(hL:Pl L):q2p 600 n (q3a L) c=some (layB c L n,()):=by
 unfold q2p
 have h:=zng hc hl n hL L.length 0 600 (by omega) (by have:=hL.1;omega)
 rw[show((0:Nat):Int)=0 from rfl]at h
 rw[qch,show q2a 600 600 n (q3a L) c (L.length:Int) 0=some (layB c L n,())from h]
 rfl
theorem zgq{c:List Int}(hc:Bytes c)(hl:c.length=8){v:Int}{x y:Int}{a n:Nat}{L:List Nat}(hL:Pl L)(hx:x=a)(hy:y=(a:Int)+n-1)(hLn:L.length=n)(hLa:∀i,i<n→L.getD i 0=a+i)(h:a+n≤64)(hv:0≤v∧v<2^n):
  q2o 600 v x y c=some (layB c L v,()):=by
 subst hx
 subst hy
 have hn:=hL.1
 have e:y0 .i64 (y0 .i64 ((a:Int)+n-1-a)+1)=(n:Int):=by
  rw[w64 (x:=(a:Int)+n-1-a) (by omega) (by omega),w64 (by omega) (by omega)]
  omega
 have h2:(2:Int)^n≤2^12:=q3h (by omega)
 unfold q2o
 rw[e,wu64 hv.1 (by omega),qim (by omega) hc (by omega) (by omega) (by omega) hv,hset_lay hc hl hL hLn hLa h]
 rfl
theorem zkf{c:List Int}(hc:Bytes c)(hl:c.length=8){n:Int}(hn:0≤n∧n≤9223372036854775807){L:List Nat}(hL:Pl L):∀(i t k:Nat),t+i=L.length→i<k→
  q91 600 k (qfl (fun t=>L.getD (L.length-1-t) 0) (fun _=>1) (fun t=>n/2^t%2) c t) (q3a L) (n/2^t) ((i:Int)-1)=some (qfl (fun t=>L.getD (L.length-1-t) 0) (fun _=>1) (fun t=>n/2^t%2) c L.length,()):=by
 intro i
 induction i with
 |zero=>
  intro t k h1 h2
  obtain⟨k,rfl⟩:∃k',k=k' +1:=⟨k-1,by omega⟩
  obtain rfl:t=L.length:=by omega
  unfold q91 qjj
  have:¬(0:Int)≤((0:Nat):Int)-1:=by omega
  simp only[this,decide_false,cond_false]
 |succ i ih=>
  intro t k h1 h2
  obtain⟨k,rfl⟩:∃k',k=k' +1:=⟨k-1,by omega⟩
  have hi:i<L.length:=by omega
  have hlen:=hL.1
  have hp:=hL.2.1 i hi
  have e0:((i+1:Nat):Int)-1=(i:Int):=by omega
  have i1:(i:Int)<(L.length:Int):=by omega
  have hq:0≤n/2^t:=Int.ediv_nonneg hn.1 (Int.le_of_lt (q6p t))
  have hq2:n/2^t≤n:=Int.ediv_le_self _ hn.1
  have em:yv (n/2^t) 2=n/2^t%2:=tmod_nonneg hq
  have ed:yw (n/2^t) 2=n/2^(t+1):=by rw[q1r hq,qoj]
  have hq3:0≤n/2^(t+1):=Int.ediv_nonneg hn.1 (Int.le_of_lt (q6p (t+1)))
  have hq4:n/2^(t+1)≤n:=Int.ediv_le_self _ hn.1
  have ew:y0 .i64 (n/2^(t+1))=n/2^(t+1):=w64 (by omega) (by omega)
  have ew2:y0 .i64 ((i:Int)-1)=(i:Int)-1:=w64 (by omega) (by omega)
  have ei:L.length-1-t=i:=by omega
  have hs:qmw 600 (qfl (fun t=>L.getD (L.length-1-t) 0) (fun _=>1) (fun t=>n/2^t%2) c t) ((L.getD i 0:Nat):Int) (1:Int) true (n/2^t%2)=some (qfl (fun t=>L.getD (L.length-1-t) 0) (fun _=>1) (fun t=>n/2^t%2) c (t+1),(0,())):=by
   have:=zm7 (F:=600) (by omega) (q4v (fun t=>L.getD (L.length-1-t) 0) (fun _=>1) (fun t=>n/2^t%2) hc t) (a:=L.getD i 0) (n:=1) (v:=n/2^t%2) (by rw[q5z];omega) (by omega) (by rw[q5z];omega) (by omega)
   rw[qfl]
   simp only[ei]
   exact this
  have fin:=ih (t+1) k (by omega) (by omega)
  unfold q91 qjj
  rw[e0]
  simp only[i1,decide_true,cond_true,yc,yd,yb,qch,quj,em,ed,ew,ew2,bit_u,hs,y5]
  exact fin
theorem qiq{c:List Int}(hc:Bytes c)(hl:c.length=8){n:Int}(hn:0≤n∧n≤9223372036854775807){L:List Nat}(hL:Pl L):q39 600 c (q3a L) n=some (layB c L n,()):=by
 have hlen:=hL.1
 have h:=zkf hc hl hn hL L.length 0 600 (by omega) (by omega)
 have e:qfl (fun t=>L.getD (L.length-1-t) 0) (fun _=>1) (fun t=>n/2^t%2) c L.length=layB c L n:=by
  have hr:∀i,i<L.length→(fun t=>L.getD (L.length-1-t) 0) i+(fun _=>1) i≤8*c.length:=fun i hi=>by
   have:=hL.2.1 (L.length-1-i) (by omega)
   show L.getD (L.length-1-i) 0+1≤_
   omega
  refine znf hc hl (q4v _ _ _ hc _) (by rw[q5z,hl]) hL (fun j hj=> ?_) fun q hq h' => ?_
  ·have:=qu9 (A:=fun t=>L.getD (L.length-1-t) 0) (N:=fun _=>1) (V:=fun t=>n/2^t%2) hc (m:=L.length) hr (fun i k hi hk hik=>by
    have:L.getD (L.length-1-i) 0≠L.getD (L.length-1-k) 0:=fun e=>hik (by have:=hL.2.2 _ _ (by omega) (by omega) e;omega)
    show L.getD (L.length-1-i) 0+1≤L.getD (L.length-1-k) 0∨L.getD (L.length-1-k) 0+1≤L.getD (L.length-1-i) 0
    omega) (j:=L.length-1-j) (by omega) (q:=L.getD j 0) (by show L.getD (L.length-1-(L.length-1-j)) 0≤_;rw[show L.length-1-(L.length-1-j)=j by omega];exact w9 _) (by show _<L.getD (L.length-1-(L.length-1-j)) 0+1;rw[show L.length-1-(L.length-1-j)=j by omega];exact Nat.lt_succ_self _) L.length (by omega) (w9 _)
   rw[this]
   simp only[show L.length-1-(L.length-1-j)=j by omega,show L.getD j 0+1-1-L.getD j 0=0 by omega]
   omega
  ·exact z53 hc hr (fun i hi hh=>h' (L.length-1-i) (by omega) (by
    have h1:L.getD (L.length-1-i) 0≤q:=hh.1
    have h2:q<L.getD (L.length-1-i) 0+1:=hh.2
    omega)) L.length (w9 _)
 rw[e]at h
 unfold q39
 rw[qch,w64 (by omega) (by omega)]
 have h' :q91 600 600 c (q3a L) n ((L.length:Int)-1)=some (layB c L n,()):=by
  have e0:n/2^0=n:=by simp
  rw[e0]at h
  exact h
 rw[h']
 rfl
end Go.AE.Gn
set_option linter.unusedVariables false
set_option linter.unusedSimpArgs false
namespace Go.AE.Gn
open Go Go.AE
def F1:List Nat:=[1,2,3,4,5,6]
def F2:List Nat:=[7,9,10,11,12,13,14]
def F3:List Nat:=[15,19,20,22,23,24]
def F4:List Nat:=[25,26,27,28,29,31]
def F5:List Nat:=[32,33,34,35,36,37,38]
def F6:List Nat:=[39,40,41,42,43,44]
def F7:List Nat:=[45,46,47,48,49,50]
def F8:List Nat:=[51,52,53,54,55,56,57]
def F9:List Nat:=[58,59,60,61,62,63]
def seqB(c:List Int)(fs:List (List Nat×Int)):List Int:=fs.foldl (fun c f=>layB c f.1 f.2) c
def fieldsOf(o h v:List Int):List (List Nat×Int):=
 [(F1,o.getD 0 0),(F2,o.getD 1 0),(F3,o.getD 2 0),(F4,h.getD 0 0),(F5,h.getD 1 0),(F6,h.getD 2 0),(F7,v.getD 0 0),(F8,v.getD 1 0),(F9,v.getD 2 0),([30],1)]
def z8:List Int:=[0,0,0,0,0,0,0,0]
def zAll(o h v:List Int):List Int:=seqB z8 (fieldsOf o h v)
theorem z13:Bytes z8:=fun x hx=>by simp[z8]at hx;omega
theorem znh{c:List Int}(hc:Bytes c)(hl:c.length=8):∀fs,Bytes (seqB c fs)∧(seqB c fs).length=8
 |[]=>⟨hc,hl⟩
 |f::fs=>znh (q7f hc f.1 f.2) (by rw[qdq,hl]) fs
def wV(b:List Int)(c:Nat):Int:=(eAs (q8s b) b).getD c 0+(eBs (q8s b) b).getD c 0
def badW(x:Int):Prop:=x<0∨31<x
instance (x:Int):Decidable (badW x):=by unfold badW;exact inferInstance
def fix0(b:List Int):List Int:=if badW (wV b 0)then layB b [0] 1 else b
def fix1(b:List Int):List Int:=if badW (wV b 1)then layB (fix0 b) [8] 1 else fix0 b
def fix2(b:List Int):List Int:=if 4≤hv (fix1 b) 19 2+hv (fix1 b) 22 2 then layB (fix1 b) [16,17,18] 7 else layB (fix1 b) [21] 1
theorem P1:Pl F1:=qun (by decide+kernel)
theorem P2:Pl F2:=qun (by decide+kernel)
theorem P3:Pl F3:=qun (by decide+kernel)
theorem P4:Pl F4:=qun (by decide+kernel)
theorem P5:Pl F5:=qun (by decide+kernel)
theorem P6:Pl F6:=qun (by decide+kernel)
theorem P7:Pl F7:=qun (by decide+kernel)
theorem P8:Pl F8:=qun (by decide+kernel)
theorem P9:Pl F9:=qun (by decide+kernel)
theorem P30:Pl [30]:=qun (by decide+kernel)
theorem P00:Pl [0]:=qun (by decide+kernel)
theorem P08:Pl [8]:=qun (by decide+kernel)
theorem P16:Pl [16,17,18]:=qun (by decide+kernel)
theorem P21:Pl [21]:=qun (by decide+kernel)
theorem z54{b:List Int}(hb:Bytes b)(hl:b.length=8):Bytes (fix0 b)∧(fix0 b).length=8:=by
 unfold fix0
 split
 ·exact⟨q7f hb _ _,by rw[qdq,hl]⟩
 ·exact⟨hb,hl⟩
theorem zb0{b:List Int}(hb:Bytes b)(hl:b.length=8):Bytes (fix1 b)∧(fix1 b).length=8:=by
 obtain⟨h1,h2⟩:=z54 hb hl
 unfold fix1
 split
 ·exact⟨q7f h1 _ _,by rw[qdq,h2]⟩
 ·exact⟨h1,h2⟩
theorem fix2_ok{b:List Int}(hb:Bytes b)(hl:b.length=8):Bytes (fix2 b)∧(fix2 b).length=8:=by
 obtain⟨h1,h2⟩:=zb0 hb hl
 unfold fix2
 split<;>exact⟨q7f h1 _ _,by rw[qdq,h2]⟩
theorem fair_w(b:List Int)(c:Nat): -4≤wV b c∧wV b c≤46:=by
 have hf:=eFair (q8s b) b
 have h1:=hf.2.2.1 c
 have h2:=hf.2.2.2 c
 unfold wV
 omega
theorem zni{b:List Int}(hb:Bytes b)(hl:b.length=8)(z:List Int)(d f:Bool)(T W:List Int){c:Nat}(hc:c<2){L:List Nat}(hL:Pl L)(hLc:L=[8*c])(k:Nat):
  q3c 600 (k+1) b d f (eAs (q8s z) z) (eBs (q8s z) z) T W (c:Int)=q3c 600 k (if badW (wV z c)then layB b L 1 else b) d f (eAs (q8s z) z) (eBs (q8s z) z) T W ((c+1:Nat):Int):=by
 have i1:(c:Int)<2:=by omega
 have i3:(c:Int)<3:=by omega
 have hw:=fair_w z c
 have ew:y0 .i64 ((eAs (q8s z) z).getD c 0+(eBs (q8s z) z).getD c 0)=wV z c:=w64 (by unfold wV at hw;omega) (by unfold wV at hw;omega)
 have e8:[y0 .i64 (8*(c:Int))]=q3a L:=by
  rw[hLc,w64 (by omega) (by omega)]
  simp[q3a]
 have hp:=zke hb hl 1 hL
 conv=>lhs;unfold q3c qbm
 simp only[i1,i3,decide_true,cond_true,yc,yd,yb,ew,e8,hp,y5]
 rw[q0n (by omega)]
 by_cases h1:wV z c<0
 ·rw[if_pos (show badW (wV z c)from Or.inl h1)]
  simp only[h1,decide_true,cond_true]
 ·by_cases h2:31<wV z c
  ·rw[if_pos (show badW (wV z c)from Or.inr h2)]
   simp only[h1,h2,decide_true,decide_false,cond_true,cond_false]
  ·rw[if_neg (show¬badW (wV z c)from fun h=>h.elim h1 h2)]
   simp only[h1,h2,decide_false,cond_false]
theorem l2_is{b:List Int}(hb:Bytes b)(hl:b.length=8)(d f:Bool)(T W:List Int)(k:Nat):q3c 600 (k+3) b d f (eAs (q8s b) b) (eBs (q8s b) b) T W 0=some (fix1 b,()):=by
 obtain⟨h1,h2⟩:=z54 hb hl
 refine(zni hb hl b d f T W (c:=0) (by omega) P00 rfl (k+2)).trans ?_
 refine(zni h1 h2 b d f T W (c:=1) (by omega) P08 rfl (k+1)).trans ?_
 unfold q3c qbm
 have:¬(((1+1:Nat):Int)<2):=by omega
 simp only[this,decide_false,cond_false]
 rfl
theorem qor{b:List Int}(hb:Bytes b)(hl:b.length=8){L:List Nat}(hL:Pl L)(v:Int){a n:Nat}(h:∀q,a≤q→q<a+n→∀i,i<L.length→L.getD i 0≠q):hv (layB b L v) a n=hv b a n:=
 q8q fun i hi=>qai hb hl hL v (h (a+i) (by omega) (by omega))
theorem wV_fix{b:List Int}(hb:Bytes b)(hl:b.length=8):wV (fix0 b) 1=wV b 1:=by
 unfold fix0
 split
 ·have h:∀a n,1≤a→hv (layB b [0] 1) a n=hv b a n:=fun a n ha=>qor hb hl P00 1 fun q h1 h2 i hi=>by
   have:i=0:=by
    have:i<1:=hi
    omega
   subst this
   show 0≠q
   omega
  unfold wV eAs eBs eA eB q8s
  simp only[yt,yu,h 30 1 (by omega),h (8*1) 5 (by omega),h (8*1) 4 (by omega),h (8*1+5) 3 (by omega),h (8*1+4) 4 (by omega)]
 ·rfl
theorem zip{b:List Int}(hb:Bytes b)(hl:b.length=8){c:Nat}(hc:c<2){L:List Nat}(hL:Pl L)(hLc:L=[8*c])(k:Nat):
  q6x 600 (k+1) b (c:Int)=q6x 600 k (if badW (wV b c)then layB b L 1 else b) ((c+1:Nat):Int):=by
 have i1:(c:Int)<2:=by omega
 have i3:(c:Int)<3:=by omega
 have hw:=fair_w b c
 have ew:y0 .i64 ((eAs (q8s b) b).getD c 0+(eBs (q8s b) b).getD c 0)=wV b c:=w64 (by unfold wV at hw;omega) (by unfold wV at hw;omega)
 have e8:[y0 .i64 (8*(c:Int))]=q3a L:=by
  rw[hLc,w64 (by omega) (by omega)]
  simp[q3a]
 have hp:=qiq hb hl (n:=1) (by omega) hL
 have hP:qej 600 b=some (eP b,(0,())):=z4t (by omega) hb hl
 conv=>lhs;unfold q6x qjl
 simp only[i1,i3,decide_true,cond_true,yc,yd,yb,hP,eP,ew,e8,hp,y5]
 rw[q0n (by omega)]
 by_cases h1:wV b c<0
 ·rw[if_pos (show badW (wV b c)from Or.inl h1)]
  simp only[h1,decide_true,cond_true]
 ·by_cases h2:31<wV b c
  ·rw[if_pos (show badW (wV b c)from Or.inr h2)]
   simp only[h1,h2,decide_true,decide_false,cond_true,cond_false]
  ·rw[if_neg (show¬badW (wV b c)from fun h=>h.elim h1 h2)]
   simp only[h1,h2,decide_false,cond_false]
theorem rl2_is{b:List Int}(hb:Bytes b)(hl:b.length=8)(k:Nat):q6x 600 (k+3) b 0=some (fix1 b,()):=by
 obtain⟨h1,h2⟩:=z54 hb hl
 refine(zip hb hl (c:=0) (by omega) P00 rfl (k+2)).trans ?_
 refine(zip h1 h2 (c:=1) (by omega) P08 rfl (k+1)).trans ?_
 rw[wV_fix hb hl]
 unfold q6x qjl
 have:¬(((1+1:Nat):Int)<2):=by omega
 simp only[this,decide_false,cond_false]
 rfl
def ok3(l:List Int):Prop:=(0≤l.getD 0 0∧l.getD 0 0<64)∧(0≤l.getD 1 0∧l.getD 1 0<128)∧(0≤l.getD 2 0∧l.getD 2 0<64)
instance (l:List Int):Decidable (ok3 l):=by unfold ok3;exact inferInstance
def I64(x:Int):Prop:= -9223372036854775808≤x∧x≤9223372036854775807
theorem zgr(o h v:List Int){L:List Int}(hL:∀i,I64 (L.getD i 0))(hLl:L.length=9){i:Nat}(hi:i<3)(k:Nat):
  q2q 600 (k+1) o h v L (i:Int)=(if ok3 (tab 3 fun c=>L.getD (i*3+c) 0)then q2q 600 k o h v L ((i+1:Nat):Int)else some (.inl ()))∧
  q5b 600 (k+1) o h v L (i:Int)=(if ok3 (tab 3 fun c=>L.getD (i*3+c) 0)then q5b 600 k o h v L ((i+1:Nat):Int)else some (.inl ())):=by
 have i1:(i:Int)<3:=by omega
 have hrow:y8 3 (y9 (i*3) L)=tab 3 fun c=>L.getD (i*3+c) 0:=by
  conv=>lhs;rw[qfc hLl]
  exact qpe (by omega)
 have hor:=or_range (hL (i*3)) (hL (i*3+2))
 have han:=andn_is (hL (i*3+1)) (b:=7) (by omega) (c:=127) (by decide)
 have g0:(tab 3 fun c=>L.getD (i*3+c) 0).getD 0 0=L.getD (i*3) 0:=q1o (by omega)
 have g1:(tab 3 fun c=>L.getD (i*3+c) 0).getD 1 0=L.getD (i*3+1) 0:=q1o (by omega)
 have g2:(tab 3 fun c=>L.getD (i*3+c) 0).getD 2 0=L.getD (i*3+2) 0:=q1o (by omega)
 have hok:ok3 (tab 3 fun c=>L.getD (i*3+c) 0)↔(0≤L.getD (i*3) 0∧L.getD (i*3) 0<64)∧(0≤L.getD (i*3+1) 0∧L.getD (i*3+1) 0<128)∧(0≤L.getD (i*3+2) 0∧L.getD (i*3+2) 0<64):=by
  unfold ok3
  rw[g0,g1,g2]
 have n3:L.length/3=3:=by rw[hLl]
 have i3:(i:Int)<((3:Nat):Int):=by omega
 constructor
 ·conv=>lhs;unfold q2q qbl
  simp only[i1,decide_true,cond_true,yc,yd,yb,hrow,g0,g1,g2]
  rw[q0n (by omega)]
  by_cases hA:qsg .i64 (ior .i64 (L.getD (i*3) 0) (L.getD (i*3+2) 0)) 63=0
  ·by_cases hB:qsg .i64 (L.getD (i*3+1) 0) 127=0
   ·rw[if_pos (hok.2 ⟨(hor.1 hA).1,han.1 hB,(hor.1 hA).2⟩),hA,hB]
    rfl
   ·rw[if_neg (fun h=>hB (han.2 (hok.1 h).2.1)),hA,bneT hB]
    rfl
  ·rw[if_neg (fun h=>hA (hor.2 ⟨(hok.1 h).1,(hok.1 h).2.2⟩)),bneT hA]
   rfl
 ·conv=>lhs;unfold q5b qjk
  simp only[n3,i1,i3,decide_true,cond_true,yc,yd,yb,zn2,y5]
  rw[q0n (by omega),Nat.add_comm 1 (i*3),Nat.add_comm 2 (i*3)]
  by_cases hA:0≤L.getD (i*3) 0∧L.getD (i*3) 0≤63
  ·by_cases hB:0≤L.getD (i*3+1) 0∧L.getD (i*3+1) 0≤127
   ·by_cases hC:0≤L.getD (i*3+2) 0∧L.getD (i*3+2) 0≤63
    ·rw[if_pos (hok.2 (by omega))]
     simp only[hA,hB,hC,and_self,decide_true,Bool.not_true,cond_false]
    ·rw[if_neg (fun h=>hC (by have:=hok.1 h;omega))]
     simp only[hA,hB,hC,and_self,decide_true,decide_false,Bool.not_true,Bool.not_false,cond_false,cond_true]
   ·rw[if_neg (fun h=>hB (by have:=hok.1 h;omega))]
    simp only[hA,hB,and_self,decide_true,decide_false,Bool.not_true,Bool.not_false,cond_false,cond_true]
  ·rw[if_neg (fun h=>hA (by have:=hok.1 h;omega))]
   simp only[hA,decide_false,Bool.not_false,cond_true]
theorem znj{o h v:List Int}(ho:o.length=3)(hh:h.length=3)(hv:v.length=3)(h64:∀i,I64 ((o++(h++v)).getD i 0))(k:Nat):
  q2q 600 (k+4) o h v (o++(h++v)) 0=some (if ok3 o∧ok3 h∧ok3 v then .inr (o,(h,(v,())))else .inl ())∧q5b 600 (k+4) o h v (o++(h++v)) 0=some (if ok3 o∧ok3 h∧ok3 v then .inr (o,(h,(v,())))else .inl ()):=by
 have hl:(o++(h++v)).length=9:=by simp[ho,hh,hv]
 have ho' :=qfc ho
 have hh' :=qfc hh
 have hv' :=qfc hv
 have r0:(tab 3 fun c=>(o++(h++v)).getD (0*3+c) 0)=o:=by
  conv=>rhs;rw[ho']
  refine q01 fun c hc=> ?_
  rw[ye,ye,yg (by omega)]
  congr 2
  omega
 have r1:(tab 3 fun c=>(o++(h++v)).getD (1*3+c) 0)=h:=by
  conv=>rhs;rw[hh']
  refine q01 fun c hc=> ?_
  rw[ye,ye,w7 (by omega),yg (by omega)]
  congr 2
  omega
 have r2:(tab 3 fun c=>(o++(h++v)).getD (2*3+c) 0)=v:=by
  conv=>rhs;rw[hv']
  refine q01 fun c hc=> ?_
  rw[ye,ye,w7 (by omega),w7 (by omega)]
  congr 2
  omega
 obtain⟨a0,b0⟩:=zgr o h v h64 hl (i:=0) (by omega) (k+3)
 obtain⟨a1,b1⟩:=zgr o h v h64 hl (i:=1) (by omega) (k+2)
 obtain⟨a2,b2⟩:=zgr o h v h64 hl (i:=2) (by omega) (k+1)
 rw[r0]at a0 b0
 rw[r1]at a1 b1
 rw[r2]at a2 b2
 have a3:q2q 600 (k+1) o h v (o++(h++v)) ((2+1:Nat):Int)=some (.inr (o,(h,(v,())))):=by
  unfold q2q qbl
  have:¬(((2+1:Nat):Int)<3):=by omega
  simp only[this,decide_false,cond_false]
 have b3:q5b 600 (k+1) o h v (o++(h++v)) ((2+1:Nat):Int)=some (.inr (o,(h,(v,())))):=by
  unfold q5b qjk
  have:¬(((2+1:Nat):Int)<3):=by omega
  simp only[this,decide_false,cond_false]
 constructor
 ·refine a0.trans ?_
  by_cases c0:ok3 o
  ·rw[if_pos c0]
   refine a1.trans ?_
   by_cases c1:ok3 h
   ·rw[if_pos c1]
    refine a2.trans ?_
    by_cases c2:ok3 v
    ·rw[if_pos c2,if_pos ⟨c0,c1,c2⟩]
     exact a3
    ·rw[if_neg c2,if_neg (fun h=>c2 h.2.2)]
   ·rw[if_neg c1,if_neg (fun h=>c1 h.2.1)]
  ·rw[if_neg c0,if_neg (fun h=>c0 h.1)]
 ·refine b0.trans ?_
  by_cases c0:ok3 o
  ·rw[if_pos c0]
   refine b1.trans ?_
   by_cases c1:ok3 h
   ·rw[if_pos c1]
    refine b2.trans ?_
    by_cases c2:ok3 v
    ·rw[if_pos c2,if_pos ⟨c0,c1,c2⟩]
     exact b3
    ·rw[if_neg c2,if_neg (fun h=>c2 h.2.2)]
   ·rw[if_neg c1,if_neg (fun h=>c1 h.2.1)]
  ·rw[if_neg c0,if_neg (fun h=>c0 h.1)]
end Go.AE.Gn
set_option linter.unusedVariables false
set_option linter.unusedSimpArgs false
namespace Go.AE.Gn
open Go Go.AE
def layV(o h v:List Int):List Int:=fix2 (zAll o h v)
theorem z55(o h v:List Int):Bytes (zAll o h v)∧(zAll o h v).length=8:=znh z13 rfl _
theorem zgs(o h v:List Int):Bytes (layV o h v)∧(layV o h v).length=8:=fix2_ok (z55 o h v).1 (z55 o h v).2
theorem span_is:q4c 600 1 6=some (q3a F1,())∧q4c 600 32 38=some (q3a F5,())∧q4c 600 39 44=some (q3a F6,())∧q4c 600 45 50=some (q3a F7,())∧q4c 600 51 57=some (q3a F8,())∧q4c 600 58 63=some (q3a F9,()):=by
 decide+kernel
theorem lay_is{o h v:List Int}(ho:o.length=3)(hh:h.length=3)(hv' :v.length=3)(h64:∀i,I64 ((o++(h++v)).getD i 0)):
  qhm 600 o h v=some (if ok3 o∧ok3 h∧ok3 v then(layV o h v,(0,()))else([],(1,())))∧zcy 600 o h v=some (if ok3 o∧ok3 h∧ok3 v then(layV o h v,(0,()))else([],(1,()))):=by
 obtain⟨la,lb⟩:=znj ho hh hv' h64 596
 unfold qhm zcy
 rw[la,lb]
 simp only[y5]
 by_cases hok:ok3 o∧ok3 h∧ok3 v
 ·rw[if_pos hok,if_pos hok]
  simp only[]
  obtain⟨⟨o0,o1,o2⟩,⟨h0,h1,h2⟩,⟨v0,v1,v2⟩⟩:=hok
  have t0:qjh=z8:=rfl
  have t1:q64=q3a F2:=rfl
  have t2:q65=q3a F3:=rfl
  have t3:q66=q3a F4:=rfl
  have t30:[(30:Int)]=q3a [30]:=rfl
  have t16:[(16:Int),17,18]=q3a [16,17,18]:=rfl
  have t21:[(21:Int)]=q3a [21]:=rfl
  obtain⟨p1,p5,p6,p7,p8,p9⟩:=span_is
  have step:∀{c:List Int} (hc:Bytes c∧c.length=8) (L:List Nat) (n:Int),Bytes (layB c L n)∧(layB c L n).length=8:=fun hc L n=>⟨q7f hc.1 L n,by rw[qdq,hc.2]⟩
  have z0:Bytes z8∧z8.length=8:=⟨z13,rfl⟩
  have z1:=step z0 F1 (o.getD 0 0)
  have e1:=zgq z0.1 z0.2 (v:=o.getD 0 0) (x:=1) (y:=6) (a:=1) (n:=6) P1 rfl rfl rfl (by decide) (by omega) o0
  have f1:=qiq z0.1 z0.2 (n:=o.getD 0 0) (by omega) P1
  obtain⟨s1,hs1⟩:∃s,layB z8 F1 (o.getD 0 0)=s:=⟨_,rfl⟩
  rw[hs1]at z1 e1 f1
  have z2:=step z1 F2 (o.getD 1 0)
  have e2:=zke z1.1 z1.2 (o.getD 1 0) P2
  have f2:=qiq z1.1 z1.2 (n:=o.getD 1 0) (by omega) P2
  obtain⟨s2,hs2⟩:∃s,layB s1 F2 (o.getD 1 0)=s:=⟨_,rfl⟩
  rw[hs2]at z2 e2 f2
  have z3:=step z2 F3 (o.getD 2 0)
  have e3:=zke z2.1 z2.2 (o.getD 2 0) P3
  have f3:=qiq z2.1 z2.2 (n:=o.getD 2 0) (by omega) P3
  obtain⟨s3,hs3⟩:∃s,layB s2 F3 (o.getD 2 0)=s:=⟨_,rfl⟩
  rw[hs3]at z3 e3 f3
  have z4:=step z3 F4 (h.getD 0 0)
  have e4:=zke z3.1 z3.2 (h.getD 0 0) P4
  have f4:=qiq z3.1 z3.2 (n:=h.getD 0 0) (by omega) P4
  obtain⟨s4,hs4⟩:∃s,layB s3 F4 (h.getD 0 0)=s:=⟨_,rfl⟩
  rw[hs4]at z4 e4 f4
  have z5:=step z4 F5 (h.getD 1 0)
  have e5:=zgq z4.1 z4.2 (v:=h.getD 1 0) (x:=32) (y:=38) (a:=32) (n:=7) P5 rfl rfl rfl (by decide) (by omega) h1
  have f5:=qiq z4.1 z4.2 (n:=h.getD 1 0) (by omega) P5
  obtain⟨s5,hs5⟩:∃s,layB s4 F5 (h.getD 1 0)=s:=⟨_,rfl⟩
  rw[hs5]at z5 e5 f5
  have z6:=step z5 F6 (h.getD 2 0)
  have e6:=zgq z5.1 z5.2 (v:=h.getD 2 0) (x:=39) (y:=44) (a:=39) (n:=6) P6 rfl rfl rfl (by decide) (by omega) h2
  have f6:=qiq z5.1 z5.2 (n:=h.getD 2 0) (by omega) P6
  obtain⟨s6,hs6⟩:∃s,layB s5 F6 (h.getD 2 0)=s:=⟨_,rfl⟩
  rw[hs6]at z6 e6 f6
  have z7:=step z6 F7 (v.getD 0 0)
  have e7:=zgq z6.1 z6.2 (v:=v.getD 0 0) (x:=45) (y:=50) (a:=45) (n:=6) P7 rfl rfl rfl (by decide) (by omega) v0
  have f7:=qiq z6.1 z6.2 (n:=v.getD 0 0) (by omega) P7
  obtain⟨s7,hs7⟩:∃s,layB s6 F7 (v.getD 0 0)=s:=⟨_,rfl⟩
  rw[hs7]at z7 e7 f7
  have z8' :=step z7 F8 (v.getD 1 0)
  have e8:=zgq z7.1 z7.2 (v:=v.getD 1 0) (x:=51) (y:=57) (a:=51) (n:=7) P8 rfl rfl rfl (by decide) (by omega) v1
  have f8:=qiq z7.1 z7.2 (n:=v.getD 1 0) (by omega) P8
  obtain⟨s8,hs8⟩:∃s,layB s7 F8 (v.getD 1 0)=s:=⟨_,rfl⟩
  rw[hs8]at z8' e8 f8
  have z9:=step z8' F9 (v.getD 2 0)
  have e9:=zgq z8'.1 z8'.2 (v:=v.getD 2 0) (x:=58) (y:=63) (a:=58) (n:=6) P9 rfl rfl rfl (by decide) (by omega) v2
  have f9:=qiq z8'.1 z8'.2 (n:=v.getD 2 0) (by omega) P9
  obtain⟨s9,hs9⟩:∃s,layB s8 F9 (v.getD 2 0)=s:=⟨_,rfl⟩
  rw[hs9]at z9 e9 f9
  have z10:=step z9 [30] 1
  have e10:=zke z9.1 z9.2 1 P30
  have f10:=qiq z9.1 z9.2 (n:=1) (by omega) P30
  have hz:layB s9 [30] 1=zAll o h v:=by
   unfold zAll seqB fieldsOf
   simp only[List.foldl_cons,List.foldl_nil,hs1,hs2,hs3,hs4,hs5,hs6,hs7,hs8,hs9]
  rw[hz]at z10 e10 f10
  have hP:=qx5 (F:=600) (by omega) z10.1 z10.2
  have e11:=l2_is z10.1 z10.2 (q8s (zAll o h v)) (zk1 (zAll o h v)) [hv (zAll o h v) 24 3,hv (zAll o h v) 27 3] (eWs (zAll o h v)) 597
  have f11:=rl2_is z10.1 z10.2 597
  obtain⟨q1,q2⟩:=zb0 z10.1 z10.2
  obtain⟨r1,t1'⟩:=qat q1 q2 false false [0,0,0] [0,0,0] [0,0] q4s false (x:=19) (y:=20) (a:=19) (n:=2) rfl rfl (by omega) (by omega)
  obtain⟨r2,t2'⟩:=qat q1 q2 false false [0,0,0] [0,0,0] [0,0] q4s false (x:=22) (y:=23) (a:=22) (n:=2) rfl rfl (by omega) (by omega)
  have g1:=q0u (fix1 (zAll o h v)) 19 2
  have g2:=q0u (fix1 (zAll o h v)) 22 2
  have ew:y0 .i64 (hv (fix1 (zAll o h v)) 19 2+hv (fix1 (zAll o h v)) 22 2)=hv (fix1 (zAll o h v)) 19 2+hv (fix1 (zAll o h v)) 22 2:=w64 (by omega) (by omega)
  have e12:=zgq q1 q2 (v:=7) (x:=16) (y:=18) (a:=16) (n:=3) P16 rfl rfl rfl (by decide) (by omega) (by decide)
  have f12:=qiq q1 q2 (n:=7) (by omega) P16
  have e13:=zke q1 q2 1 P21
  have f13:=qiq q1 q2 (n:=1) (by omega) P21
  rw[t0,t1,t2,t3,t30,t16,t21]
  rw[eP]at hP
  simp only[p1,p5,p6,p7,p8,p9,y5,e1,e2,e3,e4,e5,e6,e7,e8,e9,e10,f1,f2,f3,f4,f5,f6,f7,f8,f9,f10,hP,e11,f11,r1,r2,t1',t2',ew,e12,e13,f12,f13]
  by_cases hc:4≤hv (fix1 (zAll o h v)) 19 2+hv (fix1 (zAll o h v)) 22 2
  ·have:layV o h v=layB (fix1 (zAll o h v)) [16,17,18] 7:=by
    unfold layV fix2
    rw[if_pos hc]
   rw[this]
   simp only[hc,decide_true,cond_true,and_self,ok3,o0,o1,o2,h0,h1,h2,v0,v1,v2,if_true]
  ·have:layV o h v=layB (fix1 (zAll o h v)) [21] 1:=by
    unfold layV fix2
    rw[if_neg hc]
   rw[this]
   simp only[hc,decide_false,cond_false,and_self,ok3,o0,o1,o2,h0,h1,h2,v0,v1,v2,if_true]
 ·rw[if_neg hok,if_neg hok]
  exact⟨rfl,rfl⟩
end Go.AE.Gn

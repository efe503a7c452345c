/- A part of the proof, put together of my texts: Pure11g, Pure11h, Pure11i, Pure11j, Pure12, Pure13b, Pure13c, Pure13d, Pure13e, Pure13z, Pure14a, Pure14b, Pure14c, Pure14d, Pure14e, Pure14g, Pure14f, Pure14j, Pure14k, Pure14l, Pure14m. -/
import Derived.Test.YtaogfbhifeobmaaGreatRowFlatTellsP7
set_option linter.unusedVariables false
set_option linter.unusedSimpArgs false
open Go.IntKind renaming wrap → y0
open Int renaming natCast_pow → wh, lt_irrefl → yv, natCast_nonneg → yc, toNat_natCast → yb, tmod → yw, tdiv → yx, cast_ofNat_Int → yp, natCast_zero → yq, eq_ofNat_of_zero_le → yh, emod_eq_of_lt → we, toNat → y6
open Nat renaming le_refl → wc, add_assoc → wg
open List renaming range → w8, getD_cons_zero → yt, getD_cons_succ → yu, take → y8, drop → y9, getD_eq_getElem?_getD → ye, getElem?_append_left → yg, getElem?_append_right → w9, mem_cons → yr, getElem?_eq_getElem → yj, length_append → yo, getElem?_eq_none → wa, mem_append → yk
open Bool renaming and_eq_true → yl, and_self → yd, false_eq_true → yn
open Option renaming bind_some → y5
open Prod.mk renaming injEq → ym
namespace Go.AE.Gn
open Go Go.AE
theorem j50(n:Int):(y0 .i64 n)%18446744073709551616=n%18446744073709551616:=by
 simp only[y0]
 simp[IntKind.signed,IntKind.bits]
 try omega
theorem j6y(X:BitVec 64):BitVec.ofInt 64 (y0 .i64 (X.toNat:Int))=X:=by
 apply BitVec.eq_of_toNat_eq
 rw[BitVec.toNat_ofInt]
 have h:=j50 (X.toNat:Int)
 have hx:=X.isLt
 have:((2^64:Nat):Int)=18446744073709551616:=by decide
 rw[this,h]
 omega
theorem j03(X:BitVec 64):y0 .i64 (X.toNat:Int)=0↔X.toNat=0:=by
 have h:=j50 (X.toNat:Int)
 have hx:=X.isLt
 constructor
 ·intro e
  rw[e]at h
  omega
 ·intro e
  rw[e]
  rfl
theorem j9r(X:BitVec 64){b:Nat}(hb:b≤62):(X&&& ~~~(BitVec.ofNat 64 (2^b-1))).toNat=0↔X.toNat<2^b:=by
 have hM:∀i,i<64→(BitVec.ofNat 64 (2^b-1)).getLsbD i=decide (i<b):=fun i hi=>by
  rw[BitVec.getLsbD_ofNat,Nat.testBit_two_pow_sub_one]
  simp[hi]
 constructor
 ·intro h
  refine Nat.lt_pow_two_of_testBit _ fun i hi=> ?_
  by_cases h64:i<64
  ·have h2:(X&&& ~~~(BitVec.ofNat 64 (2^b-1))).getLsbD i=false:=by
    show Nat.testBit (X&&& ~~~(BitVec.ofNat 64 (2^b-1))).toNat i=false
    rw[h]
    exact Nat.zero_testBit i
   rw[BitVec.getLsbD_and,BitVec.getLsbD_not,hM i h64]at h2
   have hd:decide (i<b)=false:=by simp;omega
   rw[hd]at h2
   have h3:X.getLsbD i=false:=by
    cases hX:X.getLsbD i
    ·rfl
    ·rw[hX]at h2
     simp[h64]at h2
   exact h3
  ·exact BitVec.getLsbD_of_ge X i (by omega)
 ·intro h
  have:X&&& ~~~(BitVec.ofNat 64 (2^b-1))=0#64:=by
   apply BitVec.eq_of_getLsbD_eq
   intro i hi
   rw[BitVec.getLsbD_and,BitVec.getLsbD_not,hM i hi]
   by_cases hib:i<b
   ·simp[hib]
   ·have hx:X.getLsbD i=false:=Nat.testBit_lt_two_pow (Nat.lt_of_lt_of_le h (Nat.pow_le_pow_right (by decide) (by omega)))
    rw[hx]
    simp
  rw[this]
  rfl
theorem zma(x:Int):((BitVec.ofInt 64 x).toNat:Int)=x%18446744073709551616:=by
 rw[BitVec.toNat_ofInt]
 have:((2^64:Nat):Int)=18446744073709551616:=by decide
 rw[this,Int.toNat_of_nonneg (by omega)]
theorem andn_is{x:Int}(hx: -9223372036854775808≤x∧x≤9223372036854775807){b:Nat}(hb:b≤62){c:Int}(hc:c=2^b-1):z5m .i64 x c=0↔0≤x∧x<2^b:=by
 have hp:=q87 b
 have hpb:(2:Int)^b≤2^62:=q34 hb
 have hn:(2:Nat)^b≤2^62:=Nat.pow_le_pow_right (by decide) hb
 have hcn:c=((2^b-1:Nat):Int):=by
  have:1≤(2:Nat)^b:=Nat.pow_pos (by decide:0<2)
  have e:((2^b:Nat):Int)=(2:Int)^b:=wh 2 b
  rw[hc]
  omega
 have e:((2^b:Nat):Int)=(2:Int)^b:=wh 2 b
 have hx2:=zma x
 unfold z5m
 rw[hcn,BitVec.ofInt_natCast]
 show y0 .i64 ((BitVec.ofInt 64 x&&& ~~~(BitVec.ofNat 64 (2^b-1))).toNat:Int)=0↔_
 rw[j03,j9r _ hb]
 omega
theorem or_range{x z:Int}(hx: -9223372036854775808≤x∧x≤9223372036854775807)(hz: -9223372036854775808≤z∧z≤9223372036854775807):z5m .i64 (ior .i64 x z) 63=0↔(0≤x∧x<64)∧(0≤z∧z<64):=by
 have hx2:=zma x
 have hz2:=zma z
 have key:z5m .i64 (ior .i64 x z) 63=y0 .i64 ((BitVec.ofInt 64 (y0 .i64 ((BitVec.ofInt 64 x|||BitVec.ofInt 64 z).toNat:Int))&&& ~~~(BitVec.ofInt 64 63)).toNat:Int):=rfl
 have e63:BitVec.ofInt 64 63=BitVec.ofNat 64 (2^6-1):=by decide
 rw[key,e63,j6y,j03,j9r _ (by omega),BitVec.toNat_or]
 have h1:(BitVec.ofInt 64 x).toNat≤(BitVec.ofInt 64 x).toNat|||(BitVec.ofInt 64 z).toNat:=Nat.left_le_or
 have h2:(BitVec.ofInt 64 z).toNat≤(BitVec.ofInt 64 x).toNat|||(BitVec.ofInt 64 z).toNat:=Nat.right_le_or
 constructor
 ·intro h
  omega
 ·intro h
  exact Nat.or_lt_two_pow (by omega) (by omega)
def layB(c:LI)(L:List Nat)(n:Int):LI:=qkj (fun i=>L.getD i 0) (fun _=>1) (fun i=>n/2^(L.length-1-i)%2) c L.length
def Pl(L:List Nat):Prop:=L.length≤12∧(∀i,i<L.length→L.getD i 0<64)∧∀i j,i<L.length→j<L.length→L.getD i 0=L.getD j 0→i=j
theorem z8o{A N:Nat→Nat}{V:Nat→Int}{c:LI}(hc:Bytes c){m:Nat}(hr:∀i,i<m→A i+N i≤8*c.length){q:Nat}(hq:∀i,i<m→¬(A i≤q∧q<A i+N i)):
  ∀i,i≤m→q0d (qkj A N V c i) q=q0d c q
 |0,_=>rfl
 |i+1,hi=>by
  rw[qkj,z86 (q3f A N V hc i) (by rw[q4d];exact hr i (by omega)),iN (hq i (by omega))]
  exact z8o hc hr hq i (by omega)
theorem qkn(c:LI)(L:List Nat)(n:Int):(layB c L n).length=c.length:=q4d _ _ _ _ _
theorem qbm{c:LI}(hc:Bytes c)(L:List Nat)(n:Int):Bytes (layB c L n):=q3f _ _ _ hc _
theorem z5i{c:LI}(hc:Bytes c)(hl:c.length=8){L:List Nat}(hL:Pl L)(n:Int){j:Nat}(hj:j<L.length):q0d (layB c L n) (L.getD j 0)=n/2^(L.length-1-j)%2:=by
 have h:=qzt (A:=fun i=>L.getD i 0) (N:=fun _=>1) (V:=fun i=>n/2^(L.length-1-i)%2) hc (m:=L.length) (fun i hi=>by have:=hL.2.1 i hi;show L.getD i 0+1≤_;omega) (fun i k hi hk hik=>by
  have:L.getD i 0≠L.getD k 0:=fun e=>hik (hL.2.2 i k hi hk e)
  show L.getD i 0+1≤L.getD k 0∨L.getD k 0+1≤L.getD i 0
  omega) hj (q:=L.getD j 0) (wc _) (Nat.lt_succ_self _) L.length hj (wc _)
 unfold layB
 rw[h,show L.getD j 0+1-1-L.getD j 0=0 by omega]
 omega
theorem qf8{c:LI}(hc:Bytes c)(hl:c.length=8){L:List Nat}(hL:Pl L)(n:Int){q:Nat}(hq:∀i,i<L.length→L.getD i 0≠q):q0d (layB c L n) q=q0d c q:=
 z8o hc (fun i hi=>by have:=hL.2.1 i hi;show L.getD i 0+1≤_;omega) (fun i hi h=>hq i hi (by
  have h1:L.getD i 0≤q:=h.1
  have h2:q<L.getD i 0+1:=h.2
  omega)) L.length (wc _)
theorem j9s{c d:LI}(hc:Bytes c)(hl:c.length=8)(hd:Bytes d)(hdl:d.length=8){L:List Nat}(hL:Pl L){n:Int}(h1:∀j,j<L.length→q0d d (L.getD j 0)=n/2^(L.length-1-j)%2)
  (h2:∀q,q<64→(∀i,i<L.length→L.getD i 0≠q)→q0d d q=q0d c q):d=layB c L n:=by
 refine qp1 hd (qbm hc L n) (by rw[qkn,hl,hdl]) fun q hq=> ?_
 by_cases h:∃i,i<L.length∧L.getD i 0=q
 ·obtain⟨i,hi,rfl⟩:=h
  rw[z5i hc hl hL n hi,h1 i hi]
 ·have h' :∀i,i<L.length→L.getD i 0≠q:=fun i hi e=>h ⟨i,hi,e⟩
  rw[qf8 hc hl hL n h',h2 q (by omega) h']
theorem hset_lay{c:LI}(hc:Bytes c)(hl:c.length=8){L:List Nat}(hL:Pl L){a n:Nat}(hn:L.length=n)(hLa:∀i,i<n→L.getD i 0=a+i)(h:a+n≤64)(v:Int):hset c a n v=layB c L v:=by
 refine j9s hc hl (qra hc _ _ _) (by rw[z85,hl]) hL (fun j hj=> ?_) fun q hq h' => ?_
 ·rw[z86 hc (by omega),hLa j (by omega),iP (by omega)]
  congr 3
  omega
 ·rw[z86 hc (by omega),iN]
  intro hc2
  have:=hLa (q-a) (by omega)
  exact h' (q-a) (by omega) (by omega)
theorem z8p{L:List Nat}(h:(decide (L.length≤12)&&((w8 L.length).all fun i=>decide (L.getD i 0<64)&&(w8 L.length).all fun j=>decide (L.getD i 0=L.getD j 0→i=j)))=true):Pl L:=by
 simp only[yl,decide_eq_true_eq,List.all_eq_true,List.mem_range]at h
 exact⟨h.1,fun i hi=>(h.2 i hi).1,fun i j hi hj e=>(h.2 i hi).2 j hj e⟩
theorem shr_is{x:Int}{k:Nat}(hk:k≤63):iand .i64 (ishr .i64 x (k:Int)) 1=x/2^k%2:=by
 rw[zlt hk]
 exact qml (b:=1) (by omega)
theorem bit_u(x:Int):y0 .u64 (x%2)=x%2:=wu64 (by omega) (by omega)
theorem j9t{c:LI}(hc:Bytes c)(hl:c.length=8)(n:Int){L:List Nat}(hL:Pl L):∀(d i k:Nat),i+d=L.length→d<k→
  q2z 600 k n (q4s L) (qkj (fun i=>L.getD i 0) (fun _=>1) (fun i=>n/2^(L.length-1-i)%2) c i) (L.length:Int) (i:Int)=some (layB c L n,()):=by
 intro d
 induction d with
 |zero=>
  intro i k h1 h2
  obtain⟨k,rfl⟩:∃k',k=k' +1:=⟨k-1,by omega⟩
  obtain rfl:i=L.length:=by omega
  unfold q2z qb9
  simp only[yv,dF,cF]
  rfl
 |succ d ih=>
  intro i k h1 h2
  obtain⟨k,rfl⟩:∃k',k=k' +1:=⟨k-1,by omega⟩
  have hi:i<L.length:=by omega
  have hlen:=hL.1
  have hp:=hL.2.1 i hi
  have i1:(i:Int)<(L.length:Int):=by omega
  have e1:y0 .i64 (y0 .i64 ((L.length:Int)-1)-(i:Int))=((L.length-1-i:Nat):Int):=by
   rw[w64 (x:=(L.length:Int)-1) (by omega) (by omega),w64 (by omega) (by omega)]
   omega
  have hs:q2t 600 (qkj (fun i=>L.getD i 0) (fun _=>1) (fun i=>n/2^(L.length-1-i)%2) c i) ((L.getD i 0:Nat):Int) (1:Int) (n/2^(L.length-1-i)%2)=_:=qrb (n:=1) (by omega) (q3f _ _ _ hc i) (by rw[q4d];omega) (by omega) (by rw[q4d];omega) (by omega)
  have fin:=ih (i+1) k (by omega) (by omega)
  unfold q2z qb9
  simp only[i1,dT,cT,yc,yd,yb,qi8,z8l,e1,shr_is (x:=n) (k:=L.length-1-i) (by omega),bit_u,hs,y5]
  rw[q07 (by omega)]
  exact fin
theorem j6z{c:LI}(hc:Bytes c)(hl:c.length=8)(n:Int){L:List Nat}(hL:Pl L):q3o 600 n (q4s L) c=some (layB c L n,()):=by
 unfold q3o
 have h:=j9t hc hl n hL L.length 0 600 (by omega) (by have:=hL.1;omega)
 rw[show((0:Nat):Int)=0 from rfl]at h
 rw[qi8,show q2z 600 600 n (q4s L) c (L.length:Int) 0=some (layB c L n,())from h]
 rfl
theorem j2l{c:LI}(hc:Bytes c)(hl:c.length=8){v:Int}{x y:Int}{a n:Nat}{L:List Nat}(hL:Pl L)(hx:x=a)(hy:y=(a:Int)+n-1)(hLn:L.length=n)(hLa:∀i,i<n→L.getD i 0=a+i)(h:a+n≤64)(hv:0≤v∧v<2^n):
  q3n 600 v x y c=some (layB c L v,()):=by
 subst hx
 subst hy
 have hn:=hL.1
 have e:y0 .i64 (y0 .i64 ((a:Int)+n-1-a)+1)=(n:Int):=by
  rw[w64 (x:=(a:Int)+n-1-a) (by omega) (by omega),w64 (by omega) (by omega)]
  omega
 have h2:(2:Int)^n≤2^12:=q34 (by omega)
 unfold q3n
 rw[e,wu64 hv.1 (by omega),qrb (by omega) hc (by omega) (by omega) (by omega) hv,hset_lay hc hl hL hLn hLa h]
 rfl
theorem j70{c:LI}(hc:Bytes c)(hl:c.length=8){n:Int}(hn:0≤n∧n≤9223372036854775807){L:List Nat}(hL:Pl L):∀(i t k:Nat),t+i=L.length→i<k→
  q84 600 k (qkj (fun t=>L.getD (L.length-1-t) 0) (fun _=>1) (fun t=>n/2^t%2) c t) (q4s L) (n/2^t) ((i:Int)-1)=some (qkj (fun t=>L.getD (L.length-1-t) 0) (fun _=>1) (fun t=>n/2^t%2) c L.length,()):=by
 intro i
 induction i with
 |zero=>
  intro t k h1 h2
  obtain⟨k,rfl⟩:∃k',k=k' +1:=⟨k-1,by omega⟩
  obtain rfl:t=L.length:=by omega
  unfold q84 qk7
  have:¬(0:Int)≤((0:Nat):Int)-1:=by omega
  simp only[this,dF,cF]
 |succ i ih=>
  intro t k h1 h2
  obtain⟨k,rfl⟩:∃k',k=k' +1:=⟨k-1,by omega⟩
  have hi:i<L.length:=by omega
  have hlen:=hL.1
  have hp:=hL.2.1 i hi
  have e0:((i+1:Nat):Int)-1=(i:Int):=by omega
  have i1:(i:Int)<(L.length:Int):=by omega
  have hq:0≤n/2^t:=Int.ediv_nonneg hn.1 (Int.le_of_lt (q87 t))
  have hq2:n/2^t≤n:=Int.ediv_le_self _ hn.1
  have em:yw (n/2^t) 2=n/2^t%2:=tmod_nonneg hq
  have ed:yx (n/2^t) 2=n/2^(t+1):=by rw[q1g hq,qzq]
  have hq3:0≤n/2^(t+1):=Int.ediv_nonneg hn.1 (Int.le_of_lt (q87 (t+1)))
  have hq4:n/2^(t+1)≤n:=Int.ediv_le_self _ hn.1
  have ew:y0 .i64 (n/2^(t+1))=n/2^(t+1):=w64 (by omega) (by omega)
  have ew2:y0 .i64 ((i:Int)-1)=(i:Int)-1:=w64 (by omega) (by omega)
  have ei:L.length-1-t=i:=by omega
  have hs:q2b 600 (qkj (fun t=>L.getD (L.length-1-t) 0) (fun _=>1) (fun t=>n/2^t%2) c t) ((L.getD i 0:Nat):Int) (1:Int) true (n/2^t%2)=some (qkj (fun t=>L.getD (L.length-1-t) 0) (fun _=>1) (fun t=>n/2^t%2) c (t+1),0,()):=by
   have:=z88 (F:=600) (by omega) (q3f (fun t=>L.getD (L.length-1-t) 0) (fun _=>1) (fun t=>n/2^t%2) hc t) (a:=L.getD i 0) (n:=1) (v:=n/2^t%2) (by rw[q4d];omega) (by omega) (by rw[q4d];omega) (by omega)
   rw[qkj]
   simp only[ei]
   exact this
  have fin:=ih (t+1) k (by omega) (by omega)
  unfold q84 qk7
  rw[e0]
  simp only[i1,dT,cT,yc,yd,yb,qi8,z8l,em,ed,ew,ew2,bit_u,hs,y5]
  exact fin
theorem qrg{c:LI}(hc:Bytes c)(hl:c.length=8){n:Int}(hn:0≤n∧n≤9223372036854775807){L:List Nat}(hL:Pl L):q46 600 c (q4s L) n=some (layB c L n,()):=by
 have hlen:=hL.1
 have h:=j70 hc hl hn hL L.length 0 600 (by omega) (by omega)
 have e:qkj (fun t=>L.getD (L.length-1-t) 0) (fun _=>1) (fun t=>n/2^t%2) c L.length=layB c L n:=by
  have hr:∀i,i<L.length→(fun t=>L.getD (L.length-1-t) 0) i+(fun _=>1) i≤8*c.length:=fun i hi=>by
   have:=hL.2.1 (L.length-1-i) (by omega)
   show L.getD (L.length-1-i) 0+1≤_
   omega
  refine j9s hc hl (q3f _ _ _ hc _) (by rw[q4d,hl]) hL (fun j hj=> ?_) fun q hq h' => ?_
  ·have:=qzt (A:=fun t=>L.getD (L.length-1-t) 0) (N:=fun _=>1) (V:=fun t=>n/2^t%2) hc (m:=L.length) hr (fun i k hi hk hik=>by
    have:L.getD (L.length-1-i) 0≠L.getD (L.length-1-k) 0:=fun e=>hik (by have:=hL.2.2 _ _ (by omega) (by omega) e;omega)
    show L.getD (L.length-1-i) 0+1≤L.getD (L.length-1-k) 0∨L.getD (L.length-1-k) 0+1≤L.getD (L.length-1-i) 0
    omega) (j:=L.length-1-j) (by omega) (q:=L.getD j 0) (by show L.getD (L.length-1-(L.length-1-j)) 0≤_;rw[show L.length-1-(L.length-1-j)=j by omega];exact wc _) (by show _<L.getD (L.length-1-(L.length-1-j)) 0+1;rw[show L.length-1-(L.length-1-j)=j by omega];exact Nat.lt_succ_self _) L.length (by omega) (wc _)
   rw[this]
   simp only[show L.length-1-(L.length-1-j)=j by omega,show L.getD j 0+1-1-L.getD j 0=0 by omega]
   omega
  ·exact z8o hc hr (fun i hi hh=>h' (L.length-1-i) (by omega) (by
    have h1:L.getD (L.length-1-i) 0≤q:=hh.1
    have h2:q<L.getD (L.length-1-i) 0+1:=hh.2
    omega)) L.length (wc _)
 rw[e]at h
 unfold q46
 rw[qi8,w64 (by omega) (by omega)]
 have h' :q84 600 600 c (q4s L) n ((L.length:Int)-1)=some (layB c L n,()):=by
  have e0:n/2^0=n:=by simp
  rw[e0]at h
  exact h
 rw[h']
 rfl
def F1:List Nat:=[1,2,3,4,5,6]
def F2:List Nat:=[7,9,10,11,12,13,14]
def F3:List Nat:=[15,19,20,22,23,24]
def F4:List Nat:=[25,26,27,28,29,31]
def F5:List Nat:=[32,33,34,35,36,37,38]
def F6:List Nat:=[39,40,41,42,43,44]
def F7:List Nat:=[45,46,47,48,49,50]
def F8:List Nat:=[51,52,53,54,55,56,57]
def F9:List Nat:=[58,59,60,61,62,63]
def seqB(c:LI)(fs:List (List Nat×Int)):LI:=fs.foldl (fun c f=>layB c f.1 f.2) c
def fieldsOf(o h v:LI):List (List Nat×Int):=
 [(F1,o.getD 0 0),(F2,o.getD 1 0),(F3,o.getD 2 0),(F4,h.getD 0 0),(F5,h.getD 1 0),(F6,h.getD 2 0),(F7,v.getD 0 0),(F8,v.getD 1 0),(F9,v.getD 2 0),([30],1)]
def z8:LI:=[0,0,0,0,0,0,0,0]
def zAll(o h v:LI):LI:=seqB z8 (fieldsOf o h v)
theorem zge:Bytes z8:=fun x hx=>by simp[z8]at hx;omega
theorem j9u{c:LI}(hc:Bytes c)(hl:c.length=8):∀fs,Bytes (seqB c fs)∧(seqB c fs).length=8
 |[]=>⟨hc,hl⟩
 |f::fs=>j9u (qbm hc f.1 f.2) (by rw[qkn,hl]) fs
def wV(b:LI)(c:Nat):Int:=(eAs (qd3 b) b).getD c 0+(eBs (qd3 b) b).getD c 0
def badW(x:Int):Prop:=x<0∨31<x
instance (x:Int):Decidable (badW x):=by unfold badW;exact inferInstance
def fix0(b:LI):LI:=if badW (wV b 0)then layB b [0] 1 else b
def fix1(b:LI):LI:=if badW (wV b 1)then layB (fix0 b) [8] 1 else fix0 b
def fix2(b:LI):LI:=if 4≤hv (fix1 b) 19 2+hv (fix1 b) 22 2 then layB (fix1 b) [16,17,18] 7 else layB (fix1 b) [21] 1
theorem P1:Pl F1:=z8p (by decide+kernel)
theorem P2:Pl F2:=z8p (by decide+kernel)
theorem P3:Pl F3:=z8p (by decide+kernel)
theorem P4:Pl F4:=z8p (by decide+kernel)
theorem P5:Pl F5:=z8p (by decide+kernel)
theorem P6:Pl F6:=z8p (by decide+kernel)
theorem P7:Pl F7:=z8p (by decide+kernel)
theorem P8:Pl F8:=z8p (by decide+kernel)
theorem P9:Pl F9:=z8p (by decide+kernel)
theorem P30:Pl [30]:=z8p (by decide+kernel)
theorem P00:Pl [0]:=z8p (by decide+kernel)
theorem P08:Pl [8]:=z8p (by decide+kernel)
theorem P16:Pl [16,17,18]:=z8p (by decide+kernel)
theorem P21:Pl [21]:=z8p (by decide+kernel)
theorem zmb{b:LI}(hb:Bytes b)(hl:b.length=8):Bytes (fix0 b)∧(fix0 b).length=8:=by
 unfold fix0
 split
 ·exact⟨qbm hb _ _,by rw[qkn,hl]⟩
 ·exact⟨hb,hl⟩
theorem zvx{b:LI}(hb:Bytes b)(hl:b.length=8):Bytes (fix1 b)∧(fix1 b).length=8:=by
 obtain⟨h1,h2⟩:=zmb hb hl
 unfold fix1
 split
 ·exact⟨qbm h1 _ _,by rw[qkn,h2]⟩
 ·exact⟨h1,h2⟩
theorem fix2_ok{b:LI}(hb:Bytes b)(hl:b.length=8):Bytes (fix2 b)∧(fix2 b).length=8:=by
 obtain⟨h1,h2⟩:=zvx hb hl
 unfold fix2
 split<;>exact⟨qbm h1 _ _,by rw[qkn,h2]⟩
theorem fair_w(b:LI)(c:Nat): -4≤wV b c∧wV b c≤46:=by
 have hf:=eFair (qd3 b) b
 have h1:=hf.2.2.1 c
 have h2:=hf.2.2.2 c
 unfold wV
 omega
theorem j9v{b:LI}(hb:Bytes b)(hl:b.length=8)(z:LI)(d f:Bool)(T W:LI){c:Nat}(hc:c<2){L:List Nat}(hL:Pl L)(hLc:L=[8*c])(k:Nat):
  q4u 600 (k+1) b d f (eAs (qd3 z) z) (eBs (qd3 z) z) T W (c:Int)=q4u 600 k (if badW (wV z c)then layB b L 1 else b) d f (eAs (qd3 z) z) (eBs (qd3 z) z) T W ((c+1:Nat):Int):=by
 have i1:(c:Int)<2:=by omega
 have i3:(c:Int)<3:=by omega
 have hw:=fair_w z c
 have ew:y0 .i64 ((eAs (qd3 z) z).getD c 0+(eBs (qd3 z) z).getD c 0)=wV z c:=w64 (by unfold wV at hw;omega) (by unfold wV at hw;omega)
 have e8:[y0 .i64 (8*(c:Int))]=q4s L:=by
  rw[hLc,w64 (by omega) (by omega)]
  simp[q4s]
 have hp:=j6z hb hl 1 hL
 conv=>lhs;unfold q4u qgy
 simp only[i1,i3,dT,cT,yc,yd,yb,ew,e8,hp,y5]
 rw[q07 (by omega)]
 by_cases h1:wV z c<0
 ·rw[iP (show badW (wV z c)from Or.inl h1)]
  simp only[h1,dT,cT]
 ·by_cases h2:31<wV z c
  ·rw[iP (show badW (wV z c)from Or.inr h2)]
   simp only[h1,h2,dT,dF,cT,cF]
  ·rw[iN (show¬badW (wV z c)from fun h=>h.elim h1 h2)]
   simp only[h1,h2,dF,cF]
theorem l2_is{b:LI}(hb:Bytes b)(hl:b.length=8)(d f:Bool)(T W:LI)(k:Nat):q4u 600 (k+3) b d f (eAs (qd3 b) b) (eBs (qd3 b) b) T W 0=some (fix1 b,()):=by
 obtain⟨h1,h2⟩:=zmb hb hl
 refine(j9v hb hl b d f T W (c:=0) (by omega) P00 rfl (k+2)).trans ?_
 refine(j9v h1 h2 b d f T W (c:=1) (by omega) P08 rfl (k+1)).trans ?_
 unfold q4u qgy
 have:¬(((1+1:Nat):Int)<2):=by omega
 simp only[this,dF,cF]
 rfl
theorem z06{b:LI}(hb:Bytes b)(hl:b.length=8){L:List Nat}(hL:Pl L)(v:Int){a n:Nat}(h:∀q,a≤q→q<a+n→∀i,i<L.length→L.getD i 0≠q):hv (layB b L v) a n=hv b a n:=
 qd2 fun i hi=>qf8 hb hl hL v (h (a+i) (by omega) (by omega))
theorem wV_fix{b:LI}(hb:Bytes b)(hl:b.length=8):wV (fix0 b) 1=wV b 1:=by
 unfold fix0
 split
 ·have h:∀a n,1≤a→hv (layB b [0] 1) a n=hv b a n:=fun a n ha=>z06 hb hl P00 1 fun q h1 h2 i hi=>by
   have:i=0:=by
    have:i<1:=hi
    omega
   subst this
   show 0≠q
   omega
  unfold wV eAs eBs eA eB qd3
  simp only[yt,yu,h 30 1 (by omega),h (8*1) 5 (by omega),h (8*1) 4 (by omega),h (8*1+5) 3 (by omega),h (8*1+4) 4 (by omega)]
 ·rfl
theorem j51{b:LI}(hb:Bytes b)(hl:b.length=8){c:Nat}(hc:c<2){L:List Nat}(hL:Pl L)(hLc:L=[8*c])(k:Nat):
  q6k 600 (k+1) b (c:Int)=q6k 600 k (if badW (wV b c)then layB b L 1 else b) ((c+1:Nat):Int):=by
 have i1:(c:Int)<2:=by omega
 have i3:(c:Int)<3:=by omega
 have hw:=fair_w b c
 have ew:y0 .i64 ((eAs (qd3 b) b).getD c 0+(eBs (qd3 b) b).getD c 0)=wV b c:=w64 (by unfold wV at hw;omega) (by unfold wV at hw;omega)
 have e8:[y0 .i64 (8*(c:Int))]=q4s L:=by
  rw[hLc,w64 (by omega) (by omega)]
  simp[q4s]
 have hp:=qrg hb hl (n:=1) (by omega) hL
 have hP:q6u 600 b=some (eP b,0,()):=z59 (by omega) hb hl
 conv=>lhs;unfold q6k qk9
 simp only[i1,i3,dT,cT,yc,yd,yb,hP,eP,ew,e8,hp,y5]
 rw[q07 (by omega)]
 by_cases h1:wV b c<0
 ·rw[iP (show badW (wV b c)from Or.inl h1)]
  simp only[h1,dT,cT]
 ·by_cases h2:31<wV b c
  ·rw[iP (show badW (wV b c)from Or.inr h2)]
   simp only[h1,h2,dT,dF,cT,cF]
  ·rw[iN (show¬badW (wV b c)from fun h=>h.elim h1 h2)]
   simp only[h1,h2,dF,cF]
theorem rl2_is{b:LI}(hb:Bytes b)(hl:b.length=8)(k:Nat):q6k 600 (k+3) b 0=some (fix1 b,()):=by
 obtain⟨h1,h2⟩:=zmb hb hl
 refine(j51 hb hl (c:=0) (by omega) P00 rfl (k+2)).trans ?_
 refine(j51 h1 h2 (c:=1) (by omega) P08 rfl (k+1)).trans ?_
 rw[wV_fix hb hl]
 unfold q6k qk9
 have:¬(((1+1:Nat):Int)<2):=by omega
 simp only[this,dF,cF]
 rfl
def ok3(l:LI):Prop:=(0≤l.getD 0 0∧l.getD 0 0<64)∧(0≤l.getD 1 0∧l.getD 1 0<128)∧(0≤l.getD 2 0∧l.getD 2 0<64)
instance (l:LI):Decidable (ok3 l):=by unfold ok3;exact inferInstance
def I64(x:Int):Prop:= -9223372036854775808≤x∧x≤9223372036854775807
theorem j2m(o h v:LI){L:LI}(hL:∀i,I64 (L.getD i 0))(hLl:L.length=9){i:Nat}(hi:i<3)(k:Nat):
  q3p 600 (k+1) o h v L (i:Int)=(if ok3 (tab 3 fun c=>L.getD (i*3+c) 0)then q3p 600 k o h v L ((i+1:Nat):Int)else some (.inl ()))∧
  q58 600 (k+1) o h v L (i:Int)=(if ok3 (tab 3 fun c=>L.getD (i*3+c) 0)then q58 600 k o h v L ((i+1:Nat):Int)else some (.inl ())):=by
 have i1:(i:Int)<3:=by omega
 have hrow:y8 3 (y9 (i*3) L)=tab 3 fun c=>L.getD (i*3+c) 0:=by
  conv=>lhs;rw[qgl hLl]
  exact qo5 (by omega)
 have hor:=or_range (hL (i*3)) (hL (i*3+2))
 have han:=andn_is (hL (i*3+1)) (b:=7) (by omega) (c:=127) (by decide)
 have g0:(tab 3 fun c=>L.getD (i*3+c) 0).getD 0 0=L.getD (i*3) 0:=q12 (by omega)
 have g1:(tab 3 fun c=>L.getD (i*3+c) 0).getD 1 0=L.getD (i*3+1) 0:=q12 (by omega)
 have g2:(tab 3 fun c=>L.getD (i*3+c) 0).getD 2 0=L.getD (i*3+2) 0:=q12 (by omega)
 have hok:ok3 (tab 3 fun c=>L.getD (i*3+c) 0)↔(0≤L.getD (i*3) 0∧L.getD (i*3) 0<64)∧(0≤L.getD (i*3+1) 0∧L.getD (i*3+1) 0<128)∧(0≤L.getD (i*3+2) 0∧L.getD (i*3+2) 0<64):=by
  unfold ok3
  rw[g0,g1,g2]
 have n3:L.length/3=3:=by rw[hLl]
 have i3:(i:Int)<((3:Nat):Int):=by omega
 constructor
 ·conv=>lhs;unfold q3p qgx
  simp only[i1,dT,cT,yc,yd,yb,hrow,g0,g1,g2]
  rw[q07 (by omega)]
  by_cases hA:z5m .i64 (ior .i64 (L.getD (i*3) 0) (L.getD (i*3+2) 0)) 63=0
  ·by_cases hB:z5m .i64 (L.getD (i*3+1) 0) 127=0
   ·rw[iP (hok.2 ⟨(hor.1 hA).1,han.1 hB,(hor.1 hA).2⟩),hA,hB]
    rfl
   ·rw[iN (fun h=>hB (han.2 (hok.1 h).2.1)),hA,bneT hB]
    rfl
  ·rw[iN (fun h=>hA (hor.2 ⟨(hok.1 h).1,(hok.1 h).2.2⟩)),bneT hA]
   rfl
 ·conv=>lhs;unfold q58 qk8
  simp only[n3,i1,i3,dT,cT,yc,yd,yb,zm1,y5]
  rw[q07 (by omega),Nat.add_comm 1 (i*3),Nat.add_comm 2 (i*3)]
  by_cases hA:0≤L.getD (i*3) 0∧L.getD (i*3) 0≤63
  ·by_cases hB:0≤L.getD (i*3+1) 0∧L.getD (i*3+1) 0≤127
   ·by_cases hC:0≤L.getD (i*3+2) 0∧L.getD (i*3+2) 0≤63
    ·rw[iP (hok.2 (by omega))]
     simp only[hA,hB,hC,and_self,dT,Bool.not_true,cF]
    ·rw[iN (fun h=>hC (by have:=hok.1 h;omega))]
     simp only[hA,hB,hC,and_self,dT,dF,Bool.not_true,Bool.not_false,cF,cT]
   ·rw[iN (fun h=>hB (by have:=hok.1 h;omega))]
    simp only[hA,hB,and_self,dT,dF,Bool.not_true,Bool.not_false,cF,cT]
  ·rw[iN (fun h=>hA (by have:=hok.1 h;omega))]
   simp only[hA,dF,Bool.not_false,cT]
theorem j9w{o h v:LI}(ho:o.length=3)(hh:h.length=3)(hv:v.length=3)(h64:∀i,I64 ((o++(h++v)).getD i 0))(k:Nat):
  q3p 600 (k+4) o h v (o++(h++v)) 0=some (if ok3 o∧ok3 h∧ok3 v then .inr (o,h,v,())else .inl ())∧q58 600 (k+4) o h v (o++(h++v)) 0=some (if ok3 o∧ok3 h∧ok3 v then .inr (o,h,v,())else .inl ()):=by
 have hl:(o++(h++v)).length=9:=by simp[ho,hh,hv]
 have ho' :=qgl ho
 have hh' :=qgl hh
 have hv' :=qgl hv
 have r0:(tab 3 fun c=>(o++(h++v)).getD (0*3+c) 0)=o:=by
  conv=>rhs;rw[ho']
  refine q01 fun c hc=> ?_
  rw[ye,ye,yg (by omega)]
  congr 2
  omega
 have r1:(tab 3 fun c=>(o++(h++v)).getD (1*3+c) 0)=h:=by
  conv=>rhs;rw[hh']
  refine q01 fun c hc=> ?_
  rw[ye,ye,w9 (by omega),yg (by omega)]
  congr 2
  omega
 have r2:(tab 3 fun c=>(o++(h++v)).getD (2*3+c) 0)=v:=by
  conv=>rhs;rw[hv']
  refine q01 fun c hc=> ?_
  rw[ye,ye,w9 (by omega),w9 (by omega)]
  congr 2
  omega
 obtain⟨a0,b0⟩:=j2m o h v h64 hl (i:=0) (by omega) (k+3)
 obtain⟨a1,b1⟩:=j2m o h v h64 hl (i:=1) (by omega) (k+2)
 obtain⟨a2,b2⟩:=j2m o h v h64 hl (i:=2) (by omega) (k+1)
 rw[r0]at a0 b0
 rw[r1]at a1 b1
 rw[r2]at a2 b2
 have a3:q3p 600 (k+1) o h v (o++(h++v)) ((2+1:Nat):Int)=some (.inr (o,h,v,())):=by
  unfold q3p qgx
  have:¬(((2+1:Nat):Int)<3):=by omega
  simp only[this,dF,cF]
 have b3:q58 600 (k+1) o h v (o++(h++v)) ((2+1:Nat):Int)=some (.inr (o,h,v,())):=by
  unfold q58 qk8
  have:¬(((2+1:Nat):Int)<3):=by omega
  simp only[this,dF,cF]
 constructor
 ·refine a0.trans ?_
  by_cases c0:ok3 o
  ·rw[iP c0]
   refine a1.trans ?_
   by_cases c1:ok3 h
   ·rw[iP c1]
    refine a2.trans ?_
    by_cases c2:ok3 v
    ·rw[iP c2,iP ⟨c0,c1,c2⟩]
     exact a3
    ·rw[iN c2,iN (fun h=>c2 h.2.2)]
   ·rw[iN c1,iN (fun h=>c1 h.2.1)]
  ·rw[iN c0,iN (fun h=>c0 h.1)]
 ·refine b0.trans ?_
  by_cases c0:ok3 o
  ·rw[iP c0]
   refine b1.trans ?_
   by_cases c1:ok3 h
   ·rw[iP c1]
    refine b2.trans ?_
    by_cases c2:ok3 v
    ·rw[iP c2,iP ⟨c0,c1,c2⟩]
     exact b3
    ·rw[iN c2,iN (fun h=>c2 h.2.2)]
   ·rw[iN c1,iN (fun h=>c1 h.2.1)]
  ·rw[iN c0,iN (fun h=>c0 h.1)]
def layV(o h v:LI):LI:=fix2 (zAll o h v)
theorem zmc(o h v:LI):Bytes (zAll o h v)∧(zAll o h v).length=8:=j9u zge rfl _
theorem j2n(o h v:LI):Bytes (layV o h v)∧(layV o h v).length=8:=fix2_ok (zmc o h v).1 (zmc o h v).2
theorem span_is:q5f 600 1 6=some (q4s F1,())∧q5f 600 32 38=some (q4s F5,())∧q5f 600 39 44=some (q4s F6,())∧q5f 600 45 50=some (q4s F7,())∧q5f 600 51 57=some (q4s F8,())∧q5f 600 58 63=some (q4s F9,()):=by
 decide+kernel
theorem lay_is{o h v:LI}(ho:o.length=3)(hh:h.length=3)(hv' :v.length=3)(h64:∀i,I64 ((o++(h++v)).getD i 0)):
  qpo 600 o h v=some (if ok3 o∧ok3 h∧ok3 v then(layV o h v,0,())else([],1,()))∧qwt 600 o h v=some (if ok3 o∧ok3 h∧ok3 v then(layV o h v,0,())else([],1,())):=by
 obtain⟨la,lb⟩:=j9w ho hh hv' h64 596
 unfold qpo qwt
 rw[la,lb]
 simp only[y5]
 by_cases hok:ok3 o∧ok3 h∧ok3 v
 ·rw[iP hok,iP hok]
  simp only[]
  obtain⟨⟨o0,o1,o2⟩,⟨h0,h1,h2⟩,⟨v0,v1,v2⟩⟩:=hok
  have t0:qsa=z8:=rfl
  have t1:q9a=q4s F2:=rfl
  have t2:q9b=q4s F3:=rfl
  have t3:q9c=q4s F4:=rfl
  have t30:[(30:Int)]=q4s [30]:=rfl
  have t16:[(16:Int),17,18]=q4s [16,17,18]:=rfl
  have t21:[(21:Int)]=q4s [21]:=rfl
  obtain⟨p1,p5,p6,p7,p8,p9⟩:=span_is
  have step:∀{c:LI} (hc:Bytes c∧c.length=8) (L:List Nat) (n:Int),Bytes (layB c L n)∧(layB c L n).length=8:=fun hc L n=>⟨qbm hc.1 L n,by rw[qkn,hc.2]⟩
  have z0:Bytes z8∧z8.length=8:=⟨zge,rfl⟩
  have z1:=step z0 F1 (o.getD 0 0)
  have e1:=j2l z0.1 z0.2 (v:=o.getD 0 0) (x:=1) (y:=6) (a:=1) (n:=6) P1 rfl rfl rfl (by decide) (by omega) o0
  have f1:=qrg z0.1 z0.2 (n:=o.getD 0 0) (by omega) P1
  obtain⟨s1,hs1⟩:∃s,layB z8 F1 (o.getD 0 0)=s:=⟨_,rfl⟩
  rw[hs1]at z1 e1 f1
  have z2:=step z1 F2 (o.getD 1 0)
  have e2:=j6z z1.1 z1.2 (o.getD 1 0) P2
  have f2:=qrg z1.1 z1.2 (n:=o.getD 1 0) (by omega) P2
  obtain⟨s2,hs2⟩:∃s,layB s1 F2 (o.getD 1 0)=s:=⟨_,rfl⟩
  rw[hs2]at z2 e2 f2
  have z3:=step z2 F3 (o.getD 2 0)
  have e3:=j6z z2.1 z2.2 (o.getD 2 0) P3
  have f3:=qrg z2.1 z2.2 (n:=o.getD 2 0) (by omega) P3
  obtain⟨s3,hs3⟩:∃s,layB s2 F3 (o.getD 2 0)=s:=⟨_,rfl⟩
  rw[hs3]at z3 e3 f3
  have z4:=step z3 F4 (h.getD 0 0)
  have e4:=j6z z3.1 z3.2 (h.getD 0 0) P4
  have f4:=qrg z3.1 z3.2 (n:=h.getD 0 0) (by omega) P4
  obtain⟨s4,hs4⟩:∃s,layB s3 F4 (h.getD 0 0)=s:=⟨_,rfl⟩
  rw[hs4]at z4 e4 f4
  have z5:=step z4 F5 (h.getD 1 0)
  have e5:=j2l z4.1 z4.2 (v:=h.getD 1 0) (x:=32) (y:=38) (a:=32) (n:=7) P5 rfl rfl rfl (by decide) (by omega) h1
  have f5:=qrg z4.1 z4.2 (n:=h.getD 1 0) (by omega) P5
  obtain⟨s5,hs5⟩:∃s,layB s4 F5 (h.getD 1 0)=s:=⟨_,rfl⟩
  rw[hs5]at z5 e5 f5
  have z6:=step z5 F6 (h.getD 2 0)
  have e6:=j2l z5.1 z5.2 (v:=h.getD 2 0) (x:=39) (y:=44) (a:=39) (n:=6) P6 rfl rfl rfl (by decide) (by omega) h2
  have f6:=qrg z5.1 z5.2 (n:=h.getD 2 0) (by omega) P6
  obtain⟨s6,hs6⟩:∃s,layB s5 F6 (h.getD 2 0)=s:=⟨_,rfl⟩
  rw[hs6]at z6 e6 f6
  have z7:=step z6 F7 (v.getD 0 0)
  have e7:=j2l z6.1 z6.2 (v:=v.getD 0 0) (x:=45) (y:=50) (a:=45) (n:=6) P7 rfl rfl rfl (by decide) (by omega) v0
  have f7:=qrg z6.1 z6.2 (n:=v.getD 0 0) (by omega) P7
  obtain⟨s7,hs7⟩:∃s,layB s6 F7 (v.getD 0 0)=s:=⟨_,rfl⟩
  rw[hs7]at z7 e7 f7
  have z8' :=step z7 F8 (v.getD 1 0)
  have e8:=j2l z7.1 z7.2 (v:=v.getD 1 0) (x:=51) (y:=57) (a:=51) (n:=7) P8 rfl rfl rfl (by decide) (by omega) v1
  have f8:=qrg z7.1 z7.2 (n:=v.getD 1 0) (by omega) P8
  obtain⟨s8,hs8⟩:∃s,layB s7 F8 (v.getD 1 0)=s:=⟨_,rfl⟩
  rw[hs8]at z8' e8 f8
  have z9:=step z8' F9 (v.getD 2 0)
  have e9:=j2l z8'.1 z8'.2 (v:=v.getD 2 0) (x:=58) (y:=63) (a:=58) (n:=6) P9 rfl rfl rfl (by decide) (by omega) v2
  have f9:=qrg z8'.1 z8'.2 (n:=v.getD 2 0) (by omega) P9
  obtain⟨s9,hs9⟩:∃s,layB s8 F9 (v.getD 2 0)=s:=⟨_,rfl⟩
  rw[hs9]at z9 e9 f9
  have z10:=step z9 [30] 1
  have e10:=j6z z9.1 z9.2 1 P30
  have f10:=qrg z9.1 z9.2 (n:=1) (by omega) P30
  have hz:layB s9 [30] 1=zAll o h v:=by
   unfold zAll seqB fieldsOf
   simp only[List.foldl_cons,List.foldl_nil,hs1,hs2,hs3,hs4,hs5,hs6,hs7,hs8,hs9]
  rw[hz]at z10 e10 f10
  have hP:=zbe (F:=600) (by omega) z10.1 z10.2
  have e11:=l2_is z10.1 z10.2 (qd3 (zAll o h v)) (j6j (zAll o h v)) [hv (zAll o h v) 24 3,hv (zAll o h v) 27 3] (eWs (zAll o h v)) 597
  have f11:=rl2_is z10.1 z10.2 597
  obtain⟨q1,q2⟩:=zvx z10.1 z10.2
  obtain⟨r1,t1'⟩:=qfm q1 q2 false false [0,0,0] [0,0,0] [0,0] q6v false (x:=19) (y:=20) (a:=19) (n:=2) rfl rfl (by omega) (by omega)
  obtain⟨r2,t2'⟩:=qfm q1 q2 false false [0,0,0] [0,0,0] [0,0] q6v false (x:=22) (y:=23) (a:=22) (n:=2) rfl rfl (by omega) (by omega)
  have g1:=q18 (fix1 (zAll o h v)) 19 2
  have g2:=q18 (fix1 (zAll o h v)) 22 2
  have ew:y0 .i64 (hv (fix1 (zAll o h v)) 19 2+hv (fix1 (zAll o h v)) 22 2)=hv (fix1 (zAll o h v)) 19 2+hv (fix1 (zAll o h v)) 22 2:=w64 (by omega) (by omega)
  have e12:=j2l q1 q2 (v:=7) (x:=16) (y:=18) (a:=16) (n:=3) P16 rfl rfl rfl (by decide) (by omega) (by decide)
  have f12:=qrg q1 q2 (n:=7) (by omega) P16
  have e13:=j6z q1 q2 1 P21
  have f13:=qrg q1 q2 (n:=1) (by omega) P21
  rw[t0,t1,t2,t3,t30,t16,t21]
  rw[eP]at hP
  simp only[p1,p5,p6,p7,p8,p9,y5,e1,e2,e3,e4,e5,e6,e7,e8,e9,e10,f1,f2,f3,f4,f5,f6,f7,f8,f9,f10,hP,e11,f11,r1,r2,t1',t2',ew,e12,e13,f12,f13]
  by_cases hc:4≤hv (fix1 (zAll o h v)) 19 2+hv (fix1 (zAll o h v)) 22 2
  ·have:layV o h v=layB (fix1 (zAll o h v)) [16,17,18] 7:=by
    unfold layV fix2
    rw[iP hc]
   rw[this]
   simp only[hc,dT,cT,and_self,ok3,o0,o1,o2,h0,h1,h2,v0,v1,v2,if_true]
  ·have:layV o h v=layB (fix1 (zAll o h v)) [21] 1:=by
    unfold layV fix2
    rw[iN hc]
   rw[this]
   simp only[hc,dF,cF,and_self,ok3,o0,o1,o2,h0,h1,h2,v0,v1,v2,if_true]
 ·rw[iN hok,iN hok]
  exact⟨rfl,rfl⟩
def Apart(K L:List Nat):Prop:=∀i,i<K.length→∀j,j<L.length→K.getD i 0≠L.getD j 0
instance:DecidableRel Apart:=fun K L=>by unfold Apart;exact inferInstance
theorem zvy{q:Nat}:∀(fs:List (List Nat×Int)) {c:LI},Bytes c→c.length=8→(∀f∈fs,Pl f.1∧∀i,i<f.1.length→f.1.getD i 0≠q)→q0d (seqB c fs) q=q0d c q
 |[],c,_,_,_=>rfl
 |f::fs,c,hc,hl,h=>by
  have h1:=h f (List.mem_cons_self ..)
  exact(zvy fs (qbm hc f.1 f.2) (by rw[qkn,hl]) fun g hg=>h g (List.mem_cons_of_mem _ hg)).trans (qf8 hc hl h1.1 f.2 h1.2)
theorem j9x:∀(fs:List (List Nat×Int)) {c:LI},Bytes c→c.length=8→(∀f∈fs,Pl f.1)→(fs.map (·.1)).Pairwise Apart→∀f∈fs,∀j,j<f.1.length→q0d (seqB c fs) (f.1.getD j 0)=f.2/2^(f.1.length-1-j)%2
 |[],_,_,_,_,_,f,hf,_,_=>by cases hf
 |g::fs,c,hc,hl,hp,hd,f,hf,j,hj=>by
  rw[List.map_cons,List.pairwise_cons]at hd
  have hg:=hp g (List.mem_cons_self ..)
  rcases yr.1 hf with rfl|hf
  ·refine(zvy fs (qbm hc _ _) (by rw[qkn,hl]) fun k hk=>⟨hp k (List.mem_cons_of_mem _ hk),fun i hi he=> ?_⟩).trans (z5i hc hl hg _ hj)
   exact hd.1 k.1 (List.mem_map_of_mem hk) j hj i hi he.symm
  ·exact j9x fs (qbm hc _ _) (by rw[qkn,hl]) (fun k hk=>hp k (List.mem_cons_of_mem _ hk)) hd.2 f hf j hj
def FL:List (List Nat):=[F1,F2,F3,F4,F5,F6,F7,F8,F9,[30]]
theorem FL_pl:∀L∈FL,Pl L:=by
 intro L hL
 simp only[FL,yr,List.not_mem_nil,or_false]at hL
 rcases hL with rfl|rfl|rfl|rfl|rfl|rfl|rfl|rfl|rfl|rfl
 ·exact P1
 ·exact P2
 ·exact P3
 ·exact P4
 ·exact P5
 ·exact P6
 ·exact P7
 ·exact P8
 ·exact P9
 ·exact P30
theorem FL_apart:FL.Pairwise Apart:=by decide+kernel
theorem FL_of(o h v:LI):(fieldsOf o h v).map (·.1)=FL:=rfl
theorem zmd(o h v:LI):∀f∈fieldsOf o h v,Pl f.1:=fun f hf=>FL_pl f.1 (by rw[←FL_of o h v];exact List.mem_map_of_mem hf)
theorem j9y(o h v:LI){L:List Nat}{n:Int}(hf:(L,n)∈fieldsOf o h v){j:Nat}(hj:j<L.length):q0d (zAll o h v) (L.getD j 0)=n/2^(L.length-1-j)%2:=
 j9x _ zge rfl (zmd o h v) (by rw[FL_of];exact FL_apart) (L,n) hf j hj
theorem zAll_out(o h v:LI){q:Nat}(hq:FL.all (fun L=>(w8 L.length).all fun i=>L.getD i 0 !=q)=true):q0d (zAll o h v) q=q0d z8 q:=by
 refine zvy _ zge rfl fun f hf=>⟨zmd o h v f hf,fun i hi he=> ?_⟩
 have h1:=List.all_eq_true.1 hq f.1 (by rw[←FL_of o h v];exact List.mem_map_of_mem hf)
 have h2:=List.all_eq_true.1 h1 i (List.mem_range.2 hi)
 rw[he]at h2
 simp at h2
def touched:List Nat:=[0,8,16,17,18,21]
theorem fix_out{b:LI}(hb:Bytes b)(hl:b.length=8){q:Nat}(hq:q∉touched):q0d (fix2 b) q=q0d b q:=by
 simp only[touched,yr,List.not_mem_nil,or_false,not_or]at hq
 obtain⟨g0,g8,g16,g17,g18,g21⟩:=hq
 obtain⟨a1,a2⟩:=zmb hb hl
 obtain⟨b1,b2⟩:=zvx hb hl
 have one:∀{a:Nat},q≠a→∀i,i<[a].length→[a].getD i 0≠q:=fun{a} hqa i hi=>by
  have:i=0:=by
   have:i<1:=hi
   omega
  subst this
  exact fun h=>hqa h.symm
 have e0:q0d (fix0 b) q=q0d b q:=by
  unfold fix0
  split
  ·exact qf8 hb hl P00 1 (one g0)
  ·rfl
 have e1:q0d (fix1 b) q=q0d (fix0 b) q:=by
  unfold fix1
  split
  ·exact qf8 a1 a2 P08 1 (one g8)
  ·rfl
 have e2:q0d (fix2 b) q=q0d (fix1 b) q:=by
  unfold fix2
  split
  ·refine qf8 b1 b2 P16 7 fun i hi=> ?_
   have:i<3:=hi
   rcases(by omega:i=0∨i=1∨i=2)with rfl|rfl|rfl
   ·exact fun h=>g16 h.symm
   ·exact fun h=>g17 h.symm
   ·exact fun h=>g18 h.symm
  ·exact qf8 b1 b2 P21 1 (one g21)
 rw[e2,e1,e0]
theorem j9z(o h v:LI){L:List Nat}{n:Int}(hf:(L,n)∈fieldsOf o h v)(hL:L.all (fun q=> !touched.contains q)=true){j:Nat}(hj:j<L.length):q0d (layV o h v) (L.getD j 0)=n/2^(L.length-1-j)%2:=by
 rw[←j9y o h v hf hj]
 refine fix_out (zmc o h v).1 (zmc o h v).2 fun hm=> ?_
 have h1:=List.all_eq_true.1 hL (L.getD j 0) (by rw[ye,yj hj];exact List.getElem_mem hj)
 rw[List.contains_iff_mem.2 hm]at h1
 cases h1
theorem qf9(b:LI)(q:Nat):hv b q 1=q0d b q:=by
 have h:=zvb b (a:=q) (n:=1) (q:=q) (wc _) (by omega)
 have h1:=q18 b q 1
 rw[show q+1-1-q=0 by omega]at h
 omega
theorem pk_val{b:LI}{L:List Nat}{v:Int}(hv' :0≤v∧v<2^L.length)(h:∀j,j<L.length→q0d b (L.getD j 0)=v/2^(L.length-1-j)%2):pk b L L.length=v:=by
 have key:∀i,i≤L.length→pk b L i=v/2^(L.length-i):=by
  intro i
  induction i with
  |zero=>
   intro _
   rw[Nat.sub_zero]
   exact(Int.ediv_eq_zero_of_lt hv'.1 hv'.2).symm
  |succ i ih=>
   intro hi
   show 2*pk b L i+hv b (L.getD i 0) 1=_
   rw[ih (by omega),qf9,h i (by omega),show L.length-i=(L.length-1-i)+1 by omega,Int.pow_succ,←Int.ediv_ediv_of_nonneg (by have:=q87 (L.length-1-i);omega),show L.length-(i+1)=L.length-1-i by omega]
   omega
 rw[key _ (wc _),Nat.sub_self]
 simp
theorem j2o(b:LI)(a:Nat)(L:List Nat):∀n,(∀i,i<n→L.getD i 0=a+i)→hv b a n=pk b L n
 |0,_=>j9l b a
 |n+1,h=>by
  rw[q7w,j2o b a L n fun i hi=>h i (by omega)]
  show _=2*pk b L n+hv b (L.getD n 0) 1
  rw[h n (by omega)]
theorem zrc(b:LI)(a m:Nat):∀n,hv b a (m+n)=2^n*hv b a m+hv b (a+m) n
 |0=>by
  rw[j9l]
  simp
 |n+1=>by
  rw[←wg,q7w,zrc b a m n,q7w b (a+m) n,Int.pow_succ,wg,Int.mul_add,←Int.mul_assoc,Int.mul_comm 2 (2^n)]
  omega
theorem j2p{o h v:LI}(hok:ok3 o∧ok3 h∧ok3 v):plO (layV o h v)=qf6 (o.getD 0 0) (o.getD 1 0) (o.getD 2 0)∧plH (layV o h v)=qf6 (h.getD 0 0) (h.getD 1 0) (h.getD 2 0)∧plV (layV o h v)=qf6 (v.getD 0 0) (v.getD 1 0) (v.getD 2 0):=by
 obtain⟨⟨o0,o1,o2⟩,⟨h0,h1,h2⟩,⟨v0,v1,v2⟩⟩:=hok
 have m:∀{L:List Nat} {n:Int},(L,n)∈fieldsOf o h v→L.all (fun q=> !touched.contains q)=true→0≤n∧n<2^L.length→pk (layV o h v) L L.length=n:=fun hf ht hn=>pk_val hn fun j hj=>j9z o h v hf ht hj
 have a1:pk (layV o h v) F1 6=o.getD 0 0:=m (L:=F1) (by simp[fieldsOf]) (by decide) o0
 have a2:pk (layV o h v) F2 7=o.getD 1 0:=m (L:=F2) (by simp[fieldsOf]) (by decide) o1
 have a3:pk (layV o h v) F3 6=o.getD 2 0:=m (L:=F3) (by simp[fieldsOf]) (by decide) o2
 have a4:pk (layV o h v) F4 6=h.getD 0 0:=m (L:=F4) (by simp[fieldsOf]) (by decide) h0
 have a5:pk (layV o h v) F5 7=h.getD 1 0:=m (L:=F5) (by simp[fieldsOf]) (by decide) h1
 have a6:pk (layV o h v) F6 6=h.getD 2 0:=m (L:=F6) (by simp[fieldsOf]) (by decide) h2
 have a7:pk (layV o h v) F7 6=v.getD 0 0:=m (L:=F7) (by simp[fieldsOf]) (by decide) v0
 have a8:pk (layV o h v) F8 7=v.getD 1 0:=m (L:=F8) (by simp[fieldsOf]) (by decide) v1
 have a9:pk (layV o h v) F9 6=v.getD 2 0:=m (L:=F9) (by simp[fieldsOf]) (by decide) v2
 have b1:=j2o (layV o h v) 1 F1 6 (by decide)
 have b5:=j2o (layV o h v) 32 F5 7 (by decide)
 have b6:=j2o (layV o h v) 39 F6 6 (by decide)
 have b7:=j2o (layV o h v) 45 F7 6 (by decide)
 have b8:=j2o (layV o h v) 51 F8 7 (by decide)
 have b9:=j2o (layV o h v) 58 F9 6 (by decide)
 unfold plO plH plV
 rw[show[7,9,10,11,12,13,14]=F2 from rfl,show[15,19,20,22,23,24]=F3 from rfl,show[25,26,27,28,29,31]=F4 from rfl,b1,b5,b6,b7,b8,b9,a1,a2,a3,a4,a5,a6,a7,a8,a9]
 exact⟨rfl,rfl,rfl⟩
def nn(b:LI)(c:Nat):Int:=hv b (8*c) 5+sg3 (hv b (8*c+5) 3)
theorem wV_nn{b:LI}(h:qd3 b=true){c:Nat}(hc:c<3):wV b c=nn b c:=by
 unfold wV nn eAs eBs
 rw[h]
 rcases(by omega:c=0∨c=1∨c=2)with rfl|rfl|rfl<;>rfl
theorem ja0{x:Int}(h:0≤x∧x<8): -4≤sg3 x∧sg3 x≤3:=by
 unfold sg3
 split<;>omega
theorem zBit(o h v:LI){q:Nat}(hq:FL.all (fun L=>(w8 L.length).all fun i=>L.getD i 0 !=q)=true)(hz:q0d z8 q=0):hv (zAll o h v) q 1=0:=by
 rw[qf9,zAll_out o h v hq,hz]
theorem hi_bit(b:LI)(a:Nat):hv b a 5=16*hv b a 1+hv b (a+1) 4:=zrc b a 1 4
theorem mend{z:LI}(hz:Bytes z)(hl:z.length=8){c:Nat}{L:List Nat}(hL:Pl L)(hLc:L=[8*c])(h0:hv z (8*c) 1=0)(hc:c<3):
  ¬badW (nn (if badW (nn z c)then layB z L 1 else z) c):=by
 have s:=ja0 (q18 z (8*c+5) 3)
 have g:=q18 z (8*c+1) 4
 have e:=hi_bit z (8*c)
 have p4:(2:Int)^4=16:=by decide
 have n0:nn z c=hv z (8*c+1) 4+sg3 (hv z (8*c+5) 3):=by
  unfold nn
  omega
 by_cases hb:badW (nn z c)
 ·rw[iP hb]
  have out:∀{q:Nat},q≠8*c→∀i,i<L.length→L.getD i 0≠q:=fun hq i hi=>by
   subst hLc
   have:i=0:=by
    have:i<1:=hi
    omega
   subst this
   exact fun h=>hq h.symm
  have f1:hv (layB z L 1) (8*c+1) 4=hv z (8*c+1) 4:=z06 hz hl hL 1 fun q h1 h2=>out (by omega)
  have f2:hv (layB z L 1) (8*c+5) 3=hv z (8*c+5) 3:=z06 hz hl hL 1 fun q h1 h2=>out (by omega)
  have f3:hv (layB z L 1) (8*c) 1=1:=by
   rw[qf9]
   have:=z5i hz hl hL 1 (j:=0) (by subst hLc;exact Nat.zero_lt_one)
   subst hLc
   simpa using this
  have e1:=hi_bit (layB z L 1) (8*c)
  have n1:nn (layB z L 1) c=16+nn z c:=by
   unfold nn
   rw[f2]
   omega
  unfold badW at hb⊢
  omega
 ·rw[iN hb]
  exact hb
theorem eDiff_z(o h v:LI):qd3 (zAll o h v)=true:=by
 have:=j9y o h v (L:=[30]) (n:=1) (by simp[fieldsOf]) (j:=0) (by decide)
 unfold qd3
 rw[qf9]
 rw[show[30].getD 0 0=30 from rfl]at this
 rw[this]
 rfl
theorem bit30(o h v:LI):hv (layV o h v) 30 1=1:=by
 have:=j9z o h v (L:=[30]) (n:=1) (by simp[fieldsOf]) (by decide) (j:=0) (by decide)
 rw[qf9]
 exact this
theorem zvz{b c:LI}{k:Nat}(h:∀q,8*k≤q→q<8*k+8→q0d b q=q0d c q):nn b k=nn c k:=by
 unfold nn
 rw[show hv b (8*k) 5=hv c (8*k) 5 from qd2 fun i hi=>h _ (by omega) (by omega),show hv b (8*k+5) 3=hv c (8*k+5) 3 from qd2 fun i hi=>h _ (by omega) (by omega)]
theorem j71(o h v:LI):¬badW (nn (layV o h v) 0)∧¬badW (nn (layV o h v) 1)∧badW (nn (layV o h v) 2):=by
 obtain⟨z1,z2⟩:=zmc o h v
 obtain⟨a1,a2⟩:=zmb z1 z2
 obtain⟨b1,b2⟩:=zvx z1 z2
 have hd:=eDiff_z o h v
 have hw0:=wV_nn hd (c:=0) (by omega)
 have hw1:=wV_nn hd (c:=1) (by omega)
 have one:∀{a q:Nat},q≠a→∀i,i<[a].length→[a].getD i 0≠q:=fun{a q} hqa i hi=>by
  have:i=0:=by
   have:i<1:=hi
   omega
  subst this
  exact fun h=>hqa h.symm
 have s16:∀{q:Nat},(q<16∨18<q)→∀i,i<[16,17,18].length→[16,17,18].getD i 0≠q:=fun{q} hq i hi=>by
  have:i<3:=hi
  rcases(by omega:i=0∨i=1∨i=2)with rfl|rfl|rfl
  ·show 16≠q
   omega
  ·show 17≠q
   omega
  ·show 18≠q
   omega
 have e2:∀q,q<16→q0d (layV o h v) q=q0d (fix1 (zAll o h v)) q:=fun q hq=>by
  unfold layV fix2
  split
  ·exact qf8 b1 b2 P16 7 (s16 (Or.inl hq))
  ·exact qf8 b1 b2 P21 1 (one (by omega))
 have e1:∀q,(q<8∨8<q)→q0d (fix1 (zAll o h v)) q=q0d (fix0 (zAll o h v)) q:=fun q hq=>by
  unfold fix1
  split
  ·exact qf8 a1 a2 P08 1 (one (by omega))
  ·rfl
 have e0:∀q,0<q→q0d (fix0 (zAll o h v)) q=q0d (zAll o h v) q:=fun q hq=>by
  unfold fix0
  split
  ·exact qf8 z1 z2 P00 1 (one (by omega))
  ·rfl
 refine⟨?_,?_,?_⟩
 ·rw[zvz (c:=fix0 (zAll o h v)) fun q h1 h2=>(e2 q (by omega)).trans (e1 q (by omega))]
  unfold fix0
  rw[hw0]
  exact mend z1 z2 P00 rfl (zBit o h v (by decide+kernel) (by decide+kernel)) (by omega)
 ·rw[zvz (c:=fix1 (zAll o h v)) fun q h1 h2=>e2 q (by omega)]
  unfold fix1
  rw[hw1,←zvz (b:=fix0 (zAll o h v)) (c:=zAll o h v) (k:=1) fun q h1 h2=>e0 q (by omega)]
  exact mend a1 a2 P08 rfl (by rw[qf9,e0 _ (by omega),←qf9];exact zBit o h v (by decide+kernel) (by decide+kernel)) (by omega)
 ·have keep:∀q,15<q→q0d (fix1 (zAll o h v)) q=q0d (zAll o h v) q:=fun q hq=>(e1 q (by omega)).trans (e0 q (by omega))
  have n16:hv (fix1 (zAll o h v)) 16 1=0:=by rw[qf9,keep _ (by omega),←qf9];exact zBit o h v (by decide+kernel) (by decide+kernel)
  have n17:hv (fix1 (zAll o h v)) 17 1=0:=by rw[qf9,keep _ (by omega),←qf9];exact zBit o h v (by decide+kernel) (by decide+kernel)
  have n18:hv (fix1 (zAll o h v)) 18 1=0:=by rw[qf9,keep _ (by omega),←qf9];exact zBit o h v (by decide+kernel) (by decide+kernel)
  have n21:hv (fix1 (zAll o h v)) 21 1=0:=by rw[qf9,keep _ (by omega),←qf9];exact zBit o h v (by decide+kernel) (by decide+kernel)
  have cut:∀b:LI,hv b 16 5=16*hv b 16 1+8*hv b 17 1+4*hv b 18 1+hv b 19 2∧hv b 21 3=4*hv b 21 1+hv b 22 2:=fun b=>by
   have c1:=zrc b 16 3 2
   have c2:=zrc b 16 2 1
   have c3:=zrc b 16 1 1
   have c4:=zrc b 21 1 2
   simp only[Nat.reduceAdd]at c1 c2 c3 c4
   have:(2:Int)^1=2:=by decide
   have:(2:Int)^2=4:=by decide
   omega
  have g1:=q18 (fix1 (zAll o h v)) 19 2
  have g2:=q18 (fix1 (zAll o h v)) 22 2
  have:(2:Int)^2=4:=by decide
  have b16:(8*2:Nat)=16:=rfl
  unfold layV fix2
  split
  ·rename_i hc
   have k1:hv (layB (fix1 (zAll o h v)) [16,17,18] 7) 19 2=hv (fix1 (zAll o h v)) 19 2:=z06 b1 b2 P16 7 fun q h1 h2=>s16 (by omega)
   have k2:hv (layB (fix1 (zAll o h v)) [16,17,18] 7) 22 2=hv (fix1 (zAll o h v)) 22 2:=z06 b1 b2 P16 7 fun q h1 h2=>s16 (by omega)
   have k3:hv (layB (fix1 (zAll o h v)) [16,17,18] 7) 21 1=hv (fix1 (zAll o h v)) 21 1:=z06 b1 b2 P16 7 fun q h1 h2=>s16 (by omega)
   have k4:hv (layB (fix1 (zAll o h v)) [16,17,18] 7) 16 1=1:=by rw[qf9];exact z5i b1 b2 P16 7 (j:=0) (by decide)
   have k5:hv (layB (fix1 (zAll o h v)) [16,17,18] 7) 17 1=1:=by rw[qf9];exact z5i b1 b2 P16 7 (j:=1) (by decide)
   have k6:hv (layB (fix1 (zAll o h v)) [16,17,18] 7) 18 1=1:=by rw[qf9];exact z5i b1 b2 P16 7 (j:=2) (by decide)
   obtain⟨c1,c2⟩:=cut (layB (fix1 (zAll o h v)) [16,17,18] 7)
   unfold badW nn sg3
   rw[b16]
   simp only[Nat.reduceAdd]
   rw[c2,iN (by omega)]
   omega
  ·rename_i hc
   have k1:hv (layB (fix1 (zAll o h v)) [21] 1) 19 2=hv (fix1 (zAll o h v)) 19 2:=z06 b1 b2 P21 1 fun q h1 h2=>one (by omega)
   have k2:hv (layB (fix1 (zAll o h v)) [21] 1) 22 2=hv (fix1 (zAll o h v)) 22 2:=z06 b1 b2 P21 1 fun q h1 h2=>one (by omega)
   have k3:hv (layB (fix1 (zAll o h v)) [21] 1) 21 1=1:=by rw[qf9];exact z5i b1 b2 P21 1 (j:=0) (by decide)
   have k4:hv (layB (fix1 (zAll o h v)) [21] 1) 16 1=hv (fix1 (zAll o h v)) 16 1:=z06 b1 b2 P21 1 fun q h1 h2=>one (by omega)
   have k5:hv (layB (fix1 (zAll o h v)) [21] 1) 17 1=hv (fix1 (zAll o h v)) 17 1:=z06 b1 b2 P21 1 fun q h1 h2=>one (by omega)
   have k6:hv (layB (fix1 (zAll o h v)) [21] 1) 18 1=hv (fix1 (zAll o h v)) 18 1:=z06 b1 b2 P21 1 fun q h1 h2=>one (by omega)
   obtain⟨c1,c2⟩:=cut (layB (fix1 (zAll o h v)) [21] 1)
   unfold badW nn sg3
   rw[b16]
   simp only[Nat.reduceAdd]
   rw[c2,iP (by omega)]
   omega
theorem lay_bb(o h v:LI)(p:Bool):bb (layV o h v) p=layV o h v:=by
 cases p
 ·unfold bb
  exact iN (by decide)
 ·unfold bb
  rw[iP rfl]
  exact j9q (j2n o h v).1 (j2n o h v).2 (bit30 o h v)
theorem lay_kind(o h v:LI)(p:Bool):qmx (layV o h v) p=3:=by
 have hd:qd3 (layV o h v)=true:=by
  unfold qd3
  rw[bit30]
  rfl
 obtain⟨n0,n1,n2⟩:=j71 o h v
 have hbb:=lay_bb o h v p
 have e:∀(b:LI) (c:Nat),c<3→n10 true (eAs true b) (eBs true b) c=nn b c:=fun b c hc=>by
  unfold n10 nn eAs eBs
  rcases(by omega:c=0∨c=1∨c=2)with rfl|rfl|rfl<;>rfl
 generalize layV o h v=b at*
 have hf:qw8 (xD b p) (xA b p) (xB b p)=2:=by
  unfold xD xA xB
  rw[hbb,hd]
  have m0:¬qd4 (eAs true b) (eBs true b) 0:=by
   unfold qd4
   rw[e b 0 (by omega)]
   exact n0
  have m1:¬qd4 (eAs true b) (eBs true b) 1:=by
   unfold qd4
   rw[e b 1 (by omega)]
   exact n1
  have m2:qd4 (eAs true b) (eBs true b) 2:=by
   unfold qd4
   rw[e b 2 (by omega)]
   exact n2
  unfold qw8
  rw[iP (show true=true from rfl),iN m0,iN m1,iP m2]
 unfold qmx
 rw[hf]
 rfl
theorem lay_dec(o h v:LI)(p:Bool):qmr (layV o h v) p=z5e (layV o h v):=by
 have hk:=lay_kind o h v p
 funext j
 unfold qmr zF j6x
 rw[hk,iN (fun h=>h.2.1 rfl),iN (by omega),iN (by omega),iN (by omega)]
def qgn(i:Nat):Nat:=16+3*(4*(i%4)+i/4)
theorem zw0:((w8 16).all fun i=>zho 0 i==some ((qgn i:Int),()))=true:=by kernel_rfl
theorem j04(F:Nat){i:Nat}(h:i<16):zho F i=some ((qgn i:Int),()):=by
 have:=List.all_eq_true.1 zw0 i (by simpa using h)
 have e:zho F i=zho 0 i:=rfl
 rw[e]
 simpa using this
theorem zgf{i:Nat}(h:i<16):16≤qgn i∧qgn i+3≤64:=by unfold qgn;omega
theorem qtg{F:Nat}(hF:66≤F){b:LI}(hb:Bytes b)(hl:b.length=8){a n:Nat}(hn:n≤16)(h:a+n≤64):qai F a n b=some (hv b a n,()):=by
 unfold qai
 have h1:=q18 b a n
 have h2:(2:Int)^n≤2^16:=q34 hn
 rw[zva hF hb (by omega) (by omega) (by omega)]
 simp only[y5]
 rw[w64 (by omega) (by omega)]
def eacW(b:LI):LI:=(w8 16).map fun i=>hv b (qgn i) 3
theorem Parts_is{F:Nat}(hF:66≤F){b:LI}(hb:Bytes b)(hl:b.length=8):
  z6b F b=some (hv b 0 8,hv b 8 4,hv b 12 4,eacW b,0,()):=by
 have loop:∀T:LI,q85 F F T q8f b 0=some (T,eacW b,b,()):=by
  intro T
  refine q4r 16 (fun i=>hv b (qgn i) 3) (fun k w i=>q85 F k T w b i) (fun w=>some (T,w,b,())) ?_ ?_ _ rfl F (by omega)
  ·intro k i w hi hw
   show qbc F (q85 F k) T w b i=_
   unfold qbc
   have:=zgf hi
   have e:=qtg hF hb hl (a:=qgn i) (n:=3) (by decide) (by omega)
   simp only[yp]at e
   have h1:(i:Int)<16:=by omega
   simp only[h1,dT,cT,j04 F hi,y5,e,yc,yd,q07 (show i<1000000000000 by omega),yb]
  ·intro k w hw
   show qbc F (q85 F k) T w b 16=_
   unfold qbc
   simp
 unfold z6b
 have e1:=qtg hF hb hl (a:=0) (n:=8) (by decide) (by decide)
 have e2:=qtg hF hb hl (a:=8) (n:=4) (by decide) (by decide)
 have e3:=qtg hF hb hl (a:=12) (n:=4) (by decide) (by decide)
 simp only[yp,yq]at e1 e2 e3
 simp only[hl,loop,y5,e1,e2,e3]
 simp
theorem eacW_len(b:LI):(eacW b).length=16:=by simp[eacW]
theorem j52(b:LI){i:Nat}(h:i<16):(eacW b).getD i 0=hv b (qgn i) 3:=q9w _ h
def eacA(i:Nat):Nat:=match i with|0=>0|1=>8|2=>12|i+3=>qgn i
def eacN(i:Nat):Nat:=match i with|0=>8|1=>4|2=>4|_+3=>3
def eacV(base times table:Int)(w:LI)(i:Nat):Int:=match i with|0=>base|1=>times|2=>table|i+3=>w.getD i 0
def eacF(base times table:Int)(w:LI)(n:Nat):LI:=[0,8,base,8,4,times,12,4,table]++(w8 n).flatMap fun i=>[(qgn i:Int),3,w.getD i 0]
theorem j05(base times table:Int)(w:LI)(n:Nat):eacF base times table w (n+1)=eacF base times table w n++[(qgn n:Int),3,w.getD n 0]:=by
 simp[eacF,List.range_succ]
theorem zw1(base times table:Int)(w:LI):∀n,(eacF base times table w n).length=9+3*n:=by
 intro n
 induction n with
 |zero=>rfl
 |succ n ih=>rw[j05,yo,ih];simp;omega
theorem zrd{F:Nat}(base times table:Int)(w:LI)(T:LI):∀(k i:Nat),i≤16→16-i<k→
  qfx F k T (eacF base times table w i) w i=some (T,eacF base times table w 16,())
 |0,i,_,h=>by omega
 |k+1,i,hi,hk=>by
  unfold qfx qwu
  by_cases h:i<16
  ·have h1:(i:Int)<16:=by omega
   have ih:=zrd (F:=F) base times table w T k (i+1) (by omega) (by omega)
   have h2:(eacF base times table w i).length/3+1≤1099511627776:=by rw[zw1];omega
   simp only[h1,dT,cT,yc,yd,j04 F h,y5,h2,q07 (show i<1000000000000 by omega),yb]
   rw[←j05]
   simpa using ih
  ·have:i=16:=by omega
   subst this
   simp
theorem eacF_get(base times table:Int)(w:LI){i:Nat}(h:i<19):((eacF base times table w 16).drop (i*3)).take 3=[(eacA i:Int),(eacN i:Int),eacV base times table w i]:=by
 have:i=0∨i=1∨i=2∨i=3∨i=4∨i=5∨i=6∨i=7∨i=8∨i=9∨i=10∨i=11∨i=12∨i=13∨i=14∨i=15∨i=16∨i=17∨i=18:=by omega
 rcases this with rfl|rfl|rfl|rfl|rfl|rfl|rfl|rfl|rfl|rfl|rfl|rfl|rfl|rfl|rfl|rfl|rfl|rfl|rfl<;>rfl
def eacZ:LI:=[0,0,0,0,0,0,0,0]
theorem z0z:Bytes eacZ:=fun x hx=>by simp[eacZ]at hx;omega
def eacJ(base times table:Int)(w:LI)(i:Nat):LI:=qkj eacA eacN (eacV base times table w) eacZ i
theorem j2q:∀i,i<19→eacA i+eacN i≤64∧eacN i≤8:=by decide
theorem j06:∀i,i<19→∀j,j<19→i≠j→eacA i+eacN i≤eacA j∨eacA j+eacN j≤eacA i:=by decide
theorem ja1:∀q,q<64→∃i,i<19∧eacA i≤q∧q<eacA i+eacN i:=by decide
def EacFit(base times table:Int)(w:LI):Prop:=(0≤base∧base≤255)∧(0≤times∧times≤15)∧(0≤table∧table≤15)∧w.length=16∧∀i,i<16→0≤w.getD i 0∧w.getD i 0≤7
theorem EacFit.V{base times table:Int}{w:LI}(h:EacFit base times table w):∀i,i<19→0≤eacV base times table w i∧eacV base times table w i<2^eacN i:=by
 obtain⟨h1,h2,h3,h4,h5⟩:=h
 intro i hi
 match i with
 |0=>simp only[eacV,eacN];omega
 |1=>simp only[eacV,eacN];omega
 |2=>simp only[eacV,eacN];omega
 |i+3=>
  have:=h5 i (by omega)
  simp only[eacV,eacN]
  omega
theorem zre{F:Nat}(hF:66≤F){base times table:Int}{w:LI}(hf:EacFit base times table w):∀(k i:Nat),i≤19→19-i<k→
  qfy F k (eacJ base times table w i) (eacF base times table w 16) 19 i=some (eacJ base times table w 19,true,())
 |0,i,_,h=>by omega
 |k+1,i,hi,hk=>by
  unfold qfy qwv
  by_cases h:i<19
  ·have h1:(i:Int)<19:=by omega
   have ih:=zre hF hf k (i+1) (by omega) (by omega)
   have hlen:(eacF base times table w 16).length/3=19:=by rw[zw1]
   have hp:=j2q i h
   have hV:=hf.V i h
   have hl:(eacJ base times table w i).length=8:=by unfold eacJ;rw[q4d];rfl
   have hs:=qrb hF (b:=eacJ base times table w i) (q3f _ _ _ z0z i) (by omega) (a:=eacA i) (n:=eacN i) (v:=eacV base times table w i) (by omega) (by omega) hV
   have hv64:=j8q (n:=eacN i) (by omega)
   simp only[h1,dT,cT,hlen,yc,yp,h1,dT,yd,cT,yb,eacF_get base times table w h,and_self,if_true,yt,yu]
   rw[wu64 hV.1 (by omega),hs]
   simp only[y5,bne_self_eq_false,cF,q07 (show i<1000000000000 by omega)]
   exact ih
  ·have:i=19:=by omega
   subst this
   simp
theorem ja2{F:Nat}(hF:66≤F){base times table:Int}{w:LI}(hf:EacFit base times table w):z6a F base times table w=some (eacJ base times table w 19,0,()):=by
 unfold z6a
 have e1:=zrd (F:=F) base times table w qfw F 0 (by omega) (by omega)
 have e2:=zre hF hf F 0 (by omega) (by omega)
 simp only[and_self,if_true]
 have e0:eacF base times table w 0=[0,8,base,8,4,times,12,4,table]:=rfl
 rw[e0,yq]at e1
 rw[e1]
 have hlen:(eacF base times table w 16).length/3=19:=by rw[zw1]
 simp only[y5,hlen]
 have e3:eacJ base times table w 0=qfw:=rfl
 rw[e3,yq]at e2
 simp only[yp,e2,y5]
 rfl
theorem qcu(base times table:Int)(w:LI):(eacJ base times table w 19).length=8:=by unfold eacJ;rw[q4d];rfl
theorem j72(base times table:Int)(w:LI):Bytes (eacJ base times table w 19):=q3f _ _ _ z0z 19
theorem zw2{base times table:Int}{w:LI}(hf:EacFit base times table w){j:Nat}(hj:j<19):hv (eacJ base times table w 19) (eacA j) (eacN j)=eacV base times table w j:=
 zvd z0z (fun i hi=>(j2q i hi).1) (fun i j hi hj=>j06 i hi j hj) hf.V hj
theorem j53{b:LI}:EacFit (hv b 0 8) (hv b 8 4) (hv b 12 4) (eacW b):=by
 have h1:=q18 b 0 8
 have h2:=q18 b 8 4
 have h3:=q18 b 12 4
 refine⟨by omega,by omega,by omega,eacW_len b,fun i hi=> ?_⟩
 rw[j52 b hi]
 have:=q18 b (qgn i) 3
 omega
theorem j07:((w8 16).all fun n=>match q6l 0 n with|some (l,())=>l.length==8&&l.all fun x=>decide (-15≤x)&&decide (x≤15)|none=>false)=true:=by kernel_rfl
theorem j54(F:Nat){n:Int}(h:0≤n∧n≤15):∃l,q6l F n=some (l,())∧l.length=8∧∀i,-15≤l.getD i 0∧l.getD i 0≤15:=by
 obtain⟨m,rfl⟩:=yh h.1
 have:=List.all_eq_true.1 j07 m (by simp;omega)
 have e:q6l F m=q6l 0 m:=rfl
 rw[e]
 revert this
 cases q6l 0 m with
 |none=>intro h;simp at h
 |some l=>
  obtain⟨l,⟨⟩⟩:=l
  intro h
  simp only[yl,beq_iff_eq,List.all_eq_true,decide_eq_true_eq]at h
  refine⟨l,rfl,h.1,fun i=> ?_⟩
  rw[ye]
  by_cases hi:i<l.length
  ·rw[yj hi]
   exact h.2 _ (List.getElem_mem hi)
  ·rw[wa (by omega)]
   simp
theorem mulB{n t c d:Int}(hn: -c≤n∧n≤c)(ht:0≤t∧t≤d)(hc:0≤c): -(c*d)≤n*t∧n*t≤c*d:=by
 have h1:n*t≤c*t:=Int.mul_le_mul_of_nonneg_right hn.2 ht.1
 have h2:c*t≤c*d:=Int.mul_le_mul_of_nonneg_left ht.2 hc
 have h3: -c*t≤n*t:=Int.mul_le_mul_of_nonneg_right hn.1 ht.1
 have h4: -c*t= -(c*t):=Int.neg_mul c t
 omega
def qo8(base times number:Int)(wide:Bool):Int:=
 if wide then(if times=0 then max 0 (min (8*base+4+number) 2047)else max 0 (min (8*(base+number*times)+4) 2047))else max 0 (min (base+number*times) 255)
theorem j55(F:Nat){base times number:Int}(hb:0≤base∧base≤255)(ht:0≤times∧times≤15)(hn: -15≤number∧number≤15)(wide:Bool):qww F base times number wide=some (qo8 base times number wide,()):=by
 have hm:=mulB (c:=15) hn ht (by decide)
 unfold qww q6t qo8
 rw[w64 (x:=number*times) (by omega) (by omega),w64 (x:=base+number*times) (by omega) (by omega),w64 (x:=8*base) (by omega) (by omega),w64 (x:=8*base+4) (by omega) (by omega),
  w64 (x:=8*base+4+number) (by omega) (by omega),w64 (x:=8*(base+number*times)) (by omega) (by omega),w64 (x:=8*(base+number*times)+4) (by omega) (by omega)]
 cases wide
 ·rfl
 ·by_cases h0:times=0
  ·simp[h0]
  ·simp[h0,beqF h0]
def eacD(base times:Int)(tbl w:LI)(wide:Bool):LI:=(w8 16).map fun i=>qo8 base times (tbl.getD (w.getD i 0).toNat 0) wide
theorem j2r{F:Nat}(hF:66≤F){b:LI}(hb:Bytes b)(hl:b.length=8)(wide:Bool){tbl:LI}(ht:q6l F (hv b 12 4)=some (tbl,()))(hb15:∀i,-15≤tbl.getD i 0∧tbl.getD i 0≤15):
  qkx F b wide=some (eacD (hv b 0 8) (hv b 8 4) tbl (eacW b) wide,0,()):=by
 obtain⟨f1,f2,f3,f4,f5⟩:=j53 (b:=b)
 have loop:∀T:LI,q6m F F wide T (hv b 0 8) (hv b 8 4) (eacW b) tbl (eacW b) 0=some (T,eacD (hv b 0 8) (hv b 8 4) tbl (eacW b) wide,()):=by
  intro T
  refine q4r 16 (fun i=>qo8 (hv b 0 8) (hv b 8 4) (tbl.getD ((eacW b).getD i 0).toNat 0) wide) (fun k w i=>q6m F k wide T (hv b 0 8) (hv b 8 4) w tbl (eacW b) i) (fun w=>some (T,w,())) ?_ ?_ _ f4 F (by omega)
  ·intro k i w hi hw
   show q9e F (q6m F k) wide T (hv b 0 8) (hv b 8 4) w tbl (eacW b) i=_
   unfold q9e
   have h1:(i:Int)<16:=by omega
   have h2:=f5 i hi
   have h3:(eacW b).getD i 0<8:=by omega
   simp only[h1,dT,cT,yc,yd,yb,h2.1,h3,j55 F f1 f2 (hb15 _),y5,q07 (show i<1000000000000 by omega)]
  ·intro k w hw
   show q9e F (q6m F k) wide T (hv b 0 8) (hv b 8 4) w tbl (eacW b) 16=_
   unfold q9e
   simp
 unfold qkx
 rw[Parts_is hF hb hl]
 simp only[y5,and_self,if_true,bne_self_eq_false,cF,ht,loop]
theorem j08(base times number:Int)(wide:Bool):0≤qo8 base times number wide∧qo8 base times number wide≤(if wide then 2047 else 255):=by
 unfold qo8
 cases wide<;>simp<;>(try split)<;>omega
def Rg(m:Int)(l:LI):Prop:=∀j,0≤l.getD j 0∧l.getD j 0≤m
theorem zcr{l:LI}{j:Nat}(h:l.length≤j):l.getD j 0=0:=by
 rw[ye,wa h]
 rfl
theorem q92{m:Int}{N:Nat}{g:Nat→Int}(hm:0≤m)(h:∀j,j<N→0≤g j∧g j≤m):Rg m (tab N g):=by
 intro j
 by_cases hj:j<N
 ·rw[q12 hj]
  exact h j hj
 ·rw[zcr (by rw[q0g];omega)]
  omega
theorem q1r{m m' :Int}{l:LI}(h:Rg m l)(hm:m≤m'):Rg m' l:=fun j=>⟨(h j).1,Int.le_trans (h j).2 hm⟩
theorem q3a{m:Int}{a b:LI}(ha:Rg m a)(hb:Rg m b):Rg m (a++b):=by
 intro j
 simp only[ye,List.getElem?_append]
 split
 ·have:=ha j
  simpa[ye]using this
 ·have:=hb (j-a.length)
  simpa[ye]using this
theorem q0p{m x:Int}{a:LI}(hx:0≤x∧x≤m)(ha:Rg m a):Rg m (x::a):=by
 intro j
 cases j with
 |zero=>simpa using hx
 |succ j=>simpa using ha j
theorem qvs{m:Int}(hm:0≤m):Rg m []:=fun j=>by simp[hm]
theorem qp4(n:Int):Rg 255 (colV n):=by
 have h:=qtc n
 intro j
 by_cases hj:j<4
 ·exact h.2 j hj
 ·rw[zcr (by rw[h.1];omega)]
  decide
theorem j2s{a b:LI}(ha:Rg 255 a)(hb:Rg 255 b){k o:Int}(hk:0≤k∧k≤o)(ho:1≤o):Rg 255 (betw a b k o):=by
 have h:∀c,0≤mixV (a.getD c 0) (b.getD c 0) k o 0∧mixV (a.getD c 0) (b.getD c 0) k o 0≤255:=fun c=>by
  have h1:=zly (a:=a.getD c 0) (b:=b.getD c 0) hk ho
  have h2:=ha c
  have h3:=hb c
  omega
 exact q0p (h 0) (q0p (h 1) (q0p (h 2) (q0p (by decide) (qvs (by decide)))))
theorem rg_palV(a b:Int)(four:Bool):Rg 255 (palV a b four):=by
 unfold palV
 split
 ·exact q3a (qp4 a) (q3a (qp4 b) (q3a (j2s (qp4 a) (qp4 b) (by decide) (by decide)) (j2s (qp4 a) (qp4 b) (by decide) (by decide))))
 ·exact q3a (qp4 a) (q3a (qp4 b) (q3a (j2s (qp4 a) (qp4 b) (by decide) (by decide)) (q0p (by decide) (q0p (by decide) (q0p (by decide) (q0p (by decide) (qvs (by decide))))))))
theorem zme{p w:LI}(hp:p.length=16)(hw:∀i,i<16→okW 2 w i):(zlw p w).length=64:=
 zlu (m:=4) _ fun i hi=>zvl hp (by have:=hw i hi;unfold okW at this;omega)
theorem j09{p w:LI}(hp:p.length=16)(hw:∀i,i<16→okW 2 w i){j:Nat}(hj:j<64):(zlw p w).getD j 0=p.getD ((w.getD (j/4) 0).toNat*4+j%4) 0:=by
 have h:=j91 hp hw (i:=j/4) (by omega)
 have e:(((zlw p w).drop (j/4*4)).take 4).getD (j%4) 0=(zlw p w).getD j 0:=by
  simp only[ye,List.getElem?_take,List.getElem?_drop]
  rw[iP (by omega)]
  congr 2
  omega
 rw[←e,h]
 unfold palE
 simp only[ye,List.getElem?_take,List.getElem?_drop]
 rw[iP (by omega)]
theorem rg_tileV{p w:LI}(hp:p.length=16)(hw:∀i,i<16→okW 2 w i)(h:Rg 255 p):Rg 255 (zlw p w):=by
 intro j
 by_cases hj:j<64
 ·rw[j09 hp hw hj]
  exact h _
 ·rw[zcr (by rw[zme hp hw];omega)]
  decide
theorem rg_ramp7{a b:Int}(ha:0≤a∧a≤255)(hb:0≤b∧b≤255):Rg 255 (qmv a b):=by
 have h:∀k o:Int,(0≤k∧k≤o)→1≤o→0≤mixV a b k o 0∧mixV a b k o 0≤255:=fun k o hk ho=>by
  have:=zly (a:=a) (b:=b) hk ho
  omega
 have z:Rg 255 []:=qvs (by decide)
 by_cases hab:a≤b
 ·rw[ramp7_lo hab]
  exact q0p ha (q0p hb (q0p (h 1 5 (by decide) (by decide)) (q0p (h 2 5 (by decide) (by decide)) (q0p (h 3 5 (by decide) (by decide)) (q0p (h 4 5 (by decide) (by decide)) (q0p (by decide) (q0p (by decide) z)))))))
 ·rw[ramp7_hi hab]
  exact q0p ha (q0p hb (q0p (h 1 7 (by decide) (by decide)) (q0p (h 2 7 (by decide) (by decide)) (q0p (h 3 7 (by decide) (by decide)) (q0p (h 4 7 (by decide) (by decide)) (q0p (h 5 7 (by decide) (by decide)) (q0p (h 6 7 (by decide) (by decide)) z)))))))
theorem zgg{b:LI}(hb:Bytes b):Rg 255 (qrc b):=q92 (N:=16) (by decide) fun j _=>rg_ramp7 (hb.getD 0) (hb.getD 1) _
theorem rg_fours(b:LI):Rg 255 (zvj b):=q92 (N:=16) (by decide) fun j _=>q0v (by decide) _
theorem ja3(b:LI):Rg 255 (qji b):=by
 have hl:(qji b).length=64:=by
  unfold qji
  split
  ·rw[j4q,q0g]
  ·rw[q0g]
 intro j
 by_cases hj:j<64
 ·exact j6f b hj
 ·rw[zcr (by omega)]
  decide
theorem rg_tex10(d f:Bool)(A B T W:LI)(i:Nat):Rg 255 (zzt (q22 d A B) T W f i):=
 q0p (q26 _) (q0p (q26 _) (q0p (q26 _) (q0p (qkm d A B _) (qvs (by decide)))))
theorem ja4{l:LI}{j:Nat}:((l.drop (j/4*4)).take 4).getD (j%4) 0=l.getD j 0:=by
 simp only[ye,List.getElem?_take,List.getElem?_drop]
 rw[iP (by omega)]
 congr 2
 omega
theorem zrf(d f:Bool)(A B T W:LI):Rg 255 (qj3 d f A B T W):=by
 intro j
 by_cases hj:j<64
 ·rw[←ja4,show((qj3 d f A B T W).drop (j/4*4)).take 4=zzt (q22 d A B) T W f (j/4)from qzv _ (fun _ _=>rfl) (by omega)]
  exact rg_tex10 d f A B T W _ _
 ·rw[zcr (by rw[z5g];omega)]
  decide
theorem qi9(x y z:Int):Rg 255 (qc3 x y z):=q0p (q0v (by decide) _) (q0p (q0v (by decide) _) (q0p (q0v (by decide) _) (q0p (by decide) (qvs (by decide)))))
theorem zbh{l:LI}(h:Rg 255 l)(n:Int):Rg 255 (addV l n):=q0p (q26 _) (q0p (q26 _) (q0p (q26 _) (q0p (h 3) (qvs (by decide)))))
theorem rg_fourT(b:LI):Rg 255 (qj4 b):=q3a (qi9 _ _ _) (q3a (zbh (qi9 _ _ _) _) (q3a (qi9 _ _ _) (zbh (qi9 _ _ _) _)))
theorem rg_fourH(b:LI):Rg 255 (qgm b):=q3a (zbh (qi9 _ _ _) _) (q3a (zbh (qi9 _ _ _) _) (q3a (zbh (qi9 _ _ _) _) (zbh (qi9 _ _ _) _)))
theorem z5j(b:LI)(p:Bool)(j:Nat):0≤qmr b p j∧qmr b p j≤255:=by
 unfold qmr zF
 split
 ·decide
 ·unfold j6x
  split
  ·unfold j2k qw9
   split
   ·exact qkm _ _ _ _
   ·exact zrf _ _ _ _ _ _ j
  ·split
   ·exact rg_fourT b _
   ·split
    ·exact rg_fourH b _
    ·unfold z5e q5z
     split
     ·decide
     ·exact q26 _
def eacL(b:LI)(wide:Bool):LI:=match q6l 600 (hv b 12 4)with
 |some (l,_)=>eacD (hv b 0 8) (hv b 8 4) l (eacW b) wide
 |none=>[]
theorem ja5{b:LI}(hb:Bytes b)(hl:b.length=8)(wide:Bool):qkx 600 b wide=some (eacL b wide,0,()):=by
 obtain⟨tbl,h1,_,h3⟩:=j54 600 (n:=hv b 12 4) (by have:=q18 b 12 4;omega)
 rw[j2r (by decide) hb hl wide h1 h3]
 unfold eacL
 rw[h1]
theorem zw3(b:LI)(wide:Bool):Rg (if wide then 2047 else 255) (eacL b wide):=by
 have hm:(0:Int)≤if wide then 2047 else 255:=by cases wide<;>decide
 cases hT:q6l 600 (hv b 12 4)with
 |none=>simp only[eacL,hT];exact qvs hm
 |some p=>simp only[eacL,hT];exact q92 (N:=16) hm fun j _=>j08 _ _ _ _
def wT(c:Nat)(l t:LI):LI:=tab 64 fun j=>if j%4=c then l.getD (j/4) 0 else t.getD j 0
theorem j56(c:Nat)(l t:LI):(wT c l t).length=64:=q0g _ _
theorem zw4{m:Int}(hm:0≤m){c:Nat}{l t:LI}(hl:Rg m l)(ht:Rg m t):Rg m (wT c l t):=q92 hm fun j _=>by
 split
 ·exact hl _
 ·exact ht _
def upW(c i:Nat)(l t:LI)(j:Nat):Int:=if j%4=c∧j/4<i then l.getD (j/4) 0 else t.getD j 0
theorem ja6{c i:Nat}(hc:c<4)(hi:i<16)(l t:LI):(tab 64 (upW c i l t)).set (i*4+c) (l.getD i 0)=tab 64 (upW c (i+1) l t):=by
 rw[q60]
 refine q01 fun j hj=> ?_
 unfold upW
 by_cases h:j=i*4+c
 ·subst h
  rw[iP rfl,iP (by omega),show(i*4+c)/4=i by omega]
 ·rw[iN h]
  by_cases h2:j%4=c∧j/4<i
  ·rw[iP h2,iP (by omega)]
  ·rw[iN h2,iN (by omega)]
theorem j2t{c:Nat}(hc:c<4)(l t T:LI):∀(d i k:Nat),i+d=16→d<k→q9f 600 k c (tab 64 (upW c i l t)) T l (i:Int)=some (tab 64 (upW c 16 l t),T,()):=by
 intro d
 induction d with
 |zero=>
  intro i k h1 h2
  obtain⟨k,rfl⟩:∃k',k=k' +1:=⟨k-1,by omega⟩
  obtain rfl:i=16:=by omega
  rfl
 |succ d ih=>
  intro i k h1 h2
  obtain⟨k,rfl⟩:∃k',k=k' +1:=⟨k-1,by omega⟩
  show qe5 600 (q9f 600 k) c (tab 64 (upW c i l t)) T l i=_
  unfold qe5
  have h3:(i:Int)<16:=by omega
  have h4:(c:Int)<4:=by omega
  simp only[h3,h4,dT,cT,yc,yd,yb,ja6 hc (show i<16 by omega),q07 (show i<1000000000000 by omega)]
  exact ih (i+1) k (by omega) (by omega)
theorem zw5{c:Nat}(hc:c<4){l t:LI}(ht:t.length=64)(e:Int):qfz 600 t c l e=some (wT c l t,()):=by
 have h:=j2t hc l t q31 16 0 600 (by omega) (by omega)
 have e0:tab 64 (upW c 0 l t)=t:=by
  conv=>rhs;rw[qgl ht]
  exact q01 fun j hj=>by unfold upW;rw[iN (by omega)]
 have e1:tab 64 (upW c 16 l t)=wT c l t:=q01 fun j hj=>by
  unfold upW
  by_cases h2:j%4=c
  ·rw[iP h2,iP (by omega)]
  ·rw[iN h2,iN (by omega)]
 rw[e0,e1]at h
 unfold qfz
 rw[show((0:Nat):Int)=0 from rfl]at h
 rw[h]
 rfl
def qia(a:Int):LI:=tab 64 fun j=>if j%4=3 then a else 0
theorem qdq(a:Int):(qia a).length=64:=q0g _ _
theorem blank_is:qal 600 false=some (qia 255,())∧qal 600 true=some (qia 2047,()):=by constructor<;>kernel_rfl
theorem z8q{m a:Int}(h:0≤a∧a≤m):Rg m (qia a):=q92 (by omega) fun j _=>by
 split<;>omega
def q5w(k:Nat):Nat:=match k with|1|4|7|8|9|11=>8|_=>16
def qvt(k:Nat):Int:=match k with|1|7|8=>7|2|3|6|9|10=>15|4|11=>1|_=>3
def z07(k:Nat):Bool:=match k with|11|12=>true|_=>false
def zcs(k:Nat):Int:=if z07 k then 2047 else 255
def Fmt(k:Nat):Prop:=1≤k∧k≤12
theorem qfa{p:Nat→Prop}(h1:p 1)(h2:p 2)(h3:p 3)(h4:p 4)(h5:p 5)(h6:p 6)(h7:p 7)(h8:p 8)(h9:p 9)(h10:p 10)(h11:p 11)(h12:p 12){k:Nat}(h:Fmt k):p k:=by
 obtain⟨a,b⟩:=h
 have:k=1∨k=2∨k=3∨k=4∨k=5∨k=6∨k=7∨k=8∨k=9∨k=10∨k=11∨k=12:=by omega
 rcases this with rfl|rfl|rfl|rfl|rfl|rfl|rfl|rfl|rfl|rfl|rfl|rfl<;>assumption
theorem zmf(F:Nat){k:Nat}(h:Fmt k):qaj F (k:Int)=some (((q5w k:Int),qvt k,z07 k,()),0,()):=by
 refine qfa (p:=fun k=>qaj F (k:Int)=some (((q5w k:Int),qvt k,z07 k,()),0,())) ?_ ?_ ?_ ?_ ?_ ?_ ?_ ?_ ?_ ?_ ?_ ?_ h<;>rfl
theorem ja7(F:Nat){f:Int}(h:¬(1≤f∧f≤12)):qaj F f=some ((0,0,false,()),5,()):=by
 have hn:∀c:Int,1≤c→c≤12→(f==c)=false:=fun c h1 h2=>beqF (by omega)
 unfold qaj
 rw[hn 1 (by decide) (by decide),hn 7 (by decide) (by decide),hn 8 (by decide) (by decide),hn 2 (by decide) (by decide),hn 3 (by decide) (by decide),hn 6 (by decide) (by decide),hn 10 (by decide) (by decide),hn 9 (by decide) (by decide),hn 4 (by decide) (by decide),hn 11 (by decide) (by decide),hn 5 (by decide) (by decide),hn 12 (by decide) (by decide)]
 rfl
theorem fmt_of{f:Int}(h:1≤f∧f≤12):∃k,Fmt k∧f=(k:Int):=⟨f.toNat,⟨by omega,by omega⟩,by omega⟩
def lo13(b:LI):LI:=b.take 8
def hi13(b:LI):LI:=(b.drop (b.length-8)).take 8
theorem qbn{b:LI}(hb:Bytes b):Bytes (lo13 b):=fun x hx=>hb x (List.mem_of_mem_take hx)
theorem qgo{b:LI}(hb:Bytes b):Bytes (hi13 b):=fun x hx=>hb x (List.mem_of_mem_drop (List.mem_of_mem_take hx))
theorem qo9{b:LI}(h:8≤b.length):(lo13 b).length=8:=by simp[lo13];omega
theorem z11{b:LI}(h:8≤b.length):(hi13 b).length=8:=by simp[hi13];omega
theorem lo13_8{b:LI}(h:b.length=8):lo13 b=b:=List.take_of_length_le (by omega)
theorem zbi(k:Nat):8≤q5w k∧q5w k≤16:=by
 unfold q5w
 split<;>decide
def zfv(b:LI)(four:Bool):LI:=zlw (palV (lv b 0 16) (lv b 16 16) four) (oneW b)
theorem z8r(b:LI)(four:Bool):(zfv b four).length=64:=zme (z0u _ _ _) (qzx b)
theorem zw6(b:LI)(four:Bool):Rg 255 (zfv b four):=rg_tileV (z0u _ _ _) (qzx b) (rg_palV _ _ _)
def qmy(k:Nat)(b:LI):LI:=match k with
 |1=>zfv b false
 |2=>wT 3 (zvj (lo13 b)) (zfv (hi13 b) true)
 |3=>wT 3 (qrc (lo13 b)) (zfv (hi13 b) true)
 |4=>wT 0 (qrc (lo13 b)) (qia 255)
 |5=>wT 1 (qrc (hi13 b)) (wT 0 (qrc (lo13 b)) (qia 255))
 |6=>qji b
 |7=>j6m b
 |8=>tab 64 (qmr b false)
 |9=>tab 64 (qmr b true)
 |10=>wT 3 (eacL (lo13 b) false) (tab 64 (qmr (hi13 b) false))
 |11=>wT 0 (eacL (lo13 b) true) (qia 2047)
 |_=>wT 1 (eacL (hi13 b) true) (wT 0 (eacL (lo13 b) true) (qia 2047))
theorem zw7{b:LI}(hb:Bytes b){k:Nat}(h:Fmt k):Rg (zcs k) (qmy k b):=by
 have hlo:=qbn hb
 have hhi:=qgo hb
 refine qfa (p:=fun k=>Rg (zcs k) (qmy k b)) ?_ ?_ ?_ ?_ ?_ ?_ ?_ ?_ ?_ ?_ ?_ ?_ h
 ·exact zw6 _ _
 ·exact zw4 (by decide) (rg_fours _) (zw6 _ _)
 ·exact zw4 (by decide) (zgg hlo) (zw6 _ _)
 ·exact zw4 (by decide) (zgg hlo) (z8q (by decide))
 ·exact zw4 (by decide) (zgg hhi) (zw4 (by decide) (zgg hlo) (z8q (by decide)))
 ·exact ja3 b
 ·exact zrf _ _ _ _ _ _
 ·exact q92 (by decide) fun j _=>z5j _ _ _
 ·exact q92 (by decide) fun j _=>z5j _ _ _
 ·exact zw4 (by decide) (zw3 _ false) (q92 (by decide) fun j _=>z5j _ _ _)
 ·exact zw4 (by decide) (zw3 _ true) (z8q (by decide))
 ·exact zw4 (by decide) (zw3 _ true) (zw4 (by decide) (zw3 _ true) (z8q (by decide)))
theorem qhe{b t:LI}(hb:Bytes b)(hl:b.length=8)(ht:t.length=64){c:Nat}(hc:c<4)(x y:Int):q13 600 t c b x y false=some (wT c (qrc b) t,()):=by
 unfold q13 qcl
 simp only[cF,j69 (F:=600) (by decide) hb hl,y5,zw5 hc ht]
theorem qp5{b t:LI}(hb:Bytes b)(hl:b.length=8)(ht:t.length=64){c:Nat}(hc:c<4)(x y:Int):q13 600 t c b x y true=some (wT c (eacL b true) t,()):=by
 unfold q13 qcl
 simp only[cT,ja5 hb hl,y5,zw5 hc ht]
section
variable {b:LI}
theorem d13_1(hb:Bytes b)(hl:b.length=8)(x):q0b 600 1 x (lo13 b) (hi13 b) b=some (qmy 1 b,0,()):=by
 have h:=zb9 (F:=600) (by decide) hb hl false
 unfold q0b
 simp only[Int.reduceBEq,cT,cF,h,y5]
 rfl
theorem d13_2(hb:Bytes b)(hl:b.length=16)(x):q0b 600 2 x (lo13 b) (hi13 b) b=some (qmy 2 b,0,()):=by
 have h1:=Fours_is (F:=600) (by decide) (qbn hb) (qo9 (b:=b) (by omega))
 have h2:q7x 600 (hi13 b) true=some (zfv (hi13 b) true,0,()):=zb9 (F:=600) (by decide) (qgo hb) (z11 (by omega)) true
 have h3:=fun e=>zw5 (c:=3) (by decide) (l:=zvj (lo13 b)) (z8r (hi13 b) true) e
 simp only[yp]at h3
 unfold q0b
 simp only[Int.reduceBEq,cT,cF,h1,h2,h3,qak,y5]
 rfl
theorem d13_3(hb:Bytes b)(hl:b.length=16):q0b 600 3 (16,15,false,()) (lo13 b) (hi13 b) b=some (qmy 3 b,0,()):=by
 have h2:q7x 600 (hi13 b) true=some (zfv (hi13 b) true,0,()):=zb9 (F:=600) (by decide) (qgo hb) (z11 (by omega)) true
 have h3:=fun x y=>qhe (qbn hb) (qo9 (by omega)) (z8r (hi13 b) true) (c:=3) (by decide) x y
 simp only[yp]at h3
 unfold q0b
 simp only[Int.reduceBEq,cT,cF,h2,h3,qak,y5]
 rfl
theorem d13_4(hb:Bytes b)(hl:b.length=8):q0b 600 4 (8,1,false,()) (lo13 b) (hi13 b) b=some (qmy 4 b,0,()):=by
 have h3:=fun x y=>qhe (qbn hb) (qo9 (by omega)) (qdq 255) (c:=0) (by decide) x y
 simp only[yq]at h3
 unfold q0b
 simp only[Int.reduceBEq,cT,cF,blank_is.1,h3,y5]
 rfl
theorem d13_5(hb:Bytes b)(hl:b.length=16):q0b 600 5 (16,3,false,()) (lo13 b) (hi13 b) b=some (qmy 5 b,0,()):=by
 have h3:=fun x y=>qhe (qbn hb) (qo9 (by omega)) (qdq 255) (c:=0) (by decide) x y
 have h4:=fun x y=>qhe (qgo hb) (z11 (by omega)) (j56 0 (qrc (lo13 b)) (qia 255)) (c:=1) (by decide) x y
 simp only[yq,yp]at h3 h4
 unfold q0b
 simp only[Int.reduceBEq,cT,cF,blank_is.1,h3,h4,y5]
 rfl
theorem d13_6(hb:Bytes b)(hl:b.length=16)(x):q0b 600 6 x (lo13 b) (hi13 b) b=some (qmy 6 b,0,()):=by
 have h:=zbd hb hl
 unfold q0b
 simp only[Int.reduceBEq,cT,cF,h,y5]
 rfl
theorem d13_7(hb:Bytes b)(hl:b.length=8)(x):q0b 600 7 x (lo13 b) (hi13 b) b=some (qmy 7 b,0,()):=by
 have h:=(zm4 (F:=600) (by decide) hb hl).1
 unfold q0b
 simp only[Int.reduceBEq,cT,cF,h,y5]
 rfl
theorem d13_8(hb:Bytes b)(hl:b.length=8)(x):q0b 600 8 x (lo13 b) (hi13 b) b=some (qmy 8 b,0,()):=by
 have h:=z5h hb hl false
 unfold q0b
 simp only[Int.reduceBEq,cT,cF,h,y5]
 rfl
theorem d13_9(hb:Bytes b)(hl:b.length=8)(x):q0b 600 9 x (lo13 b) (hi13 b) b=some (qmy 9 b,0,()):=by
 have h:=z5h hb hl true
 unfold q0b
 simp only[Int.reduceBEq,cT,cF,h,y5]
 rfl
theorem d13_10(hb:Bytes b)(hl:b.length=16)(x):q0b 600 10 x (lo13 b) (hi13 b) b=some (qmy 10 b,0,()):=by
 have h1:=ja5 (qbn hb) (qo9 (b:=b) (by omega)) false
 have h2:=z5h (qgo hb) (z11 (b:=b) (by omega)) false
 have h3:=fun e=>zw5 (c:=3) (by decide) (l:=eacL (lo13 b) false) (q0g 64 (qmr (hi13 b) false)) e
 simp only[yp]at h3
 unfold q0b
 simp only[Int.reduceBEq,cT,cF,h1,h2,h3,qak,y5]
 rfl
theorem d13_11(hb:Bytes b)(hl:b.length=8):q0b 600 11 (8,1,true,()) (lo13 b) (hi13 b) b=some (qmy 11 b,0,()):=by
 have h3:=fun x y=>qp5 (qbn hb) (qo9 (by omega)) (qdq 2047) (c:=0) (by decide) x y
 simp only[yq]at h3
 unfold q0b
 simp only[Int.reduceBEq,cT,cF,blank_is.2,h3,y5]
 rfl
theorem d13_12(hb:Bytes b)(hl:b.length=16):q0b 600 12 (16,3,true,()) (lo13 b) (hi13 b) b=some (qmy 12 b,0,()):=by
 have h3:=fun x y=>qp5 (qbn hb) (qo9 (by omega)) (qdq 2047) (c:=0) (by decide) x y
 have h4:=fun x y=>qp5 (qgo hb) (z11 (by omega)) (j56 0 (eacL (lo13 b) true) (qia 2047)) (c:=1) (by decide) x y
 simp only[yq,yp]at h3 h4
 unfold q0b
 simp only[Int.reduceBEq,cT,cF,blank_is.2,h3,h4,y5]
 rfl
theorem decode13(hb:Bytes b){k:Nat}(h:Fmt k):b.length=q5w k→q0b 600 (k:Int) ((q5w k:Int),qvt k,z07 k,()) (lo13 b) (hi13 b) b=some (qmy k b,0,()):=
 qfa (p:=fun k=>b.length=q5w k→q0b 600 (k:Int) ((q5w k:Int),qvt k,z07 k,()) (lo13 b) (hi13 b) b=some (qmy k b,0,()))
  (fun hl=>d13_1 hb hl _) (fun hl=>d13_2 hb hl _) (fun hl=>d13_3 hb hl) (fun hl=>d13_4 hb hl) (fun hl=>d13_5 hb hl) (fun hl=>d13_6 hb hl _) (fun hl=>d13_7 hb hl _) (fun hl=>d13_8 hb hl _) (fun hl=>d13_9 hb hl _) (fun hl=>d13_10 hb hl _) (fun hl=>d13_11 hb hl) (fun hl=>d13_12 hb hl) h
theorem z5k(hb:Bytes b){k:Nat}(h:Fmt k)(hl:b.length=q5w k):q8g 600 (k:Int) b=some (qmy k b,0,()):=by
 have g:=zbi k
 unfold q8g
 rw[zmf 600 h]
 have e1:y0 .i64 ((b.length:Int)-8)=((b.length-8:Nat):Int):=by rw[w64 (by omega) (by omega)];omega
 have e2:(((b.length:Nat):Int) !=(q5w k:Int))=false:=by rw[hl];simp
 have e3:psub b.length (b.length-8)=8:=by rw[j1a];omega
 simp only[y5,bne_self_eq_false,cF,e2,show 8≤b.length by omega,dT,cT,e1,yc,yb,show b.length-8≤b.length by omega,yd,e3]
 have h3:=decode13 hb h hl
 unfold lo13 hi13 at h3
 rw[h3]
 rfl
end
def scV(x:Int):Int:=8*x+x/32
def upS(n:Nat)(t:LI)(j:Nat):Int:=if j<n then scV (t.getD j 0)else t.getD j 0
theorem ja8{t:LI}{n:Nat}(hn:n<64):(tab 64 (upS n t)).set n (scV (t.getD n 0))=tab 64 (upS (n+1) t):=by
 rw[q60]
 refine q01 fun j hj=> ?_
 unfold upS
 by_cases h:j=n
 ·subst h;rw[iP rfl,iP (by omega)]
 ·rw[iN h]
  by_cases h2:j<n
  ·rw[iP h2,iP (by omega)]
  ·rw[iN h2,iN (by omega)]
theorem j0a{t:LI}(ht:Rg 255 t)(T:LI){i:Nat}(hi:i<16)(y:Int):∀(d c k:Nat),c+d=4→d<k→
  q7p 600 k (tab 64 (upS (i*4+c) t)) T (i:Int) y (tab 4 fun c=>t.getD (i*4+c) 0) (c:Int)=some (tab 64 (upS (i*4+4) t),T,y,()):=by
 intro d
 induction d with
 |zero=>
  intro c k h1 h2
  obtain⟨k,rfl⟩:∃k',k=k' +1:=⟨k-1,by omega⟩
  obtain rfl:c=4:=by omega
  rfl
 |succ d ih=>
  intro c k h1 h2
  obtain⟨k,rfl⟩:∃k',k=k' +1:=⟨k-1,by omega⟩
  show qcm 600 (q7p 600 k) (tab 64 (upS (i*4+c) t)) T i y (tab 4 fun c=>t.getD (i*4+c) 0) c=_
  unfold qcm
  have h3:(i:Int)<16:=by omega
  have h4:(c:Int)<4:=by omega
  have hv:=ht (i*4+c)
  have e:y0 .i64 (y0 .i64 (8*t.getD (i*4+c) 0)+y0 .i64 (yx (t.getD (i*4+c) 0) 32))=scV (t.getD (i*4+c) 0):=by
   rw[q1g hv.1,w64 (x:=8*t.getD (i*4+c) 0) (by omega) (by omega),w64 (x:=t.getD (i*4+c) 0/32) (by omega) (by omega),w64 (by omega) (by omega)]
   rfl
  simp only[h3,h4,dT,cT,yc,yd,yb,q12 (show c<4 by omega),e,ja8 (t:=t) (show i*4+c<64 by omega),q07 (show c<1000000000000 by omega)]
  exact ih (c+1) k (by omega) (by omega)
theorem j0b{t:LI}(ht:Rg 255 t)(T:LI):∀(d i k:Nat),i+d=16→d<k→q7q 600 k (tab 64 (upS (i*4) t)) T (i:Int)=some (tab 64 (upS 64 t),T,()):=by
 intro d
 induction d with
 |zero=>
  intro i k h1 h2
  obtain⟨k,rfl⟩:∃k',k=k' +1:=⟨k-1,by omega⟩
  obtain rfl:i=16:=by omega
  rfl
 |succ d ih=>
  intro i k h1 h2
  obtain⟨k,rfl⟩:∃k',k=k' +1:=⟨k-1,by omega⟩
  show qcn 600 (q7q 600 k) (tab 64 (upS (i*4) t)) T i=_
  unfold qcn
  have h3:(i:Int)<16:=by omega
  have e:y8 4 (y9 (i*4) (tab 64 (upS (i*4) t)))=tab 4 fun c=>t.getD (i*4+c) 0:=by
   rw[qo5 (by omega)]
   exact q01 fun c hc=>by unfold upS;rw[iN (by omega)]
  have h:=j0a ht T (i:=i) (by omega) i 4 0 600 (by omega) (by omega)
  simp only[Nat.add_zero,yq]at h
  simp only[h3,dT,cT,yc,yd,yb,e,h,y5,q07 (show i<1000000000000 by omega)]
  rw[show i*4+4=(i+1)*4 by omega]
  exact ih (i+1) k (by omega) (by omega)
def scT(k:Nat)(t:LI):LI:=if z07 k then tab 64 fun j=>scV (t.getD j 0)else t
theorem zw8{k:Nat}{t:LI}(ht:t.length=64):(scT k t).length=64:=by
 unfold scT
 split
 ·exact q0g _ _
 ·exact ht
theorem zmg{k:Nat}{t:LI}(ht:Rg 255 t):Rg (zcs k) (scT k t):=by
 unfold scT zcs
 cases z07 k
 ·exact ht
 ·exact q92 (by decide) fun j _=>by
   have:=ht j
   unfold scV
   simp only[if_true]
   omega
theorem j57{k:Nat}(h:Fmt k){t:LI}(hl:t.length=64)(ht:Rg 255 t):qhs 600 (k:Int) t=some (scT k t,()):=by
 unfold qhs scT
 rw[zmf 600 h]
 simp only[y5]
 cases z07 k
 ·rfl
 ·have h:=j0b ht q31 16 0 600 (by omega) (by omega)
  have e0:tab 64 (upS (0*4) t)=t:=by
   conv=>rhs;rw[qgl hl]
   exact q01 fun j hj=>by unfold upS;rw[iN (by omega)]
  have e1:tab 64 (upS 64 t)=tab 64 fun j=>scV (t.getD j 0):=q01 fun j hj=>by unfold upS;rw[iP hj]
  rw[e0,e1,show((0:Nat):Int)=0 from rfl]at h
  simp only[Bool.not_true,cF,h,y5,if_true]
def bitM(mask:Int)(c:Nat):Bool:=mask/2^c%2==1
def errT(mask:Int)(s u:LI)(j:Nat):Int:=if bitM mask (j%4)then(s.getD j 0-u.getD j 0)*(s.getD j 0-u.getD j 0)else 0
def sumN(f:Nat→Int):Nat→Int
 |0=>0
 |n+1=>sumN f n+f n
theorem ql0{f:Nat→Int}{m:Int}:∀{n:Nat},(∀i,i<n→0≤f i∧f i≤m)→0≤sumN f n∧sumN f n≤m*n
 |0,_=>by simp[sumN]
 |n+1,h=>by
  have h1:=ql0 (n:=n) fun i hi=>h i (by omega)
  have h2:=h n (by omega)
  have e:m*((n+1:Nat):Int)=m*(n:Int)+m:=by
   rw[show((n+1:Nat):Int)=(n:Int)+1 by omega,Int.mul_add,Int.mul_one]
  unfold sumN
  rw[e]
  omega
theorem zmh{f:Nat→Int}:∀{n:Nat},(∀i,i<n→0≤f i)→(sumN f n=0↔∀i,i<n→f i=0)
 |0,_=>by simp[sumN]
 |n+1,h=>by
  have h1:=zmh (n:=n) fun i hi=>h i (by omega)
  have h0:0≤sumN f n:=by
   have:∀m,m≤n→0≤sumN f m:=by
    intro m
    induction m with
    |zero=>intro _;exact Int.le_refl 0
    |succ m ih=>intro hm;unfold sumN;have:=ih (by omega);have:=h m (by omega);omega
   exact this n (wc _)
  have h2:=h n (by omega)
  unfold sumN
  constructor
  ·intro e i hi
   by_cases hin:i=n
   ·subst hin;omega
   ·exact h1.1 (by omega) i (by omega)
  ·intro e
   have:=h1.2 fun i hi=>e i (by omega)
   have:=e n (by omega)
   omega
theorem qoa{x m:Int}(h: -m≤x∧x≤m):0≤x*x∧x*x≤m*m:=by
 have hm:0≤m:=by omega
 constructor
 ·rcases Int.le_total 0 x with h1|h1
  ·exact Int.mul_nonneg h1 h1
  ·have:=Int.mul_nonneg (a:= -x) (b:= -x) (by omega) (by omega)
   rwa [Int.neg_mul_neg]at this
 ·rcases Int.le_total 0 x with h1|h1
  ·exact Int.mul_le_mul h.2 h.2 h1 hm
  ·have:=Int.mul_le_mul (a:= -x) (b:= -x) (c:=m) (d:=m) (by omega) (by omega) (by omega) hm
   rwa [Int.neg_mul_neg]at this
theorem j2u{x:Int}:x*x=0↔x=0:=by
 rw[Int.mul_eq_zero]
 simp
theorem z12{mask:Int}{s u:LI}(hs:Rg 2047 s)(hu:Rg 2047 u)(j:Nat):0≤errT mask s u j∧errT mask s u j≤2047*2047:=by
 unfold errT
 split
 ·have h1:=hs j
  have h2:=hu j
  exact qoa (m:=2047) (by omega)
 ·decide
def errS(mask:Int)(s u:LI):Int:=sumN (errT mask s u) 64
theorem j2v{mask:Int}{s u:LI}(hs:Rg 2047 s)(hu:Rg 2047 u):0≤errS mask s u:=(ql0 (n:=64) fun i _=>z12 hs hu i).1
theorem j0c{mask:Int}{s u:LI}(hs:Rg 2047 s)(hu:Rg 2047 u):errS mask s u=0↔∀j,j<64→bitM mask (j%4)=true→s.getD j 0=u.getD j 0:=by
 unfold errS
 rw[zmh fun i _=>(z12 hs hu i).1]
 constructor
 ·intro h j hj hb
  have:=h j hj
  unfold errT at this
  rw[iP hb,j2u]at this
  omega
 ·intro h j hj
  unfold errT
  split
  ·rename_i hb
   rw[j2u,h j hj hb]
   omega
  ·rfl
theorem j58{mask:Int}{c:Nat}(hc:c≤62):(iand .i64 (ishr .i64 mask (c:Int)) 1==1)=bitM mask c:=by
 have h:=qml (b:=1) (by decide) (x:=ishr .i64 mask (c:Int))
 rw[show((2:Int)^1-1)=1 from rfl]at h
 rw[h,zlt (by omega)]
 rfl
theorem j0d{mask:Int}{s u:LI}(hs:Rg 2047 s)(hu:Rg 2047 u){i:Nat}(hi:i<16)(y:Int):∀(d c k:Nat),c+d=4→d<k→
  q9g 600 k mask s u (sumN (errT mask s u) (i*4+c)) (i:Int) y (c:Int)=some (mask,s,u,sumN (errT mask s u) (i*4+4),y,()):=by
 intro d
 induction d with
 |zero=>
  intro c k h1 h2
  obtain⟨k,rfl⟩:∃k',k=k' +1:=⟨k-1,by omega⟩
  obtain rfl:c=4:=by omega
  rfl
 |succ d ih=>
  intro c k h1 h2
  obtain⟨k,rfl⟩:∃k',k=k' +1:=⟨k-1,by omega⟩
  show qe7 600 (q9g 600 k) mask s u (sumN (errT mask s u) (i*4+c)) i y c=_
  unfold qe7
  have h3:(i:Int)<16:=by omega
  have h4:(c:Int)<4:=by omega
  have b1:=hs (i*4+c)
  have b2:=hu (i*4+c)
  have b3:=ql0 (n:=i*4+c) (f:=errT mask s u) fun j _=>z12 hs hu j
  have b5:(2047*2047:Int)*((i*4+c:Nat):Int)≤2047*2047*64:=Int.mul_le_mul_of_nonneg_left (by omega) (by decide)
  have nx:=ih (c+1) k (by omega) (by omega)
  rw[show i*4+(c+1)=(i*4+c)+1 by omega]at nx
  rw[show sumN (errT mask s u) (i*4+c+1)=sumN (errT mask s u) (i*4+c)+errT mask s u (i*4+c)from rfl]at nx
  cases hb:bitM mask c with
  |true=>
   have e:errT mask s u (i*4+c)=(s.getD (i*4+c) 0-u.getD (i*4+c) 0)*(s.getD (i*4+c) 0-u.getD (i*4+c) 0):=by
    unfold errT
    rw[iP (by rw[show(i*4+c)%4=c by omega];exact hb)]
   have b4:=qoa (x:=s.getD (i*4+c) 0-u.getD (i*4+c) 0) (m:=2047) (by omega)
   have sq:qaf 600 (y0 .i64 (s.getD (i*4+c) 0-u.getD (i*4+c) 0))=some ((s.getD (i*4+c) 0-u.getD (i*4+c) 0)*(s.getD (i*4+c) 0-u.getD (i*4+c) 0),()):=by
    unfold qaf
    rw[w64 (x:=s.getD (i*4+c) 0-u.getD (i*4+c) 0) (by omega) (by omega),w64 (by omega) (by omega)]
   rw[e]at nx
   simp only[h3,h4,dT,cT,yc,yd,yb,j58 (mask:=mask) (show c≤62 by omega),hb,sq,y5,q07 (show c<1000000000000 by omega)]
   rw[w64 (by omega) (by omega)]
   exact nx
  |false=>
   have e:errT mask s u (i*4+c)=0:=by
    unfold errT
    rw[iN (by rw[show(i*4+c)%4=c by omega,hb];simp)]
   rw[e,Int.add_zero]at nx
   simp only[h3,h4,dT,cT,cF,yc,yd,yb,j58 (mask:=mask) (show c≤62 by omega),hb,q07 (show c<1000000000000 by omega)]
   exact nx
theorem j0e{mask:Int}{s u:LI}(hs:Rg 2047 s)(hu:Rg 2047 u):∀(d i k:Nat),i+d=16→d<k→q9h 600 k mask s u (sumN (errT mask s u) (i*4)) (i:Int)=some (errS mask s u,()):=by
 intro d
 induction d with
 |zero=>
  intro i k h1 h2
  obtain⟨k,rfl⟩:∃k',k=k' +1:=⟨k-1,by omega⟩
  obtain rfl:i=16:=by omega
  rfl
 |succ d ih=>
  intro i k h1 h2
  obtain⟨k,rfl⟩:∃k',k=k' +1:=⟨k-1,by omega⟩
  show qe8 600 (q9h 600 k) mask s u (sumN (errT mask s u) (i*4)) i=_
  unfold qe8
  have h3:(i:Int)<16:=by omega
  have h:=j0d hs hu (i:=i) (by omega) (i:Int) 4 0 600 (by omega) (by omega) (mask:=mask)
  simp only[Nat.add_zero,yq]at h
  simp only[h3,dT,cT,h,y5,q07 (show i<1000000000000 by omega)]
  rw[show i*4+4=(i+1)*4 by omega]
  exact ih (i+1) k (by omega) (by omega)
theorem ja9(mask:Int){s u:LI}(hs:Rg 2047 s)(hu:Rg 2047 u):qsc 600 s u mask=some (errS mask s u,()):=by
 have h:=j0e hs hu 16 0 600 (by omega) (by omega) (mask:=mask)
 unfold qsc
 simp only[Nat.zero_mul,yq,sumN]at h
 rw[h]
 rfl
theorem qrh(k:Nat):zcs k≤2047:=by
 unfold zcs
 split<;>decide
def qfe(k:Nat)(b t:LI):Int:=errS (qvt k) (scT k t) (qmy k b)
theorem z13{b t:LI}(hb:Bytes b){k:Nat}(h:Fmt k)(hl:b.length=q5w k)(htl:t.length=64)(ht:Rg 255 t):qdc 600 (k:Int) b t=some (qfe k b t,0,()):=by
 unfold qdc
 rw[z5k hb h hl,zmf 600 h,j57 h htl ht]
 simp only[y5,bne_self_eq_false,cF,ja9 (qvt k) (q1r (zmg (k:=k) ht) (qrh k)) (q1r (zw7 hb h) (qrh k))]
 rfl
theorem zmi(t:LI){i:Nat}(hi:i<16):∀(d c k:Nat),c+d=4→d<k→
  q1b 600 k t (i:Int) (c:Int)=some (.inl ())∨(q1b 600 k t (i:Int) (c:Int)=some (.inr (t,(i:Int),()))∧∀c',c≤c' →c' <4→0≤t.getD (i*4+c') 0∧t.getD (i*4+c') 0≤255):=by
 intro d
 induction d with
 |zero=>
  intro c k h1 h2
  obtain⟨k,rfl⟩:∃k',k=k' +1:=⟨k-1,by omega⟩
  obtain rfl:c=4:=by omega
  exact .inr ⟨rfl,fun c' h h' =>by omega⟩
 |succ d ih=>
  intro c k h1 h2
  obtain⟨k,rfl⟩:∃k',k=k' +1:=⟨k-1,by omega⟩
  have e:q1b 600 (k+1) t (i:Int) (c:Int)=q4m 600 (q1b 600 k) t i c:=rfl
  rw[e]
  unfold q4m
  have h3:(i:Int)<16:=by omega
  have h4:(c:Int)<4:=by omega
  simp only[h3,h4,dT,cT,yc,yd,yb,q07 (show c<1000000000000 by omega)]
  by_cases v1:t.getD (i*4+c) 0<0
  ·left
   simp only[v1,dT,cT]
  ·simp only[v1,dF,cF]
   by_cases v2:255<t.getD (i*4+c) 0
   ·left
    simp only[v2,dT,cT]
   ·simp only[v2,dF,cF]
    rcases ih (c+1) k (by omega) (by omega)with h|⟨h,h'⟩
    ·exact .inl h
    ·refine .inr ⟨h,fun c' g1 g2=> ?_⟩
     by_cases hc:c' =c
     ·subst hc;omega
     ·exact h' c' (by omega) g2
theorem zmj(t:LI):∀(d i k:Nat),i+d=16→d<k→
  q1c 600 k t (i:Int)=some (.inl ())∨(q1c 600 k t (i:Int)=some (.inr ())∧∀j,i*4≤j→j<64→0≤t.getD j 0∧t.getD j 0≤255):=by
 intro d
 induction d with
 |zero=>
  intro i k h1 h2
  obtain⟨k,rfl⟩:∃k',k=k' +1:=⟨k-1,by omega⟩
  obtain rfl:i=16:=by omega
  exact .inr ⟨rfl,fun j h h' =>by omega⟩
 |succ d ih=>
  intro i k h1 h2
  obtain⟨k,rfl⟩:∃k',k=k' +1:=⟨k-1,by omega⟩
  have e:q1c 600 (k+1) t (i:Int)=q4n 600 (q1c 600 k) t i:=rfl
  rw[e]
  unfold q4n
  have h3:(i:Int)<16:=by omega
  simp only[h3,dT,cT]
  rcases zmi t (i:=i) (by omega) 4 0 600 (by omega) (by omega)with h|⟨h,h'⟩
  ·left
   simp only[yq]at h
   simp only[h,y5]
  ·simp only[yq]at h
   simp only[h,y5,q07 (show i<1000000000000 by omega)]
   rcases ih (i+1) k (by omega) (by omega)with g|⟨g,g'⟩
   ·exact .inl g
   ·refine .inr ⟨g,fun j h5 h6=> ?_⟩
    by_cases hj:j<i*4+4
    ·have:=h' (j-i*4) (by omega) (by omega)
     rwa [show i*4+(j-i*4)=j by omega]at this
    ·exact g' j (by omega) h6
theorem zq6{t:LI}(hl:t.length=64):(q59 600 t=some (true,())∧Rg 255 t)∨q59 600 t=some (false,()):=by
 unfold q59
 rcases zmj t 16 0 600 (by omega) (by omega)with h|⟨h,h'⟩
 ·right
  simp only[yq]at h
  rw[h]
  rfl
 ·left
  simp only[yq]at h
  refine⟨by rw[h];rfl,fun j=> ?_⟩
  by_cases hj:j<64
  ·exact h' j (by omega) hj
  ·rw[zcr (by omega)]
   decide
theorem mbit_is{mask:Int}(hm:0≤mask∧mask≤15){c:Nat}(hc:c<4):(yw (y0 .i64 (yx mask (2^c))) 2==1)=bitM mask c:=by
 have hp:(0:Int)<2^c:=q87 c
 have h1:0≤mask/2^c:=Int.ediv_nonneg hm.1 (by omega)
 have h2:mask/2^c≤mask:=Int.ediv_le_self _ hm.1
 rw[q1g hm.1,w64 (by omega) (by omega),tmod_nonneg h1]
 rfl
theorem j0f(k:Nat):0≤qvt k∧qvt k≤15:=by
 unfold qvt
 split<;>decide
theorem zrg(F:Nat)(f:Int):qka F f=qaj F f∧∃r,qaj F f=some r:=by
 by_cases h:1≤f∧f≤12
 ·obtain⟨k,hk,rfl⟩:=fmt_of h
  rw[zmf F hk]
  refine⟨?_,_,rfl⟩
  refine qfa (p:=fun k=>qka F (k:Int)=some (((q5w k:Int),qvt k,z07 k,()),0,())) ?_ ?_ ?_ ?_ ?_ ?_ ?_ ?_ ?_ ?_ ?_ ?_ hk<;>rfl
 ·rw[ja7 F h]
  refine⟨?_,_,rfl⟩
  unfold qka
  by_cases h1:f<1
  ·simp only[h1,dT,cT]
  ·have h2:12<f:=by omega
   simp only[h1,dF,cF,h2,dT,cT]
def qjj(g:Nat→Int):Nat→Nat
 |0=>0
 |n+1=>if n=0 then 0 else if g n<g (qjj g n)then n else qjj g n
theorem zmk(g:Nat→Int):∀{n:Nat},0<n→qjj g n<n
 |0,h=>by omega
 |n+1,_=>by
  unfold qjj
  split
  ·omega
  ·split
   ·omega
   ·have:=zmk g (n:=n) (by omega)
    omega
theorem zml(g:Nat→Int):∀{n:Nat} {i:Nat},i<n→g (qjj g n)≤g i
 |0,i,h=>by omega
 |n+1,i,h=>by
  unfold qjj
  split
  ·have:i=0:=by omega
   subst this
   exact Int.le_refl _
  ·split
   ·by_cases hi:i=n
    ·subst hi;exact Int.le_refl _
    ·have:=zml g (n:=n) (i:=i) (by omega)
     omega
   ·by_cases hi:i=n
    ·subst hi;omega
    ·exact zml g (n:=n) (i:=i) (by omega)
def qj5(l:LI)(v:Int):Int:=sumN (fun i=>(l.getD i 0-v)*(l.getD i 0-v)) l.length
theorem zq7{l L:LI}(hl:Rg 2047 l)(hn:l.length≤64){p:Nat}(hp:p<L.length)(hv:0≤L.getD p 0∧L.getD p 0≤2047):∀(d i k:Nat),i+d=l.length→d<k→
  q4q 600 k (p:Int) L (sumN (fun i=>(l.getD i 0-L.getD p 0)*(l.getD i 0-L.getD p 0)) i) l (l.length:Int) (i:Int)=some (qj5 l (L.getD p 0),()):=by
 intro d
 induction d with
 |zero=>
  intro i k h1 h2
  obtain⟨k,rfl⟩:∃k',k=k' +1:=⟨k-1,by omega⟩
  obtain rfl:i=l.length:=by omega
  show q5g 600 (q4q 600 k) _ _ _ _ _ _=_
  unfold q5g
  simp only[yv,dF,cF]
  rfl
 |succ d ih=>
  intro i k h1 h2
  obtain⟨k,rfl⟩:∃k',k=k' +1:=⟨k-1,by omega⟩
  show q5g 600 (q4q 600 k) _ _ _ _ _ _=_
  unfold q5g
  have h3:(i:Int)<(l.length:Int):=by omega
  have h4:(p:Int)<(L.length:Int):=by omega
  have b1:=hl i
  have b2:=qoa (x:=l.getD i 0-L.getD p 0) (m:=2047) (by omega)
  have b3:=ql0 (n:=i) (f:=fun i=>(l.getD i 0-L.getD p 0)*(l.getD i 0-L.getD p 0)) (m:=2047*2047) fun j _=>qoa (m:=2047) (by have:=hl j;omega)
  have b4:(2047*2047:Int)*(i:Int)≤2047*2047*64:=Int.mul_le_mul_of_nonneg_left (by omega) (by decide)
  have sq:qaf 600 (y0 .i64 (l.getD i 0-L.getD p 0))=some ((l.getD i 0-L.getD p 0)*(l.getD i 0-L.getD p 0),()):=by
   unfold qaf
   rw[w64 (x:=l.getD i 0-L.getD p 0) (by omega) (by omega),w64 (by omega) (by omega)]
  simp only[h3,h4,dT,cT,yc,yd,yb,sq,y5,q07 (show i<1000000000000 by omega)]
  rw[w64 (by omega) (by omega)]
  exact ih (i+1) k (by omega) (by omega)
theorem zrh{l L:LI}(hl:Rg 2047 l)(hn:l.length≤64){p:Nat}(hp:p<L.length)(hv:0≤L.getD p 0∧L.getD p 0≤2047):qkb 600 (p:Int) l L=some (qj5 l (L.getD p 0),()):=by
 have h:=zq7 hl hn hp hv l.length 0 600 (by omega) (by omega)
 unfold qkb
 simp only[yq,sumN]at h
 rw[h]
 rfl
def qwa(L l:LI):Nat:=qjj (fun i=>qj5 l (L.getD i 0)) L.length
theorem zbj{l L:LI}(hl:Rg 2047 l)(hn:l.length≤64)(hL:Rg 2047 L)(hm:L.length≤300):∀(d i k:Nat),1≤i→i+d=L.length→d<k→
  q0u 600 k l L (qjj (fun i=>qj5 l (L.getD i 0)) i:Int) (qj5 l (L.getD (qjj (fun i=>qj5 l (L.getD i 0)) i) 0)) (L.length:Int) (i:Int)=some ((qwa L l:Int),()):=by
 intro d
 induction d with
 |zero=>
  intro i k h0 h1 h2
  obtain⟨k,rfl⟩:∃k',k=k' +1:=⟨k-1,by omega⟩
  obtain rfl:i=L.length:=by omega
  show q0y 600 (q0u 600 k) _ _ _ _ _ _=_
  unfold q0y
  simp only[yv,dF,cF]
  rfl
 |succ d ih=>
  intro i k h0 h1 h2
  obtain⟨k,rfl⟩:∃k',k=k' +1:=⟨k-1,by omega⟩
  show q0y 600 (q0u 600 k) _ _ _ _ _ _=_
  unfold q0y
  have h3:(i:Int)<(L.length:Int):=by omega
  have nx:=ih (i+1) k (by omega) (by omega) (by omega)
  unfold qjj at nx
  rw[iN (by omega)]at nx
  simp only[h3,dT,cT,zrh hl hn (show i<L.length by omega) (hL i),y5,beqF (show(i:Int)≠0 by omega),cF,q07 (show i<1000000000000 by omega)]
  by_cases hc:qj5 l (L.getD i 0)<qj5 l (L.getD (qjj (fun i=>qj5 l (L.getD i 0)) i) 0)
  ·rw[iP hc]at nx
   simp only[hc,dT,cT]
   exact nx
  ·rw[iN hc]at nx
   simp only[hc,dF,cF]
   exact nx
theorem zmm{l L:LI}(hl:Rg 2047 l)(hn:l.length≤64)(hL:Rg 2047 L)(hm:1≤L.length∧L.length≤300):qdd 600 L l=some ((qwa L l:Int),()):=by
 have h:=zbj hl hn hL hm.2 (L.length-1) 1 599 (by omega) (by omega) (by omega)
 have e:q0u 600 600 l L 0 0 (L.length:Int) 0=some ((qwa L l:Int),()):=by
  show q0y 600 (q0u 600 599) _ _ _ _ _ _=_
  unfold q0y
  have h3:(0:Int)<(L.length:Int):=by omega
  have b0:=zrh hl hn (p:=0) (show 0<L.length by omega) (hL 0)
  simp only[yq]at b0
  simp only[h3,dT,cT,b0,y5,beq_self_eq_true]
  exact h
 unfold qdd qd0
 rw[e]
 rfl
theorem zw9{L l:LI}(h:0<L.length):qwa L l<L.length:=zmk _ h
theorem bestV_le(L l:LI){i:Nat}(h:i<L.length):qj5 l (L.getD (qwa L l) 0)≤qj5 l (L.getD i 0):=zml (fun i=>qj5 l (L.getD i 0)) h
def colT(t:LI)(c:Nat):LI:=tab 16 fun i=>t.getD (i*4+c) 0
theorem z14(t:LI)(c:Nat):(colT t c).length=16:=q0g _ _
theorem zbk{m:Int}{t:LI}(h:Rg m t)(c:Nat):Rg m (colT t c):=q92 (by have:=h 0;omega) fun i _=>h _
theorem z15(N:Nat)(g:Nat→Int):tab N g++[g N]=tab (N+1) g:=by
 unfold tab
 rw[List.range_succ,List.map_append]
 rfl
theorem zct{t:LI}(hl:t.length=64){i:Nat}(hi:i<16){c:Nat}(hc:c<4):(y8 4 (y9 (i*4) t)).getD c 0=t.getD (i*4+c) 0:=by
 rw[q7u hl (by omega),q12 hc]
section
variable {t:LI} (hl:t.length=64) {c:Nat} (hc:c<4)
include hl hc
theorem j2w(x1 x2:Int):∀(d i k:Nat),i+d=16→d<k→q2s 600 k (c:Int) x1 x2 (tab i fun i=>t.getD (i*4+c) 0) t (i:Int)=some (x1,x2,colT t c,()):=by
 intro d
 induction d with
 |zero=>
  intro i k h1 h2
  obtain⟨k,rfl⟩:∃k',k=k' +1:=⟨k-1,by omega⟩
  obtain rfl:i=16:=by omega
  rfl
 |succ d ih=>
  intro i k h1 h2
  obtain⟨k,rfl⟩:∃k',k=k' +1:=⟨k-1,by omega⟩
  show q6n 600 (q2s 600 k) _ _ _ _ _ _=_
  unfold q6n
  have h3:(i:Int)<16:=by omega
  have h4:(c:Int)<4:=by omega
  simp only[h3,h4,dT,cT,yc,yd,yb,q0g,show i+1≤1099511627776 by omega,zct hl (show i<16 by omega) hc,q07 (show i<1000000000000 by omega)]
  rw[z15 i fun i=>t.getD (i*4+c) 0]
  exact ih (i+1) k (by omega) (by omega)
theorem j0g(x1:Int):∀(d i k:Nat),i+d=16→d<k→q2i 600 k (c:Int) x1 (tab i fun i=>t.getD (i*4+c) 0) t (i:Int)=some (x1,colT t c,()):=by
 intro d
 induction d with
 |zero=>
  intro i k h1 h2
  obtain⟨k,rfl⟩:∃k',k=k' +1:=⟨k-1,by omega⟩
  obtain rfl:i=16:=by omega
  rfl
 |succ d ih=>
  intro i k h1 h2
  obtain⟨k,rfl⟩:∃k',k=k' +1:=⟨k-1,by omega⟩
  show q5x 600 (q2i 600 k) _ _ _ _ _=_
  unfold q5x
  have h3:(i:Int)<16:=by omega
  have h4:(c:Int)<4:=by omega
  simp only[h3,h4,dT,cT,yc,yd,yb,q0g,show i+1≤1099511627776 by omega,zct hl (show i<16 by omega) hc,q07 (show i<1000000000000 by omega)]
  rw[z15 i fun i=>t.getD (i*4+c) 0]
  exact ih (i+1) k (by omega) (by omega)
theorem zwa(x1:Int):∀(d i k:Nat),i+d=16→d<k→q29 600 k (c:Int) x1 (tab i fun i=>t.getD (i*4+c) 0) t (i:Int)=some (x1,colT t c,()):=by
 intro d
 induction d with
 |zero=>
  intro i k h1 h2
  obtain⟨k,rfl⟩:∃k',k=k' +1:=⟨k-1,by omega⟩
  obtain rfl:i=16:=by omega
  rfl
 |succ d ih=>
  intro i k h1 h2
  obtain⟨k,rfl⟩:∃k',k=k' +1:=⟨k-1,by omega⟩
  show q4x 600 (q29 600 k) _ _ _ _ _=_
  unfold q4x
  have h3:(i:Int)<16:=by omega
  have h4:(c:Int)<4:=by omega
  simp only[h3,h4,dT,cT,yc,yd,yb,q0g,show i+1≤1099511627776 by omega,zct hl (show i<16 by omega) hc,q07 (show i<1000000000000 by omega)]
  rw[z15 i fun i=>t.getD (i*4+c) 0]
  exact ih (i+1) k (by omega) (by omega)
theorem j0h(x1:Int):∀(d i k:Nat),i+d=16→d<k→q2j 600 k (c:Int) x1 (tab i fun i=>t.getD (i*4+c) 0) t (i:Int)=some (x1,colT t c,()):=by
 intro d
 induction d with
 |zero=>
  intro i k h1 h2
  obtain⟨k,rfl⟩:∃k',k=k' +1:=⟨k-1,by omega⟩
  obtain rfl:i=16:=by omega
  rfl
 |succ d ih=>
  intro i k h1 h2
  obtain⟨k,rfl⟩:∃k',k=k' +1:=⟨k-1,by omega⟩
  show q5y 600 (q2j 600 k) _ _ _ _ _=_
  unfold q5y
  have h3:(i:Int)<16:=by omega
  have h4:(c:Int)<4:=by omega
  simp only[h3,h4,dT,cT,yc,yd,yb,q0g,show i+1≤1099511627776 by omega,zct hl (show i<16 by omega) hc,q07 (show i<1000000000000 by omega)]
  rw[z15 i fun i=>t.getD (i*4+c) 0]
  exact ih (i+1) k (by omega) (by omega)
theorem j2x(x1 x2:Int):∀(d i k:Nat),i+d=16→d<k→q28 600 k (c:Int) x1 x2 (tab i fun i=>t.getD (i*4+c) 0) t (i:Int)=some (x1,x2,colT t c,()):=by
 intro d
 induction d with
 |zero=>
  intro i k h1 h2
  obtain⟨k,rfl⟩:∃k',k=k' +1:=⟨k-1,by omega⟩
  obtain rfl:i=16:=by omega
  rfl
 |succ d ih=>
  intro i k h1 h2
  obtain⟨k,rfl⟩:∃k',k=k' +1:=⟨k-1,by omega⟩
  show q4w 600 (q28 600 k) _ _ _ _ _ _=_
  unfold q4w
  have h3:(i:Int)<16:=by omega
  have h4:(c:Int)<4:=by omega
  simp only[h3,h4,dT,cT,yc,yd,yb,q0g,show i+1≤1099511627776 by omega,zct hl (show i<16 by omega) hc,q07 (show i<1000000000000 by omega)]
  rw[z15 i fun i=>t.getD (i*4+c) 0]
  exact ih (i+1) k (by omega) (by omega)
end
theorem qib{α:Type}{m:Nat}(hm:m≤300)(g:Nat→Int)(L:Nat→LI→Int→Option α)(res:LI→Option α)
  (step:∀(k i:Nat),i<m→L (k+1) (tab i g) i=L k (tab i g++[g i]) ((i+1:Nat):Int)) (stop:∀k,L (k+1) (tab m g) m=res (tab m g)):L 600 [] 0=res (tab m g):=by
 have key:∀(d i k:Nat),i+d=m→d<k→L k (tab i g) i=res (tab m g):=by
  intro d
  induction d with
  |zero=>
   intro i k h1 h2
   obtain⟨k,rfl⟩:∃k',k=k' +1:=⟨k-1,by omega⟩
   obtain rfl:i=m:=by omega
   exact stop k
  |succ d ih=>
   intro i k h1 h2
   obtain⟨k,rfl⟩:∃k',k=k' +1:=⟨k-1,by omega⟩
   rw[step k i (by omega),z15]
   exact ih (i+1) k (by omega) (by omega)
 exact key m 0 600 (by omega) (by omega)
def lvW(b:Nat):LI:=tab (2^b) fun i=>q1h b i
def lvP:LI:=tab 256 fun i=>(i:Int)
def lvS(bit:Int):LI:=tab 128 fun i=>2*(i:Int)+bit
def lvL:LI:=tab 32 fun i=>q4g (q1h 5 i+2)
def lvF:LI:=tab 256 fun i=>8*(i:Int)+4
theorem pow_b{b:Nat}(hb:1≤b∧b≤8):1≤2^b∧2^b≤256:=by
 have h:(2:Nat)^b≤2^8:=Nat.pow_le_pow_right (by decide) hb.2
 have:=Nat.pow_pos (n:=b) (show 0<2 by decide)
 omega
theorem rg_lvW{b:Nat}(hb:1≤b∧b≤8):Rg 255 (lvW b):=q92 (by decide) fun i _=>q0v hb _
theorem rg_lvP:Rg 255 lvP:=q92 (by decide) fun i hi=>by omega
theorem rg_lvS{bit:Int}(h:0≤bit∧bit≤1):Rg 255 (lvS bit):=q92 (by decide) fun i hi=>by omega
theorem rg_lvL:Rg 255 lvL:=q92 (by decide) fun i _=>q26 _
theorem rg_lvF:Rg 2047 lvF:=q92 (by decide) fun i hi=>by omega
section
variable {t:LI} (hl:t.length=64) (ht:Rg 2047 t) {c:Nat} (hc:c<4)
include hl ht hc
theorem j0i{b:Nat}(hb:1≤b∧b≤8):qbd 600 t c ((2^b:Nat):Int) b=some ((qwa (lvW b) (colT t c):Int),()):=by
 have hp:=pow_b hb
 have h1:=j2w hl hc ((2^b:Nat):Int) (b:Int) 16 0 600 (by omega) (by omega)
 rw[show tab 0 (fun i=>t.getD (i*4+c) 0)=[]from rfl,show((0:Nat):Int)=0 from rfl]at h1
 have h2:=qib (m:=2^b) (by omega) (fun i=>q1h b i) (fun k w i=>q25 600 k (b:Int) (colT t c) w ((2^b:Nat):Int) i) (fun w=>some (colT t c,w,())) (fun k i hi=>by
   show q2h 600 (q25 600 k) _ _ _ _ _=_
   unfold q2h qwx
   have h3:(i:Int)<((2^b:Nat):Int):=by omega
   simp only[h3,dT,cT,qgj (F:=600) (by decide) hb,y5,q0g,show i+1≤1099511627776 by omega,yd,q07 (show i<1000000000000 by omega)]) (fun k=>by
   show q2h 600 (q25 600 k) _ _ _ _ _=_
   unfold q2h
   simp only[yv,dF,cF])
 have h3:=zmm (l:=colT t c) (L:=lvW b) (zbk ht c) (by rw[z14];decide) (q1r (rg_lvW hb) (by decide)) (by unfold lvW;rw[q0g];omega)
 unfold qbd
 rw[h1]
 simp only[y5]
 rw[h2]
 simp only[y5]
 unfold lvW at h3⊢
 rw[h3]
 rfl
theorem qms{b:Nat}(hb:1≤b∧b≤8):qbr 600 t c b=some ((qwa (lvW b) (colT t c):Int),()):=by
 have h:=j0i hl ht hc hb
 have e:ishl .i64 1 (b:Int)=((2^b:Nat):Int):=by
  rw[zvg (by omega)]
  exact(wh 2 b).symm
 unfold qbr
 simp only[yc,dT,cT,e,h,y5]
theorem zri:qpp 600 t c=some ((qwa lvP (colT t c):Int),()):=by
 have h1:=j0g hl hc (256:Int) 16 0 600 (by omega) (by omega)
 rw[show tab 0 (fun i=>t.getD (i*4+c) 0)=[]from rfl,show((0:Nat):Int)=0 from rfl]at h1
 have h2:=qib (m:=256) (by omega) (fun i=>(i:Int)) (fun k w i=>q1p 600 k (colT t c) w 256 i) (fun w=>some (colT t c,w,())) (fun k i hi=>by
   show q27 600 (q1p 600 k) _ _ _ _=_
   unfold q27 qsd
   have h3:(i:Int)<256:=by omega
   simp only[h3,dT,cT,y5,q0g,show i+1≤1099511627776 by omega,yd,q07 (show i<1000000000000 by omega)]) (fun k=>by
   show q27 600 (q1p 600 k) _ _ _ _=_
   unfold q27
   rfl)
 have h3:=zmm (l:=colT t c) (L:=lvP) (zbk ht c) (by rw[z14];decide) (q1r rg_lvP (by decide)) (by unfold lvP;rw[q0g];decide)
 unfold qpp qea
 rw[h1]
 simp only[y5]
 rw[h2]
 simp only[y5]
 unfold lvP at h3⊢
 rw[h3]
 rfl
theorem sixb_is{bit:Int}(hb:0≤bit∧bit≤1):q8h 600 t c 128 bit=some ((qwa (lvS bit) (colT t c):Int),()):=by
 have h1:=j2x hl hc (128:Int) bit 16 0 600 (by omega) (by omega)
 rw[show tab 0 (fun i=>t.getD (i*4+c) 0)=[]from rfl,show((0:Nat):Int)=0 from rfl]at h1
 have h2:=qib (m:=128) (by omega) (fun i=>2*(i:Int)+bit) (fun k w i=>q1e 600 k bit (colT t c) w 128 i) (fun w=>some (colT t c,w,())) (fun k i hi=>by
   show q1z 600 (q1e 600 k) _ _ _ _ _=_
   unfold q1z qoj
   have h3:(i:Int)<128:=by omega
   have e:y0 .i64 (y0 .i64 (2*(i:Int))+bit)=2*(i:Int)+bit:=by rw[w64 (x:=2*(i:Int)) (by omega) (by omega),w64 (by omega) (by omega)]
   simp only[h3,dT,cT,y5,e,q0g,show i+1≤1099511627776 by omega,yd,q07 (show i<1000000000000 by omega)]) (fun k=>by
   show q1z 600 (q1e 600 k) _ _ _ _ _=_
   unfold q1z
   rfl)
 have h3:=zmm (l:=colT t c) (L:=lvS bit) (zbk ht c) (by rw[z14];decide) (q1r (rg_lvS hb) (by decide)) (by unfold lvS;rw[q0g];decide)
 unfold q8h
 rw[h1]
 simp only[y5]
 rw[h2]
 simp only[y5]
 unfold lvS at h3⊢
 rw[h3]
 rfl
theorem j73:q8i 600 t c 32=some ((qwa lvL (colT t c):Int),()):=by
 have h1:=zwa hl hc (32:Int) 16 0 600 (by omega) (by omega)
 rw[show tab 0 (fun i=>t.getD (i*4+c) 0)=[]from rfl,show((0:Nat):Int)=0 from rfl]at h1
 have h2:=qib (m:=32) (by omega) (fun i=>q4g (q1h 5 i+2)) (fun k w i=>q1f 600 k (colT t c) w 32 i) (fun w=>some (colT t c,w,())) (fun k i hi=>by
   show q20 600 (q1f 600 k) _ _ _ _=_
   unfold q20 qok
   have h3:(i:Int)<32:=by omega
   have wb:=q0v (b:=5) (by decide) (i:Int)
   have wd:=qgj (F:=600) (by decide) (b:=5) (by decide) (i:Int)
   simp only[yp]at wd
   have e:y0 .i64 (q1h 5 (i:Int)+2)=q1h 5 (i:Int)+2:=w64 (by omega) (by omega)
   simp only[h3,dT,cT,wd,y5,e,qkz,q0g,show i+1≤1099511627776 by omega,yd,q07 (show i<1000000000000 by omega)]) (fun k=>by
   show q20 600 (q1f 600 k) _ _ _ _=_
   unfold q20
   rfl)
 have h3:=zmm (l:=colT t c) (L:=lvL) (zbk ht c) (by rw[z14];decide) (q1r rg_lvL (by decide)) (by unfold lvL;rw[q0g];decide)
 unfold q8i
 rw[h1]
 simp only[y5]
 rw[h2]
 simp only[y5]
 unfold lvL at h3⊢
 rw[h3]
 rfl
theorem jaa:qa5 600 t c 256=some ((qwa lvF (colT t c):Int),()):=by
 have h1:=j0h hl hc (256:Int) 16 0 600 (by omega) (by omega)
 rw[show tab 0 (fun i=>t.getD (i*4+c) 0)=[]from rfl,show((0:Nat):Int)=0 from rfl]at h1
 have h2:=qib (m:=256) (by omega) (fun i=>8*(i:Int)+4) (fun k w i=>q1q 600 k (colT t c) w 256 i) (fun w=>some (colT t c,w,())) (fun k i hi=>by
   show q2a 600 (q1q 600 k) _ _ _ _=_
   unfold q2a qsf
   have h3:(i:Int)<256:=by omega
   have e:=j55 600 (base:=(i:Int)) (times:=1) (number:=0) (by omega) (by decide) (by decide) true
   have e2:qo8 (i:Int) 1 0 true=8*(i:Int)+4:=by
    unfold qo8
    simp only[if_true,show¬(1:Int)=0 by decide,if_false]
    omega
   simp only[h3,dT,cT,y5,e,e2,q0g,show i+1≤1099511627776 by omega,yd,q07 (show i<1000000000000 by omega)]) (fun k=>by
   show q2a 600 (q1q 600 k) _ _ _ _=_
   unfold q2a
   rfl)
 have h3:=zmm (l:=colT t c) (L:=lvF) (zbk ht c) (by rw[z14];decide) rg_lvF (by unfold lvF;rw[q0g];decide)
 unfold qa5
 rw[h1]
 simp only[y5]
 rw[h2]
 simp only[y5]
 unfold lvF at h3⊢
 rw[h3]
 rfl
end
theorem ql1(n:Int):q6o 600 n=some (tab 16 fun _=>n,()):=by
 have key:∀T w:LI,w.length=16→q5r 600 600 n T w 0=some (T,tab 16 (fun _=>n),()):=by
  intro T w hw
  refine q4r 16 (fun _=>n) (fun k w i=>q5r 600 k n T w i) (fun w=>some (T,w,())) ?_ ?_ w hw 600 (by omega)
  ·intro k i w hi hw
   show qco 600 (q5r 600 k) n T w i=_
   unfold qco
   have h3:(i:Int)<16:=by omega
   simp only[h3,dT,cT,yc,yd,yb,q07 (show i<1000000000000 by omega)]
  ·intro k w hw
   rfl
 unfold q6o
 rw[key _ _ rfl]
 rfl
def oneT(v:Nat→Int):LI:=tab 64 fun j=>v (j%4)
def q0z(n:Int):LI:=tab 16 fun _=>n
theorem q6r(n:Int){j:Nat}(hj:j<16):(q0z n).getD j 0=n:=q12 hj
theorem z8s(n:Int):(q0z n).length=16:=q0g _ _
theorem z16{n:Int}(h: -9223372036854775808≤n∧n≤9223372036854775807)(j:Nat): -9223372036854775808≤(q0z n).getD j 0∧(q0z n).getD j 0≤9223372036854775807:=by
 by_cases hj:j<16
 ·rw[q6r n hj]
  exact h
 ·rw[zcr (by rw[z8s];omega)]
  decide
theorem zwb{e:Nat}{n:Int}(h:0≤n∧n<2^e):∀j,j<16→okW e (q0z n) j:=fun j hj=>by
 unfold okW
 rw[q6r n hj]
 exact h
theorem qri(e:Nat):∀j,j<16→okW e (q0z 0) j:=zwb ⟨Int.le_refl 0,Int.pow_pos (by decide)⟩
theorem j0j{low:Int}{from_ each:Nat}{w:LI}(hl:0≤low∧low<2^from_)(he:1≤each)(hfe:from_+each*16=64)(hw:∀j,j<16→okW each w j){a n:Nat}(h:a+n≤from_){v:Int}(hv' :0≤v∧v<2^n)
  (e:∀i,i<n→low/2^(a+i)%2=v/2^i%2):lv (qfl low from_ each w) a n=v:=by
 refine zb3 hv' fun q h1 h2=> ?_
 rw[zb7 hl he hfe hw (by omega),iP (by omega)]
 have:=e (q-a) (by omega)
 rwa [show a+(q-a)=q by omega]at this
theorem zmn{low:Int}{from_ each:Nat}{w:LI}(hl:0≤low∧low<2^from_)(he:1≤each)(hfe:from_+each*16=64)(hw:∀j,j<16→okW each w j){i:Nat}(hi:i<16):lv (qfl low from_ each w) (from_+each*i) each=w.getD i 0:=by
 refine zb3 (hw i hi) fun q h1 h2=> ?_
 have hm:each*i+each≤each*16:=by
  rw[←Nat.mul_succ]
  exact Nat.mul_le_mul_left _ (by omega)
 obtain⟨r,rfl⟩:∃r,q=from_+each*i+r:=⟨q-(from_+each*i),by omega⟩
 rw[zb7 hl he hfe hw (by omega),iN (by omega),show from_+each*i+r-from_=each*i+r by omega,Nat.mul_add_div (by omega),Nat.mul_add_mod,Nat.div_eq_of_lt (show r<each by omega),Nat.mod_eq_of_lt (show r<each by omega),Nat.add_zero,show from_+each*i+r-(from_+each*i)=r by omega]
theorem lv_byte{b:LI}(hb:Bytes b)(i:Nat):lv b (8*i) 8=b.getD i 0:=by
 have h:=hb.getD i
 unfold lv
 rw[qt8 (g:=fun j=>b.getD i 0/2^j%2) fun j hj=>by unfold q39 bitL;rw[show(8*i+j)/8=i by omega,show(8*i+j)%8=j by omega],qr8 _ h.1,we h.1 (by omega)]
def hexB(n:Int):LI:=qfl (n+n*2^16) 32 2 (q0z 0)
theorem zbl{n:Int}(hn:0≤n∧n≤65535)(four:Bool):zfv (hexB n) four=oneT fun c=>(colV n).getD c 0:=by
 have hl:0≤n+n*2^16∧n+n*2^16<2^32:=by omega
 have e0:lv (hexB n) 0 16=n:=j0j hl (by decide) (by decide) (qri 2) (by decide) (by omega) fun i hi=>by
  rw[qmk (by omega),iP (by omega),Nat.zero_add]
 unfold zfv oneT
 rw[e0,qgl (zme (z0u n (lv (hexB n) 16 16) four) (qzx (hexB n)))]
 refine q01 fun j hj=> ?_
 have e1:lv (hexB n) (32+2*(j/4)) 2=(q0z 0).getD (j/4) 0:=zmn hl (by decide) (by decide) (qri 2) (by omega)
 rw[j09 (z0u _ _ _) (qzx _) hj,j4h _ (by omega),e1,q6r 0 (by omega),show y6 0*4+j%4=j%4 by simp]
 unfold palV
 split
 ·simp only[ye]
  rw[yg (by show j%4<4;omega)]
 ·simp only[ye]
  rw[yg (by show j%4<4;omega)]
theorem jab{n:Int}(hn:0≤n∧n≤65535):q7h 600 n n (q0z 0)=some (hexB n,0,()):=
 j4j (by decide) hn hn (z16 (by decide)) (qri 2)
def z8t(n:Int):LI:=qfl 0 0 4 (q0z n)
theorem j0k{n:Int}(hn:0≤n∧n<16):zvj (z8t n)=q0z (q1h 4 n):=by
 show tab 16 _=tab 16 _
 refine q01 fun i hi=> ?_
 have e1:lv (z8t n) (0+4*i) 4=(q0z n).getD i 0:=zmn (low:=0) (by decide) (by decide) (by decide) (zwb hn) hi
 rw[Nat.zero_add,q6r n hi]at e1
 rw[e1]
theorem j0l{n:Int}(hn:0≤n∧n<16):q4o 600 (q0z n)=some (z8t n,0,()):=by
 have j1:=(z8c (F:=600) (by decide) (low:=0) (from_:=0) (each:=4) (w:=q0z n) (by decide) (by decide) (by decide) (z16 (by omega))).1 (zwb hn)
 simp only[yp,yq]at j1
 unfold q4o
 simp only[and_self,if_true,j1,y5,z8t]
def qko(n:Int):LI:=qfl (n+n*2^8) 16 3 (q0z 0)
theorem j2y(a b:Int):(qmv a b).getD 0 0=a:=by
 unfold qmv j68 j67
 split<;>rfl
theorem qth{n:Int}(hn:0≤n∧n≤255):qrc (qko n)=q0z n:=by
 have hl:0≤n+n*2^8∧n+n*2^8<2^16:=by omega
 have e0:(qko n).getD 0 0=n:=by
  rw[←lv_byte (b:=qko n) (qi5 _ _ _ _) 0]
  exact j0j hl (by decide) (by decide) (qri 3) (by decide) (by omega) fun i hi=>by
   rw[qmk (by omega),iP (by omega),Nat.mul_zero,Nat.zero_add]
 show tab 16 _=tab 16 _
 refine q01 fun i hi=> ?_
 have e1:lv (qko n) (16+3*i) 3=(q0z 0).getD i 0:=zmn hl (by decide) (by decide) (qri 3) hi
 have e2:(qi4 (qko n)).getD i 0=0:=by
  unfold qi4
  rw[q9w _ hi,e1,q6r 0 hi]
 rw[e0,e2]
 exact j2y _ _
theorem j59{n:Int}(hn:0≤n∧n≤255):q5j 600 n n (q0z 0)=some (qko n,0,()):=by
 obtain⟨t1,t2,t3,t4⟩:=lowTwo (a:=n) (b:=n) (by omega) (by omega)
 have j1:=(z8c (F:=600) (by decide) (low:=n+n*2^8) (from_:=16) (each:=3) (w:=q0z 0) ⟨t2,t3⟩ (by decide) (by decide) (z16 (by decide))).1 (qri 3)
 simp only[yp]at j1
 have c1:¬n<0:=by omega
 have c2:¬255<n:=by omega
 unfold q5j
 simp only[c1,c2,dF,cF,and_self,if_true,t1,j1,y5,qko]
def sixB(w:LI)(bit:Int):LI:=sL (w++w) [bit,bit] (q0z 0) 26
theorem dbl_get{w:LI}(hl:w.length=4){c:Nat}(hc:c<4):(w++w).getD c 0=w.getD c 0∧(w++w).getD (4+c) 0=w.getD c 0:=by
 simp only[ye]
 rw[yg (by omega),w9 (by omega),hl,show 4+c-4=c by omega]
 exact⟨rfl,rfl⟩
theorem j2z{w:LI}(hl:w.length=4)(hw:Rg 127 w){bit:Int}(hb:0≤bit∧bit≤1):okU (w++w) [bit,bit] (q0z 0) 26=true:=by
 unfold okU
 rw[List.all_eq_true]
 intro t ht
 have ht:=List.mem_range.1 ht
 have key:0≤sV (w++w) [bit,bit] (q0z 0) t∧sV (w++w) [bit,bit] (q0z 0) t<2^sN t:=by
  unfold sV sN
  by_cases h8:t<8
  ·rw[iP h8,iP h8]
   have hr:=q3a hw hw (t%2*4+t/2)
   omega
  rw[iN h8,iN h8]
  by_cases h10:t<10
  ·rw[iP h10,iP h10]
   have:t=8∨t=9:=by omega
   rcases this with rfl|rfl
   ·show 0≤bit∧bit<2^1
    omega
   ·show 0≤bit∧bit<2^1
    omega
  rw[iN h10,iN h10,q6r 0 (by omega)]
  split<;>decide
 simpa[okS,okV]using key
theorem zrj{w:LI}(hl:w.length=4)(hw:Rg 127 w){bit:Int}(hb:0≤bit∧bit≤1):qji (sixB w bit)=oneT fun c=>2*w.getD c 0+bit:=by
 have h1:=six_dec (j2z hl hw hb)
 have h2:=zbd (b:=sixB w bit) (q74 _ _ _ qi6 26) (j4t _ _ _)
 unfold sixB at h2
 rw[h1]at h2
 have h3:=(Prod.mk.inj (Option.some.inj h2)).1
 unfold sixB
 rw[←h3]
 unfold oneT
 refine q01 fun j hj=> ?_
 have hc:j%4<4:=by omega
 have hg:=hw (j%4)
 have e1:endV (w++w) [bit,bit] (j%4)=2*w.getD (j%4) 0+bit:=by
  unfold endV
  rw[(dbl_get hl hc).1,show j%4/4=0 by omega,we (by omega) (by omega)]
  show 2*w.getD (j%4) 0+bit%2=_
  omega
 rw[e1,q6r 0 (by omega),mx_first]
theorem j5a{x:Int}(h: -9223372036854775808≤x∧x≤9223372036854775807):IntKind.i64.has x:=has_iff.2 h
theorem sixB_is{w:LI}(hl:w.length=4)(hw:Rg 127 w){bit:Int}(hb:0≤bit∧bit≤1):qfs 600 (w++w) [bit,bit] (q0z 0)=some (sixB w bit,0,()):=by
 have hok:=j2z hl hw hb
 have h1:=Six_both (ends:=w++w) (more:=[bit,bit]) (which:=q0z 0) (fun x hx=> ?_) (fun x hx=> ?_) (fun x hx=> ?_)
 ·rw[h1,iP hok]
  rfl
 ·obtain⟨i,hi,rfl⟩:=List.getElem_of_mem hx
  have hr:=q3a hw hw i
  rw[ye,yj hi]at hr
  simp only[Option.getD_some]at hr
  exact j5a (by omega)
 ·simp only[yr,List.not_mem_nil,or_false,or_self]at hx
  exact j5a (by omega)
 ·obtain⟨i,_,rfl⟩:=List.mem_map.1 hx
  exact j5a (by omega)
def zwc(A:LI):LI:=qmp true false A [0,0,0] [0,0] (q0z 0)
theorem zwd{A:LI}(hA:Rg 31 A):Ok10 true A [0,0,0] [0,0] (q0z 0):=by
 refine⟨fun c hc=> ?_,fun i hi=> ?_,by decide,by decide⟩
 ·have:=hA c
  have:c=0∨c=1∨c=2:=by omega
  rcases this with rfl|rfl|rfl<;>exact⟨hA _,by decide⟩
 ·rw[q6r 0 hi]
  decide
theorem j30{A:LI}(hl:A.length=3)(hA:Rg 31 A):j6m (zwc A)=oneT fun c=>if c=3 then 255 else q4g (q1h 5 (A.getD c 0)+2):=by
 have h:=eP_join (f:=false) (zwd hA) hl rfl rfl (z8s 0)
 have e:j6m (zwc A)=qj3 true false A [0,0,0] [0,0] (q0z 0):=by
  unfold eP at h
  simp only[ym]at h
  obtain⟨h1,h2,h3,h4,h5,h6,_⟩:=h
  unfold j6m zwc
  rw[h5,h6,h3,h4,h1,h2]
 rw[e,qgl (z5g true false A [0,0,0] [0,0] (q0z 0))]
 unfold oneT
 refine q01 fun j hj=> ?_
 rw[←ja4,show((qj3 true false A [0,0,0] [0,0] (q0z 0)).drop (j/4*4)).take 4=zzt (q22 true A [0,0,0]) [0,0] (q0z 0) false (j/4)from qzv _ (fun _ _=>rfl) (by omega)]
 have hh:=qzz false ((j/4:Nat):Int)
 have ha:j2h [0,0] (q0z 0) false (j/4)=2:=by
  unfold j2h
  rw[q6r 0 (by omega)]
  have:q3g false ((j/4:Nat):Int)=0∨q3g false ((j/4:Nat):Int)=1:=by omega
  rcases this with h0|h0<;>rw[h0]<;>rfl
 have hz:∀x:Int,x+0=x:=Int.add_zero
 unfold zzt
 rw[ha]
 have hc:j%4=0∨j%4=1∨j%4=2∨j%4=3:=by omega
 have hs:q3g false ((j/4:Nat):Int)=0∨q3g false ((j/4:Nat):Int)=1:=by omega
 rcases hs with h0|h0
 ·rcases hc with h4|h4|h4|h4<;>rw[h4,h0]<;>rfl
 ·have b0:n10 true A [0,0,0] 0=A.getD 0 0:=hz _
  have b1:n10 true A [0,0,0] 1=A.getD 1 0:=hz _
  have b2:n10 true A [0,0,0] 2=A.getD 2 0:=hz _
  unfold q22
  rw[b0,b1,b2]
  rcases hc with h4|h4|h4|h4<;>rw[h4,h0]<;>rfl
theorem liftB_is{A:LI}(hA:Rg 31 A):qlf 600 (true,false,A,[0,0,0],[0,0],q0z 0,())=some (zwc A,0,()):=by
 have h0:∀l:LI,Rg 31 l→Is64 l:=fun l hl i=>j5a (by have:=hl i;omega)
 have h1:Rg 31 [0,0,0]:=q0p (by decide) (q0p (by decide) (q0p (by decide) (qvs (by decide))))
 have h2:Rg 31 [0,0]:=q0p (by decide) (q0p (by decide) (qvs (by decide)))
 have h3:Rg 31 (q0z 0):=q92 (by decide) fun _ _=>by decide
 have h4:=j9i (F:=600) (by decide) true false (h0 _ hA) (h0 _ h1) (h0 _ h2) (h0 _ h3)
 rw[h4,iP (zwd hA)]
 rfl
theorem jac{x:Int}(h:0≤x∧x≤255):q4g x=x:=by unfold q4g;omega
theorem j74(x y z:Int)(c:Nat):0≤(qf6 x y z).getD c 0∧(qf6 x y z).getD c 0≤255:=
 (q0p (q0v (by decide) _) (q0p (q0v (by decide) _) (q0p (q0v (by decide) _) (q0p (by decide) (qvs (by decide)))))) c
theorem j75{o:LI}(ho:∀c,0≤o.getD c 0∧o.getD c 0≤255)(h3:o.getD 3 0=255)(j:Nat):q5z o o o j=o.getD (j%4) 0:=by
 unfold q5z qvr
 split
 ·rename_i h
  rw[h,h3]
 ·rw[Int.sub_self,Int.mul_zero,Int.mul_zero,Int.add_zero,Int.zero_add]
  have:=ho (j%4)
  rw[show(4*o.getD (j%4) 0+2)/4=o.getD (j%4) 0 by omega,jac this]
theorem jad{n:LI}(h:ok3 n)(p:Bool):tab 64 (qmr (layV n n n) p)=oneT fun c=>(qf6 (n.getD 0 0) (n.getD 1 0) (n.getD 2 0)).getD c 0:=by
 unfold oneT
 refine q01 fun j hj=> ?_
 rw[lay_dec]
 unfold z5e
 obtain⟨h1,h2,h3⟩:=j2p (o:=n) (h:=n) (v:=n) ⟨h,h,h⟩
 rw[h1,h2,h3,j75 (j74 _ _ _) rfl]
theorem layB_is{x y z:Int}(h:ok3 [x,y,z]):qpo 600 [x,y,z] [x,y,z] [x,y,z]=some (layV [x,y,z] [x,y,z] [x,y,z],0,()):=by
 obtain⟨⟨a1,a2⟩,⟨b1,b2⟩,⟨c1,c2⟩⟩:=h
 simp only[yt,yu]at a1 a2 b1 b2 c1 c2
 have r:Rg 127 [x,y,z]:=q0p (by omega) (q0p (by omega) (q0p (by omega) (qvs (by decide))))
 have h64:∀i,I64 (([x,y,z]++([x,y,z]++[x,y,z])).getD i 0):=fun i=>by
  have:=q3a r (q3a r r) i
  unfold I64
  omega
 have hk:ok3 [x,y,z]:=⟨⟨a1,a2⟩,⟨b1,b2⟩,⟨c1,c2⟩⟩
 rw[(lay_is rfl rfl rfl h64).1,iP ⟨hk,hk,hk⟩]
theorem table0:q6l 600 0=some ([-3,-6,-9,-15,2,5,8,14],()):=by kernel_rfl
theorem table13:q6l 600 13=some ([-1,-2,-3,-10,0,1,2,9],()):=by kernel_rfl
theorem qic{base times table n:Int}(h1:0≤base∧base≤255)(h2:0≤times∧times≤15)(h3:0≤table∧table≤15)(h4:0≤n∧n≤7):EacFit base times table (q0z n):=
 ⟨h1,h2,h3,z8s n,fun i hi=>by rw[q6r n hi];exact h4⟩
theorem zrk{base times table n:Int}(h1:0≤base∧base≤255)(h2:0≤times∧times≤15)(h3:0≤table∧table≤15)(h4:0≤n∧n≤7):
  hv (eacJ base times table (q0z n) 19) 0 8=base∧hv (eacJ base times table (q0z n) 19) 8 4=times∧hv (eacJ base times table (q0z n) 19) 12 4=table∧∀i,i<16→(eacW (eacJ base times table (q0z n) 19)).getD i 0=n:=by
 have hf:=qic h1 h2 h3 h4
 refine⟨zw2 hf (j:=0) (by decide),zw2 hf (j:=1) (by decide),zw2 hf (j:=2) (by decide),fun i hi=> ?_⟩
 rw[j52 _ hi]
 have:=zw2 hf (j:=i+3) (by omega)
 rw[show eacV base times table (q0z n) (i+3)=(q0z n).getD i 0 from rfl,q6r n hi]at this
 exact this
theorem j76{n:Int}(h:0≤n∧n≤255):eacL (eacJ n 0 0 (q0z 0) 19) false=q0z n:=by
 obtain⟨p1,p2,p3,p4⟩:=zrk (base:=n) (times:=0) (table:=0) (n:=0) h (by decide) (by decide) (by decide)
 unfold eacL
 rw[p1,p2,p3,table0]
 show tab 16 _=tab 16 _
 refine q01 fun i hi=> ?_
 rw[p4 i hi]
 unfold qo8
 simp only[yn,if_false,Int.mul_zero,Int.add_zero]
 omega
theorem zmo{n:Int}(h:0≤n∧n≤255):eacL (eacJ n 1 13 (q0z 4) 19) true=q0z (8*n+4):=by
 obtain⟨p1,p2,p3,p4⟩:=zrk (base:=n) (times:=1) (table:=13) (n:=4) h (by decide) (by decide) (by decide)
 unfold eacL
 rw[p1,p2,p3,table13]
 show tab 16 _=tab 16 _
 refine q01 fun i hi=> ?_
 rw[p4 i hi,show([-1,-2,-3,-10,0,1,2,9]:LI).getD (y6 4) 0=0 from rfl]
 unfold qo8
 rw[iP rfl,iN (by decide),Int.zero_mul,Int.add_zero]
 omega
def zfw:LI:=[0,0,0,0,255,255,0,0]
theorem zmp:Bytes zfw:=fun x hx=>by
 unfold zfw at hx
 simp only[yr,List.not_mem_nil,or_false]at hx
 omega
theorem zwe:q8g 600 9 zfw=some (tab 64 fun _=>0,0,()):=by kernel_rfl
theorem j31:tab 64 (qmr zfw true)=oneT fun _=>0:=by
 have h:=z5k zmp (k:=9) ⟨by decide,by decide⟩ rfl
 simp only[yp]at h
 rw[zwe]at h
 exact(Prod.mk.inj (Option.some.inj h)).1.symm
def bN(L s:LI)(c:Nat):Int:=(qwa L (colT s c):Int)
theorem z8u{L:LI}(h:0<L.length)(s:LI)(c:Nat):0≤bN L s c∧bN L s c<(L.length:Int):=by
 have:=zw9 (L:=L) (l:=colT s c) h
 unfold bN
 omega
theorem zwf(b:Nat):(lvW b).length=2^b:=q0g _ _
theorem zbm:lvP.length=256:=q0g _ _
theorem zbn(bit:Int):(lvS bit).length=128:=q0g _ _
theorem j32:lvL.length=32:=q0g _ _
theorem j33:lvF.length=256:=q0g _ _
theorem bN_W{b:Nat}(hb:1≤b∧b≤8)(s:LI)(c:Nat):0≤bN (lvW b) s c∧bN (lvW b) s c<((2^b:Nat):Int):=by
 have:=z8u (L:=lvW b) (by rw[zwf];have:=pow_b hb;omega) s c
 rwa [zwf]at this
theorem bN_P(s:LI)(c:Nat):0≤bN lvP s c∧bN lvP s c≤255:=by
 have:=z8u (L:=lvP) (by rw[zbm];decide) s c
 rw[zbm]at this
 omega
theorem bN_S(bit:Int)(s:LI)(c:Nat):0≤bN (lvS bit) s c∧bN (lvS bit) s c≤127:=by
 have:=z8u (L:=lvS bit) (by rw[zbn];decide) s c
 rw[zbn]at this
 omega
theorem bN_L(s:LI)(c:Nat):0≤bN lvL s c∧bN lvL s c≤31:=by
 have:=z8u (L:=lvL) (by rw[j32];decide) s c
 rw[j32]at this
 omega
theorem bN_F(s:LI)(c:Nat):0≤bN lvF s c∧bN lvF s c≤255:=by
 have:=z8u (L:=lvF) (by rw[j33];decide) s c
 rw[j33]at this
 omega
def hexN(s:LI):Int:=bN (lvW 5) s 0*2048+bN (lvW 6) s 1*32+bN (lvW 5) s 2
theorem qrj(s:LI):0≤hexN s∧hexN s≤65535:=by
 have h0:=bN_W (b:=5) (by decide) s 0
 have h1:=bN_W (b:=6) (by decide) s 1
 have h2:=bN_W (b:=5) (by decide) s 2
 unfold hexN
 omega
theorem hex_or{a b c:Int}(ha:0≤a∧a<32)(hb:0≤b∧b<64)(hc:0≤c∧c<32):ior .i64 (ior .i64 (ishl .i64 a 11) (ishl .i64 b 5)) c=a*2048+b*32+c:=by
 obtain⟨a,rfl⟩:=yh ha.1
 obtain⟨b,rfl⟩:=yh hb.1
 obtain⟨c,rfl⟩:=yh hc.1
 have s1:=ishl64 (a:=a) (k:=11) (by decide) (by omega)
 have s2:=ishl64 (a:=b) (k:=5) (by decide) (by omega)
 have o1:=ior64 (a:=a) (b:=b*2^5) (k:=11) (by omega) (by omega)
 have o2:=ior64 (a:=a*2^6+b) (b:=c) (k:=5) (by omega) (by omega)
 simp only[yp]at s1 s2
 rw[s1,s2,o1,show a*2^11+b*2^5=(a*2^6+b)*2^5 by omega,o2]
 omega
section
variable {t:LI} (hl:t.length=64) (ht:Rg 2047 t)
include hl ht
theorem zwg:z0q 600 t=some (hexB (hexN t),()):=by
 have h0:=qms hl ht (c:=0) (by decide) (b:=5) (by decide)
 have h1:=qms hl ht (c:=1) (by decide) (b:=6) (by decide)
 have h2:=qms hl ht (c:=2) (by decide) (b:=5) (by decide)
 simp only[yp,yq,Int.natCast_one]at h0 h1 h2
 have b0:=bN_W (b:=5) (by decide) t 0
 have b1:=bN_W (b:=6) (by decide) t 1
 have b2:=bN_W (b:=5) (by decide) t 2
 have e:=hex_or (a:=bN (lvW 5) t 0) (b:=bN (lvW 6) t 1) (c:=bN (lvW 5) t 2) ⟨b0.1,b0.2⟩ ⟨b1.1,b1.2⟩ ⟨b2.1,b2.2⟩
 have hj:=jab (qrj t)
 have hs:=ql1 0
 unfold bN at e
 unfold q0z at hj
 unfold z0q
 simp only[h0,h1,h2,y5,e,hs]
 have en:(qwa (lvW 5) (colT t 0):Int)*2048+(qwa (lvW 6) (colT t 1):Int)*32+(qwa (lvW 5) (colT t 2):Int)=hexN t:=rfl
 rw[en,hj]
 simp only[y5]
theorem z8v{c:Nat}(hc:c<4):qlj 600 t c=some (qko (bN lvP t c),()):=by
 have h0:=zri hl ht hc
 have hs:=ql1 0
 have hj:=j59 (bN_P t c)
 unfold q0z bN at hj
 unfold qlj
 simp only[h0,y5,hs,hj]
 rfl
theorem zmq{c:Nat}(hc:c<4):qky 600 t c=some (eacJ (bN lvF t c) 1 13 (q0z 4) 19,()):=by
 have h0:=jaa hl ht hc
 have hs:=ql1 4
 have hj:=ja2 (F:=600) (by decide) (qic (base:=bN lvF t c) (times:=1) (table:=13) (n:=4) (by have:=bN_F t c;omega) (by decide) (by decide) (by decide))
 unfold q0z bN at hj
 unfold qky
 simp only[h0,y5,hs,hj]
 rfl
def plN(s:LI):LI:=[bN (lvW 6) s 0,bN (lvW 7) s 1,bN (lvW 6) s 2]
omit hl ht in
theorem jae(s:LI):ok3 (plN s):=by
 have b0:=bN_W (b:=6) (by decide) s 0
 have b1:=bN_W (b:=7) (by decide) s 1
 have b2:=bN_W (b:=6) (by decide) s 2
 exact⟨⟨b0.1,b0.2⟩,⟨b1.1,b1.2⟩,⟨b2.1,b2.2⟩⟩
def plB(s:LI):LI:=layV (plN s) (plN s) (plN s)
theorem z5l:qg1 600 t=some (plB t,()):=by
 have h0:=qms hl ht (c:=0) (by decide) (b:=6) (by decide)
 have h1:=qms hl ht (c:=1) (by decide) (b:=7) (by decide)
 have h2:=qms hl ht (c:=2) (by decide) (b:=6) (by decide)
 simp only[yp,yq,Int.natCast_one]at h0 h1 h2
 have hj:=layB_is (jae t)
 unfold bN at hj
 unfold qg1
 simp only[h0,h1,h2,y5,hj]
 rfl
theorem j0m(A T S U:LI)(hA:A.length=3):q6z 600 600 t A T S U 0=some (tab 3 fun c=>bN lvL t c,T,S,U,()):=by
 refine q4r 3 (fun c=>bN lvL t c) (fun k w i=>q6z 600 k t w T S U i) (fun w=>some (w,T,S,U,())) ?_ ?_ A hA 600 (by omega)
 ·intro k i w hi hw
  show qec 600 (q6z 600 k) _ _ _ _ _ _=_
  unfold qec
  have h3:(i:Int)<3:=by omega
  simp only[h3,dT,cT,j73 hl ht (show i<4 by omega),y5,yc,yd,yb,q07 (show i<1000000000000 by omega)]
  rfl
 ·intro k w hw
  rfl
def liN(s:LI):LI:=tab 3 fun c=>bN lvL s c
theorem j34:qse 600 t=some (zwc (liN t),()):=by
 have hj:=liftB_is (A:=liN t) (q92 (by decide) fun c _=>bN_L t c)
 unfold qse
 rw[j0m hl ht _ _ _ _ rfl]
 simp only[y5]
 rw[show q0a=q0z 0 from rfl,show(tab 3 fun c=>bN lvL t c)=liN t from rfl,hj]
 simp only[y5]
theorem jaf(bit:Int)(hb:0≤bit∧bit≤1)(A:LI)(hA:A.length=4):q6y 600 600 t bit A 0=some (bit,tab 4 fun c=>bN (lvS bit) t c,()):=by
 refine q4r 4 (fun c=>bN (lvS bit) t c) (fun k w i=>q6y 600 k t bit w i) (fun w=>some (bit,w,())) ?_ ?_ A hA 600 (by omega)
 ·intro k i w hi hw
  show qeb 600 (q6y 600 k) _ _ _ _=_
  unfold qeb
  have h3:(i:Int)<4:=by omega
  simp only[h3,dT,cT,sixb_is hl ht (show i<4 by omega) hb,y5,yc,yd,yb,q07 (show i<1000000000000 by omega)]
  rfl
 ·intro k w hw
  rfl
def siN(bit:Int)(s:LI):LI:=tab 4 fun c=>bN (lvS bit) s c
theorem j5b{bit:Int}(hb:0≤bit∧bit≤1):qlk 600 bit t=some (sixB (siN bit t) bit,()):=by
 have hj:=sixB_is (w:=siN bit t) (q0g _ _) (q92 (by decide) fun c _=>bN_S bit t c) hb
 have hs:=ql1 0
 unfold qlk
 rw[jaf hl ht bit hb _ rfl]
 simp only[y5]
 rw[hs]
 simp only[y5]
 rw[show(tab 16 fun _=>(0:Int))=q0z 0 from rfl,show(tab 4 fun c=>bN (lvS bit) t c)=siN bit t from rfl,hj]
 simp only[y5]
end
theorem j0n{t:LI}(hl:t.length=64){i:Nat}(hi:i<16):∀(d c k:Nat),c+d=4→d<k→
  q3r 600 k t (i:Int) (y8 4 (y9 (i*4) t)) (c:Int)=some (.inl ())∨(q3r 600 k t (i:Int) (y8 4 (y9 (i*4) t)) (c:Int)=some (.inr (t,(i:Int),()))∧∀c',c≤c' →c' <4→0≤t.getD (i*4+c') 0∧t.getD (i*4+c') 0≤255):=by
 intro d
 induction d with
 |zero=>
  intro c k h1 h2
  obtain⟨k,rfl⟩:∃k',k=k' +1:=⟨k-1,by omega⟩
  obtain rfl:c=4:=by omega
  exact .inr ⟨rfl,fun c' h h' =>by omega⟩
 |succ d ih=>
  intro c k h1 h2
  obtain⟨k,rfl⟩:∃k',k=k' +1:=⟨k-1,by omega⟩
  have e:q3r 600 (k+1) t (i:Int) (y8 4 (y9 (i*4) t)) (c:Int)=q9j 600 (q3r 600 k) t i (y8 4 (y9 (i*4) t)) c:=rfl
  rw[e]
  unfold q9j
  have h4:(c:Int)<4:=by omega
  simp only[h4,dT,cT,yc,yd,yb,q07 (show c<1000000000000 by omega),zct hl hi (show c<4 by omega)]
  by_cases v1:t.getD (i*4+c) 0<0
  ·left
   simp only[v1,dT,cT]
  ·simp only[v1,dF,cF]
   by_cases v2:255<t.getD (i*4+c) 0
   ·left
    simp only[v2,dT,cT]
   ·simp only[v2,dF,cF]
    rcases ih (c+1) k (by omega) (by omega)with h|⟨h,h'⟩
    ·exact .inl h
    ·refine .inr ⟨h,fun c' g1 g2=> ?_⟩
     by_cases hc:c' =c
     ·subst hc;omega
     ·exact h' c' (by omega) g2
theorem j0o{t:LI}(hl:t.length=64):∀(d i k:Nat),i+d=16→d<k→
  q3s 600 k t (i:Int)=some (.inl ())∨(q3s 600 k t (i:Int)=some (.inr ())∧∀j,i*4≤j→j<64→0≤t.getD j 0∧t.getD j 0≤255):=by
 intro d
 induction d with
 |zero=>
  intro i k h1 h2
  obtain⟨k,rfl⟩:∃k',k=k' +1:=⟨k-1,by omega⟩
  obtain rfl:i=16:=by omega
  exact .inr ⟨rfl,fun j h h' =>by omega⟩
 |succ d ih=>
  intro i k h1 h2
  obtain⟨k,rfl⟩:∃k',k=k' +1:=⟨k-1,by omega⟩
  have e:q3s 600 (k+1) t (i:Int)=q9k 600 (q3s 600 k) t i:=rfl
  rw[e]
  unfold q9k
  have h3:(i:Int)<16:=by omega
  simp only[h3,dT,cT,yc,yd,yb]
  rcases j0n hl (i:=i) (by omega) 4 0 600 (by omega) (by omega)with h|⟨h,h'⟩
  ·left
   rw[show((0:Nat):Int)=0 from rfl]at h
   rw[h]
   rfl
  ·rw[show((0:Nat):Int)=0 from rfl]at h
   rw[h]
   simp only[y5,q07 (show i<1000000000000 by omega)]
   rcases ih (i+1) k (by omega) (by omega)with g|⟨g,g'⟩
   ·exact .inl g
   ·refine .inr ⟨g,fun j h1 h2=> ?_⟩
    by_cases hj:j<(i+1)*4
    ·have:=h' (j-i*4) (by omega) (by omega)
     rwa [show i*4+(j-i*4)=j by omega]at this
    ·exact g' j (by omega) h2
theorem zwh{t:LI}(hl:t.length=64):(q69 600 t=some (true,())∧Rg 255 t)∨q69 600 t=some (false,()):=by
 unfold q69
 rcases j0o hl 16 0 600 (by omega) (by omega)with h|⟨h,h'⟩
 ·right
  rw[show((0:Nat):Int)=0 from rfl]at h
  rw[h]
  rfl
 ·left
  rw[show((0:Nat):Int)=0 from rfl]at h
  rw[h]
  refine⟨rfl,fun j=> ?_⟩
  by_cases hj:j<64
  ·exact h' j (by omega) hj
  ·rw[zcr (by omega)]
   decide
def z8w(k:Nat)(s a b:LI):LI:=if qfe k b s<qfe k a s then b else a
theorem jag{k:Nat}(h:Fmt k){s a b:LI}(hl:s.length=64)(hs:Rg 255 s)(ha:Bytes a)(hb:Bytes b)(la:a.length=q5w k)(lb:b.length=q5w k):qll 600 k s a b=some (z8w k s a b,()):=by
 unfold qll z8w
 rw[z13 ha h la hl hs,z13 hb h lb hl hs]
 simp only[y5]
 by_cases hlt:qfe k b s<qfe k a s
 ·simp only[hlt,dT,cT,if_true]
 ·simp only[hlt,dF,cF,if_false]
def qc4(k:Nat)(s:LI):LI:=match k with
 |1=>hexB (hexN s)
 |2=>z8t (bN (lvW 4) s 3)++hexB (hexN s)
 |3=>qko (bN lvP s 3)++hexB (hexN s)
 |4=>qko (bN lvP s 0)
 |5=>qko (bN lvP s 0)++qko (bN lvP s 1)
 |6=>z8w 6 s (sixB (siN 0 s) 0) (sixB (siN 1 s) 1)
 |7=>zwc (liN s)
 |8=>plB s
 |9=>z8w 9 s (plB s) zfw
 |10=>eacJ (bN lvP s 3) 0 0 (q0z 0) 19++plB s
 |11=>eacJ (bN lvF s 0) 1 13 (q0z 4) 19
 |_=>eacJ (bN lvF s 0) 1 13 (q0z 4) 19++eacJ (bN lvF s 1) 1 13 (q0z 4) 19
def Okb(n:Nat)(b:LI):Prop:=Bytes b∧b.length=n
theorem zmr{n m:Nat}{a b:LI}(ha:Okb n a)(hb:Okb m b):Okb (n+m) (a++b):=
 ⟨fun x hx=>(yk.1 hx).elim (ha.1 x) (hb.1 x),by rw[yo,ha.2,hb.2]⟩
theorem j5c{n k:Nat}{s a b:LI}(ha:Okb n a)(hb:Okb n b):Okb n (z8w k s a b):=by
 unfold z8w
 split
 ·exact hb
 ·exact ha
theorem qti(n:Int):Okb 8 (hexB n):=⟨qi5 _ _ _ _,qgk _ _ _ _⟩
theorem z08(n:Int):Okb 8 (z8t n):=⟨qi5 _ _ _ _,qgk _ _ _ _⟩
theorem q8v(n:Int):Okb 8 (qko n):=⟨qi5 _ _ _ _,qgk _ _ _ _⟩
theorem qcv(w:LI)(bit:Int):Okb 16 (sixB w bit):=⟨q74 _ _ _ qi6 26,j4t _ _ _⟩
theorem jah(A:LI):Okb 8 (zwc A):=⟨zzw _ _ _ _ _ _,j6p _ _ _ _ _ _⟩
theorem z42(s:LI):Okb 8 (plB s):=j2n _ _ _
theorem zgh(a b c:Int)(w:LI):Okb 8 (eacJ a b c w 19):=⟨j72 _ _ _ _,qcu _ _ _ _⟩
theorem bareB_ok:Okb 8 zfw:=⟨zmp,rfl⟩
theorem qob(s:LI){k:Nat}(h:Fmt k):Okb (q5w k) (qc4 k s):=
 qfa (p:=fun k=>Okb (q5w k) (qc4 k s)) (qti _) (zmr (z08 _) (qti _)) (zmr (q8v _) (qti _)) (q8v _) (zmr (q8v _) (q8v _)) (j5c (qcv _ _) (qcv _ _)) (jah _) (z42 _)
  (j5c (z42 _) bareB_ok) (zmr (zgh _ _ _ _) (z42 _)) (zgh _ _ _ _) (zmr (zgh _ _ _ _) (zgh _ _ _ _)) h
section
variable {t:LI} (hl:t.length=64)
include hl
theorem blk_1(ht:Rg 255 t):q0q 600 1 t=some (qc4 1 t,()):=by
 have h:=zwg hl (q1r ht (by decide))
 unfold q0q
 simp only[Int.reduceBEq,cF,h,y5]
 rfl
theorem blk_2(ht:Rg 255 t):q0q 600 2 t=some (qc4 2 t,()):=by
 have h:=zwg hl (q1r ht (by decide))
 have h1:=qms hl (q1r ht (by decide)) (c:=3) (by decide) (b:=4) (by decide)
 have h2:=j0l (n:=bN (lvW 4) t 3) (bN_W (b:=4) (by decide) t 3)
 simp only[yp]at h1
 unfold q0z bN at h2
 unfold q0q
 simp only[Int.reduceBEq,cT,h1,ql1,h2,h,y5,(z08 _).2,(qti _).2,show(8+8≤1099511627776)=True by simp,dT,yd]
 rfl
theorem blk_3(ht:Rg 255 t):q0q 600 3 t=some (qc4 3 t,()):=by
 have h:=zwg hl (q1r ht (by decide))
 have h1:=z8v hl (q1r ht (by decide)) (c:=3) (by decide)
 simp only[yp]at h1
 unfold q0q
 simp only[Int.reduceBEq,cT,cF,h1,h,y5,(q8v _).2,(qti _).2,show(8+8≤1099511627776)=True by simp,dT,yd]
 rfl
theorem blk_4(ht:Rg 255 t):q0q 600 4 t=some (qc4 4 t,()):=by
 have h1:=z8v hl (q1r ht (by decide)) (c:=0) (by decide)
 simp only[yq]at h1
 unfold q0q
 simp only[Int.reduceBEq,cT,cF,h1,y5]
 rfl
theorem blk_5(ht:Rg 255 t):q0q 600 5 t=some (qc4 5 t,()):=by
 have h1:=z8v hl (q1r ht (by decide)) (c:=0) (by decide)
 have h2:=z8v hl (q1r ht (by decide)) (c:=1) (by decide)
 simp only[yq,Int.natCast_one]at h1 h2
 unfold q0q
 simp only[Int.reduceBEq,cT,cF,h1,h2,y5,(q8v _).2,show(8+8≤1099511627776)=True by simp,dT,yd]
 rfl
theorem blk_6(ht:Rg 255 t):q0q 600 6 t=some (qc4 6 t,()):=by
 have h1:=j5b hl (q1r ht (by decide)) (bit:=0) (by decide)
 have h2:=j5b hl (q1r ht (by decide)) (bit:=1) (by decide)
 have h3:=jag (k:=6) ⟨by decide,by decide⟩ hl ht (qcv (siN 0 t) 0).1 (qcv (siN 1 t) 1).1 (qcv (siN 0 t) 0).2 (qcv (siN 1 t) 1).2
 simp only[yp]at h3
 unfold q0q zsd
 simp only[Int.reduceBEq,cT,cF,h1,h2,h3,y5]
 rfl
theorem blk_7(ht:Rg 255 t):q0q 600 7 t=some (qc4 7 t,()):=by
 have h:=j34 hl (q1r ht (by decide))
 unfold q0q
 simp only[Int.reduceBEq,cT,cF,h,y5]
 rfl
theorem blk_8(ht:Rg 255 t):q0q 600 8 t=some (qc4 8 t,()):=by
 have h:=z5l hl (q1r ht (by decide))
 unfold q0q
 simp only[Int.reduceBEq,cT,cF,h,y5]
 rfl
theorem blk_9(ht:Rg 255 t):q0q 600 9 t=some (qc4 9 t,()):=by
 have h:=z5l hl (q1r ht (by decide))
 have h3:=jag (k:=9) ⟨by decide,by decide⟩ hl ht (z42 t).1 bareB_ok.1 (z42 t).2 bareB_ok.2
 simp only[yp]at h3
 unfold q0q
 rw[show qam=zfw from rfl]
 simp only[Int.reduceBEq,cT,cF,h,h3,y5]
 rfl
theorem blk_10(ht:Rg 255 t):q0q 600 10 t=some (qc4 10 t,()):=by
 have h:=z5l hl (q1r ht (by decide))
 have h1:=zri hl (q1r ht (by decide)) (c:=3) (by decide)
 have h2:=ja2 (F:=600) (by decide) (qic (base:=bN lvP t 3) (times:=0) (table:=0) (n:=0) (bN_P t 3) (by decide) (by decide) (by decide))
 simp only[yp]at h1
 unfold q0z bN at h2
 unfold q0q
 simp only[Int.reduceBEq,cT,cF,h1,ql1,h2,h,y5,(z42 _).2,qcu,show(8+8≤1099511627776)=True by simp,dT,yd]
 rfl
theorem blk_11(ht:Rg 2047 t):q0q 600 11 t=some (qc4 11 t,()):=by
 have h1:=zmq hl ht (c:=0) (by decide)
 simp only[yq]at h1
 unfold q0q
 simp only[Int.reduceBEq,cT,cF,h1,y5]
 rfl
theorem blk_12(ht:Rg 2047 t):q0q 600 12 t=some (qc4 12 t,()):=by
 have h1:=zmq hl ht (c:=0) (by decide)
 have h2:=zmq hl ht (c:=1) (by decide)
 simp only[yq,Int.natCast_one]at h1 h2
 unfold q0q
 simp only[Int.reduceBEq,cT,cF,h1,h2,y5,qcu,show(8+8≤1099511627776)=True by simp,dT,yd]
 rfl
theorem blk_is{k:Nat}(h:Fmt k):Rg (zcs k) t→q0q 600 k t=some (qc4 k t,()):=
 qfa (p:=fun k=>Rg (zcs k) t→q0q 600 (k:Int) t=some (qc4 k t,())) (fun h=>blk_1 hl h) (fun h=>blk_2 hl h) (fun h=>blk_3 hl h) (fun h=>blk_4 hl h) (fun h=>blk_5 hl h) (fun h=>blk_6 hl h) (fun h=>blk_7 hl h) (fun h=>blk_8 hl h) (fun h=>blk_9 hl h) (fun h=>blk_10 hl h) (fun h=>blk_11 hl h) (fun h=>blk_12 hl h) h
end
theorem sqN(x:Int):0≤x*x:=(qoa (m:=(x.natAbs:Int)) (by omega)).1
theorem costL_alike{n v:Int}:qj5 (q0z n) v=0↔v=n:=by
 unfold qj5
 rw[zmh fun i _=>sqN _,z8s]
 constructor
 ·intro h
  have:=h 0 (by decide)
  rw[q6r n (by decide),j2u]at this
  omega
 ·intro h i hi
  rw[q6r n hi,h,Int.sub_self]
  rfl
theorem j0p(l:LI)(v:Int):0≤qj5 l v:=by
 unfold qj5
 have key:∀n,0≤sumN (fun i=>(l.getD i 0-v)*(l.getD i 0-v)) n:=by
  intro n
  induction n with
  |zero=>exact Int.le_refl 0
  |succ n ih=>
   unfold sumN
   have:=sqN (l.getD n 0-v)
   omega
 exact key _
theorem zrl{L:LI}{n:Int}{i:Nat}(hi:i<L.length)(h:L.getD i 0=n):L.getD (qwa L (q0z n)) 0=n:=by
 have h1:=bestV_le L (q0z n) hi
 rw[h,costL_alike.2 rfl]at h1
 have h2:=j0p (q0z n) (L.getD (qwa L (q0z n)) 0)
 exact costL_alike.1 (by omega)
theorem j5d(v:Nat→Int){c:Nat}(hc:c<4):colT (oneT v) c=q0z (v c):=by
 unfold colT
 show tab 16 _=tab 16 _
 refine q01 fun i hi=> ?_
 rw[show oneT v=tab 64 fun j=>v (j%4)from rfl,q12 (show i*4+c<64 by omega),show(i*4+c)%4=c by omega]
theorem z09{m:Int}(hm:0≤m){v:Nat→Int}(h:∀c,c<4→0≤v c∧v c≤m):Rg m (oneT v):=q92 hm fun j _=>h _ (by omega)
theorem six_is{bit:Int}(hb:0≤bit∧bit≤1)(s:LI):qfe 6 (sixB (siN bit s) bit) s=errS 15 s (oneT fun c=>2*(siN bit s).getD c 0+bit):=by
 have h:=zrj (w:=siN bit s) (q0g _ _) (q92 (by decide) fun c _=>bN_S bit s c) hb
 show errS 15 s (qji (sixB (siN bit s) bit))=_
 rw[h]
theorem j35(bit:Int)(s:LI){c:Nat}(hc:c<4):(siN bit s).getD c 0=bN (lvS bit) s c:=q12 hc
theorem jai{v:Nat→Int}(hv:∀c,c<4→0≤v c∧v c≤255){bit:Int}(hb:0≤bit∧bit≤1)(h:∀c,c<4→v c%2=bit):qfe 6 (sixB (siN bit (oneT v)) bit) (oneT v)=0:=by
 rw[six_is hb,j0c (q1r (z09 (by decide) hv) (by decide)) (q1r (z09 (m:=255) (by decide) fun c hc=>by rw[j35 _ _ hc];have:=bN_S bit (oneT v) c;omega) (by decide))]
 intro j hj _
 have hc:j%4<4:=by omega
 rw[show(oneT v).getD j 0=v (j%4)from q12 hj,show(oneT fun c=>2*(siN bit (oneT v)).getD c 0+bit).getD j 0=2*(siN bit (oneT v)).getD (j%4) 0+bit from q12 hj,j35 _ _ hc]
 unfold bN
 rw[j5d v hc]
 have h1:=hv _ hc
 have h2:=h _ hc
 have h3:=zrl (L:=lvS bit) (n:=v (j%4)) (i:=(v (j%4)/2).toNat) (by rw[zbn];omega) (by
  unfold lvS
  rw[q12 (by omega)]
  omega)
 have h4:=zw9 (L:=lvS bit) (l:=q0z (v (j%4))) (by rw[zbn];decide)
 rw[zbn]at h4
 unfold lvS at h3⊢
 unfold lvS at h4
 rw[q12 h4]at h3
 exact h3.symm
theorem jaj{k:Nat}{s a b:LI}(h:qfe k a s=0∨qfe k b s=0)(ha:0≤qfe k a s)(hb:0≤qfe k b s):qfe k (z8w k s a b) s=0:=by
 unfold z8w
 split<;>omega
theorem zcu{k:Nat}(h:Fmt k){b s:LI}(hb:Bytes b)(hs:Rg 255 s):0≤qfe k b s:=
 j2v (q1r (zmg hs) (qrh k)) (q1r (zw7 hb h) (qrh k))
def zq8:LI:=oneT fun c=>[7,1,2,3].getD c 0
def zwi:LI:=oneT fun c=>[1,3,255,7].getD c 0
def mix14:LI:=oneT fun c=>[1,2,255,7].getD c 0
theorem qrk{p:Nat→Prop}(h0:p 0)(h1:p 1)(h2:p 2)(h3:p 3):∀c,c<4→p c:=fun c hc=>by
 have:c=0∨c=1∨c=2∨c=3:=by omega
 rcases this with rfl|rfl|rfl|rfl<;>assumption
theorem rg_red:Rg 255 zq8:=z09 (by decide) (qrk (by decide) (by decide) (by decide) (by decide))
theorem jak:Rg 255 zwi:=z09 (by decide) (qrk (by decide) (by decide) (by decide) (by decide))
theorem rg_mix:Rg 255 mix14:=z09 (by decide) (qrk (by decide) (by decide) (by decide) (by decide))
theorem fmt6:Fmt 6:=⟨by decide,by decide⟩
theorem alone14:qg0 600 [7,1,2,3]=some (zq8,()):=by kernel_rfl
theorem exl14:q4y 600 600 6 [1,3,255,7] q0l 0=some (6,zwi,())∧q4y 600 600 6 [1,2,255,7] q0l 0=some (6,mix14,()):=by constructor<;>kernel_rfl
theorem byt14:q69 600 zq8=some (true,())∧q69 600 zwi=some (true,())∧q69 600 mix14=some (true,()):=by refine⟨?_,?_,?_⟩<;>kernel_rfl
theorem col14_0:qan 600 7 q0l=some ([2,2,2,255],0,()):=by kernel_rfl
theorem z17{k:Nat}(hk:Fmt k){t:LI}(hl:t.length=64)(ht:Rg 255 t)(hb:q69 600 t=some (true,())):q3d 600 k t=some (qc4 k (scT k t),0,()):=by
 unfold q3d
 rw[zmf 600 hk,hb]
 simp only[y5,bne_self_eq_false,cF,Bool.not_true,j57 hk hl ht,blk_is (zw8 hl) hk (zmg ht)]
theorem jal:q3d 600 4 zq8=some ([7,7,0,0,0,0,0,0],0,()):=by
 have h:=z17 (k:=4) ⟨by decide,by decide⟩ (t:=zq8) (q0g _ _) rg_red byt14.1
 simp only[yp]at h
 rw[h]
 have e:scT 4 zq8=zq8:=rfl
 have e2:bN lvP zq8 0=7:=by
  unfold bN zq8
  rw[j5d _ (by decide)]
  have h3:=zrl (L:=lvP) (n:=([7,1,2,3]:LI).getD 0 0) (i:=7) (by rw[zbm];decide) (by unfold lvP;rw[q12 (by decide)];rfl)
  have h4:=zw9 (L:=lvP) (l:=q0z (([7,1,2,3]:LI).getD 0 0)) (by rw[zbm];decide)
  rw[zbm]at h4
  unfold lvP at h3 h4⊢
  rw[q12 h4]at h3
  exact h3
 rw[e]
 show some (qko (bN lvP zq8 0),0,())=_
 rw[e2]
 have:qko 7=[7,7,0,0,0,0,0,0]:=by decide+kernel
 rw[this]
theorem exact6{t x:LI}(hl:t.length=64)(ht:Rg 255 t)(hb:q69 600 t=some (true,()))(hx:q4y 600 600 6 x q0l 0=some (6,t,())):q9l 600 6 x=some (qfe 6 (qc4 6 t) t==0,()):=by
 have h:=z17 fmt6 hl ht hb
 have h2:=z13 (qob t fmt6).1 fmt6 (qob t fmt6).2 hl ht
 have e:scT 6 t=t:=rfl
 simp only[yp,e]at h h2
 unfold q9l
 rw[hx]
 simp only[y5,h,bne_self_eq_false,cF,h2]
theorem jam:q9l 600 6 [1,3,255,7]=some (true,()):=by
 rw[exact6 (t:=zwi) (q0g _ _) jak byt14.2.1 exl14.1]
 have h:=jaj (k:=6) (s:=zwi) (a:=sixB (siN 0 zwi) 0) (b:=sixB (siN 1 zwi) 1) (.inr (jai (v:=fun c=>[1,3,255,7].getD c 0) (qrk (by decide) (by decide) (by decide) (by decide)) (by decide) (qrk rfl rfl rfl rfl))) (zcu fmt6 (qcv _ _).1 jak) (zcu fmt6 (qcv _ _).1 jak)
 have h2:qfe 6 (qc4 6 zwi) zwi=0:=h
 rw[h2]
 rfl
theorem j5e{bit:Int}(hb:0≤bit∧bit≤1):qfe 6 (sixB (siN bit mix14) bit) mix14≠0:=by
 rw[six_is hb]
 intro h
 rw[j0c (q1r rg_mix (by decide)) (q1r (z09 (m:=255) (by decide) fun c hc=>by rw[j35 _ _ hc];have:=bN_S bit mix14 c;omega) (by decide))]at h
 have h0:=h 0 (by decide) rfl
 have h1:=h 1 (by decide) rfl
 rw[show(oneT fun c=>2*(siN bit mix14).getD c 0+bit).getD 0 0=2*(siN bit mix14).getD 0 0+bit from q12 (by decide),show mix14.getD 0 0=1 from rfl]at h0
 rw[show(oneT fun c=>2*(siN bit mix14).getD c 0+bit).getD 1 0=2*(siN bit mix14).getD 1 0+bit from q12 (by decide),show mix14.getD 1 0=2 from rfl]at h1
 omega
theorem jan:q9l 600 6 [1,2,255,7]=some (false,()):=by
 rw[exact6 (t:=mix14) (q0g _ _) rg_mix byt14.2.2 exl14.2]
 have h2:qfe 6 (qc4 6 mix14) mix14≠0:=by
  show qfe 6 (z8w 6 mix14 (sixB (siN 0 mix14) 0) (sixB (siN 1 mix14) 1)) mix14≠0
  unfold z8w
  split
  ·exact j5e (by decide)
  ·exact j5e (by decide)
 rw[beqF h2]
theorem awake14:qsg 600=some (true,()):=by
 have h0:q3d 600 0 q0l=some ([],5,()):=by kernel_rfl
 unfold qsg
 rw[alone14]
 simp only[y5,jal,col14_0,h0,jam,jan]
 rfl
theorem j0q{a b:LI}(la:a.length=8):lo13 (a++b)=a:=by
 unfold lo13
 rw[←la,List.take_left]
theorem j0r{a b:LI}(la:a.length=8)(lb:b.length=8):hi13 (a++b)=b:=by
 unfold hi13
 rw[yo,la,lb,show 8+8-8=8 from rfl]
 conv=>lhs;rw[←la]
 rw[List.drop_left,List.take_of_length_le (by omega)]
theorem j5f(v:Nat→Int){j:Nat}(hj:j<64):(oneT v).getD j 0=v (j%4):=q12 hj
theorem z8x(c:Nat)(n:Int)(v:Nat→Int):wT c (q0z n) (oneT v)=oneT fun q=>if q=c then n else v q:=by
 unfold wT
 show tab 64 _=tab 64 _
 refine q01 fun j hj=> ?_
 rw[q6r n (show j/4<16 by omega),j5f v hj]
theorem z8y(a:Int):qia a=oneT fun q=>if q=3 then a else 0:=rfl
def hxC(s:LI)(c:Nat):Int:=(colV (hexN s)).getD c 0
def plC(s:LI)(c:Nat):Int:=(qf6 (bN (lvW 6) s 0) (bN (lvW 7) s 1) (bN (lvW 6) s 2)).getD c 0
def siC(bit:Int)(s:LI)(c:Nat):Int:=2*(siN bit s).getD c 0+bit
def liC(s:LI)(c:Nat):Int:=if c=3 then 255 else q4g (q1h 5 ((liN s).getD c 0)+2)
def b6(s:LI):Prop:=qfe 6 (sixB (siN 1 s) 1) s<qfe 6 (sixB (siN 0 s) 0) s
def b9(s:LI):Prop:=qfe 9 zfw s<qfe 9 (plB s) s
instance (s:LI):Decidable (b6 s):=by unfold b6;exact inferInstance
instance (s:LI):Decidable (b9 s):=by unfold b9;exact inferInstance
def zwj(k:Nat)(s:LI):Nat→Int:=match k with
 |1=>hxC s
 |2=>fun q=>if q=3 then q1h 4 (bN (lvW 4) s 3)else hxC s q
 |3=>fun q=>if q=3 then bN lvP s 3 else hxC s q
 |4=>fun q=>if q=0 then bN lvP s 0 else if q=3 then 255 else 0
 |5=>fun q=>if q=1 then bN lvP s 1 else if q=0 then bN lvP s 0 else if q=3 then 255 else 0
 |6=>if b6 s then siC 1 s else siC 0 s
 |7=>liC s
 |8=>plC s
 |9=>if b9 s then fun _=>0 else plC s
 |10=>fun q=>if q=3 then bN lvP s 3 else plC s q
 |11=>fun q=>if q=0 then 8*bN lvF s 0+4 else if q=3 then 2047 else 0
 |_=>fun q=>if q=1 then 8*bN lvF s 1+4 else if q=0 then 8*bN lvF s 0+4 else if q=3 then 2047 else 0
theorem jao(s:LI)(p:Bool):tab 64 (qmr (plB s) p)=oneT (plC s):=jad (jae s) p
theorem si_dec{bit:Int}(hb:0≤bit∧bit≤1)(s:LI):qji (sixB (siN bit s) bit)=oneT (siC bit s):=zrj (q0g _ _) (q92 (by decide) fun c _=>bN_S bit s c) hb
theorem jap(s:LI){k:Nat}(h:Fmt k):qmy k (qc4 k s)=oneT (zwj k s):=by
 refine qfa (p:=fun k=>qmy k (qc4 k s)=oneT (zwj k s)) ?_ ?_ ?_ ?_ ?_ ?_ ?_ ?_ ?_ ?_ ?_ ?_ h
 ·exact zbl (qrj s) false
 ·show wT 3 (zvj (lo13 (z8t (bN (lvW 4) s 3)++hexB (hexN s)))) (zfv (hi13 (z8t (bN (lvW 4) s 3)++hexB (hexN s))) true)=_
  rw[j0q (z08 _).2,j0r (z08 _).2 (qti _).2,j0k (bN_W (b:=4) (by decide) s 3),zbl (qrj s) true,z8x]
  rfl
 ·show wT 3 (qrc (lo13 (qko (bN lvP s 3)++hexB (hexN s)))) (zfv (hi13 (qko (bN lvP s 3)++hexB (hexN s))) true)=_
  rw[j0q (q8v _).2,j0r (q8v _).2 (qti _).2,qth (bN_P s 3),zbl (qrj s) true,z8x]
  rfl
 ·show wT 0 (qrc (lo13 (qko (bN lvP s 0)))) (qia 255)=_
  rw[lo13_8 (q8v _).2,qth (bN_P s 0),z8y,z8x]
  rfl
 ·show wT 1 (qrc (hi13 (qko (bN lvP s 0)++qko (bN lvP s 1)))) (wT 0 (qrc (lo13 (qko (bN lvP s 0)++qko (bN lvP s 1)))) (qia 255))=_
  rw[j0q (q8v _).2,j0r (q8v _).2 (q8v _).2,qth (bN_P s 0),qth (bN_P s 1),z8y,z8x,z8x]
  rfl
 ·show qji (if b6 s then sixB (siN 1 s) 1 else sixB (siN 0 s) 0)=oneT (if b6 s then siC 1 s else siC 0 s)
  split
  ·exact si_dec (by decide) s
  ·exact si_dec (by decide) s
 ·exact j30 (q0g _ _) (q92 (by decide) fun c _=>bN_L s c)
 ·exact jao s false
 ·show tab 64 (qmr (if b9 s then zfw else plB s) true)=oneT (if b9 s then fun _=>0 else plC s)
  split
  ·exact j31
  ·exact jao s true
 ·show wT 3 (eacL (lo13 (eacJ (bN lvP s 3) 0 0 (q0z 0) 19++plB s)) false) (tab 64 (qmr (hi13 (eacJ (bN lvP s 3) 0 0 (q0z 0) 19++plB s)) false))=_
  rw[j0q (qcu _ _ _ _),j0r (qcu _ _ _ _) (z42 s).2,j76 (bN_P s 3),jao,z8x]
  rfl
 ·show wT 0 (eacL (lo13 (eacJ (bN lvF s 0) 1 13 (q0z 4) 19)) true) (qia 2047)=_
  rw[lo13_8 (qcu _ _ _ _),zmo (bN_F s 0),z8y,z8x]
  rfl
 ·show wT 1 (eacL (hi13 (eacJ (bN lvF s 0) 1 13 (q0z 4) 19++eacJ (bN lvF s 1) 1 13 (q0z 4) 19)) true) (wT 0 (eacL (lo13 (eacJ (bN lvF s 0) 1 13 (q0z 4) 19++eacJ (bN lvF s 1) 1 13 (q0z 4) 19)) true) (qia 2047))=_
  rw[j0q (qcu _ _ _ _),j0r (qcu _ _ _ _) (qcu _ _ _ _),zmo (bN_F s 0),zmo (bN_F s 1),z8y,z8x,z8x]
  rfl
theorem j77(s:LI){k:Nat}(h:Fmt k):q8g 600 (k:Int) (qc4 k s)=some (oneT (zwj k s),0,()):=by
 rw[z5k (qob s h).1 h (qob s h).2,jap s h]
theorem jaq(v:Nat→Int){i:Nat}(hi:i<16):y8 4 (y9 (i*4) (oneT v))=tab 4 v:=by
 have hl:(oneT v).length=64:=q0g _ _
 have h4:(y8 4 (y9 (i*4) (oneT v))).length=4:=by
  rw[List.length_take,List.length_drop,hl]
  omega
 rw[qgl h4]
 refine q01 fun c hc=> ?_
 rw[zct hl hi hc,j5f v (by omega),show(i*4+c)%4=c by omega]
theorem j36{t:LI}{k:Nat}(h:Fmt k)(hB:q3d 600 (k:Int) t=some (qc4 k (scT k t),0,())):qan 600 (k:Int) t=some (tab 4 (zwj k (scT k t)),0,()):=by
 have h1:=jaq (zwj k (scT k t)) (i:=0) (by decide)
 rw[Nat.zero_mul,List.drop_zero]at h1
 unfold qan
 rw[hB]
 simp only[y5,bne_self_eq_false,cF,j77 _ h,h1]
theorem j0s(v:Nat→Int)(f:Int):∀(d i k:Nat),i+d=16→d<k→q4y 600 k f (tab 4 v) (tab 64 fun j=>if j<i*4 then v (j%4)else 0) (i:Int)=some (f,oneT v,()):=by
 intro d
 induction d with
 |zero=>
  intro i k h1 h2
  obtain⟨k,rfl⟩:∃k',k=k' +1:=⟨k-1,by omega⟩
  obtain rfl:i=16:=by omega
  show some (f,tab 64 _,())=_
  rw[q01 (g:=fun j=>if j<16*4 then v (j%4)else 0) (f:=fun j=>v (j%4)) fun j hj=>iP hj]
  rfl
 |succ d ih=>
  intro i k h1 h2
  obtain⟨k,rfl⟩:∃k',k=k' +1:=⟨k-1,by omega⟩
  show qh0 600 (q4y 600 k) _ _ _ _=_
  unfold qh0
  have h3:(i:Int)<16:=by omega
  simp only[h3,dT,cT,yc,yd,yb,q07 (show i<1000000000000 by omega)]
  have e:(tab 64 fun j=>if j/4=i then v (j%4)else if j<i*4 then v (j%4)else 0)=tab 64 fun j=>if j<(i+1)*4 then v (j%4)else 0:=q01 fun j hj=>by
   by_cases hj' :j/4=i
   ·rw[iP hj',iP (by omega)]
   ·rw[iN hj']
    by_cases hl:j<i*4
    ·rw[iP hl,iP (by omega)]
    ·rw[iN hl,iN (by omega)]
  rw[qf5 (show i*4+4≤64 by omega),e]
  exact ih (i+1) k (by omega) (by omega)
theorem zrm{t:LI}(hl:t.length=64)(ht:Rg 255 t):q69 600 t=some (true,()):=by
 have l2:∀(i:Nat),i<16→∀(d c k:Nat),c+d=4→d<k→q3r 600 k t (i:Int) (y8 4 (y9 (i*4) t)) (c:Int)=some (.inr (t,(i:Int),())):=by
  intro i hi d
  induction d with
  |zero=>
   intro c k h1 h2
   obtain⟨k,rfl⟩:∃k',k=k' +1:=⟨k-1,by omega⟩
   obtain rfl:c=4:=by omega
   rfl
  |succ d ih=>
   intro c k h1 h2
   obtain⟨k,rfl⟩:∃k',k=k' +1:=⟨k-1,by omega⟩
   show q9j 600 (q3r 600 k) t i (y8 4 (y9 (i*4) t)) c=_
   unfold q9j
   have h4:(c:Int)<4:=by omega
   have hr:=ht (i*4+c)
   have v1:¬t.getD (i*4+c) 0<0:=by omega
   have v2:¬255<t.getD (i*4+c) 0:=by omega
   simp only[h4,dT,cT,yc,yd,yb,q07 (show c<1000000000000 by omega),zct hl hi (show c<4 by omega),v1,v2,dF,cF]
   exact ih (c+1) k (by omega) (by omega)
 have l0:∀(d i k:Nat),i+d=16→d<k→q3s 600 k t (i:Int)=some (.inr ()):=by
  intro d
  induction d with
  |zero=>
   intro i k h1 h2
   obtain⟨k,rfl⟩:∃k',k=k' +1:=⟨k-1,by omega⟩
   obtain rfl:i=16:=by omega
   rfl
  |succ d ih=>
   intro i k h1 h2
   obtain⟨k,rfl⟩:∃k',k=k' +1:=⟨k-1,by omega⟩
   show q9k 600 (q3s 600 k) t i=_
   unfold q9k
   have h3:(i:Int)<16:=by omega
   have h:=l2 i (by omega) 4 0 600 (by omega) (by omega)
   rw[show((0:Nat):Int)=0 from rfl]at h
   simp only[h3,dT,cT,yc,yd,yb,h,y5,q07 (show i<1000000000000 by omega)]
   exact ih (i+1) k (by omega) (by omega)
 have h:=l0 16 0 600 (by omega) (by omega)
 rw[show((0:Nat):Int)=0 from rfl]at h
 unfold q69
 rw[h]
 rfl
theorem j78{k:Nat}(hk:Fmt k){v:Nat→Int}(hv:∀c,c<4→0≤v c∧v c≤255):q9l 600 (k:Int) (tab 4 v)=some (qfe k (qc4 k (scT k (oneT v))) (oneT v)==0,()):=by
 have h0:=j0s v (k:Int) 16 0 600 (by omega) (by omega)
 have e0:(tab 64 fun j=>if j<0*4 then v (j%4)else 0)=q0l:=by
  rw[q01 (f:=fun _=>0) fun j hj=>iN (by omega)]
  rfl
 rw[e0,show((0:Nat):Int)=0 from rfl]at h0
 have hl:(oneT v).length=64:=q0g _ _
 have hr:Rg 255 (oneT v):=z09 (by decide) hv
 have hB:=z17 hk hl hr (zrm hl hr)
 unfold q9l
 rw[h0]
 simp only[y5,hB,bne_self_eq_false,cF,z13 (qob _ hk).1 hk (qob _ hk).2 hl hr]
theorem j37:((w8 16).all fun i=>(y0 .i64 ((16:Int)+(y0 .i64 ((3:Int)*(y0 .i64 ((y0 .i64 ((4:Int)*(yw (i:Int) (4:Int))))+(y0 .i64 (yx (i:Int) (4:Int))))))))==(qgn i:Int)))=true:=by kernel_rfl
theorem jar{i:Nat}(h:i<16):y0 .i64 ((16:Int)+(y0 .i64 ((3:Int)*(y0 .i64 ((y0 .i64 ((4:Int)*(yw (i:Int) (4:Int))))+(y0 .i64 (yx (i:Int) (4:Int))))))))=(qgn i:Int):=by
 have:=List.all_eq_true.1 j37 i (by simpa using h)
 simpa using this
theorem j38{b:LI}(hb:Bytes b)(hl:b.length=8):qsh 600 b=some (hv b 0 8,hv b 8 4,hv b 12 4,eacW b,0,()):=by
 have loop:∀T:LI,q70 600 600 b T q0a 0=some (b,T,eacW b,()):=by
  intro T
  refine q4r 16 (fun i=>hv b (qgn i) 3) (fun k w i=>q70 600 k b T w i) (fun w=>some (b,T,w,())) ?_ ?_ _ rfl 600 (by omega)
  ·intro k i w hi hw
   show qef 600 (q70 600 k) b T w i=_
   unfold qef
   have:=zgf hi
   have e:=qi7 (F:=600) (by decide) hb hl (a:=qgn i) (n:=3) (by decide) (by omega)
   simp only[yp]at e
   have h1:(i:Int)<16:=by omega
   simp only[h1,dT,cT,jar hi,e,y5,yc,yd,q07 (show i<1000000000000 by omega),yb]
  ·intro k w hw
   rfl
 unfold qsh
 have e1:=qi7 (F:=600) (by decide) hb hl (a:=0) (n:=8) (by decide) (by decide)
 have e2:=qi7 (F:=600) (by decide) hb hl (a:=8) (n:=4) (by decide) (by decide)
 have e3:=qi7 (F:=600) (by decide) hb hl (a:=12) (n:=4) (by decide) (by decide)
 simp only[yp,yq]at e1 e2 e3
 have e:((b.length:Int) !=8)=false:=by rw[hl];rfl
 simp only[e,cF,loop,y5,e1,e2,e3]
theorem zms:((w8 16).all fun n=>qsi 600 (n:Int)==q6l 600 (n:Int))=true:=by kernel_rfl
theorem j39{n:Int}(h:0≤n∧n≤15):qsi 600 n=q6l 600 n:=by
 obtain⟨m,rfl⟩:=yh h.1
 have:=List.all_eq_true.1 zms m (by simp;omega)
 simpa using this
theorem j3a{base times number:Int}(hb:0≤base∧base≤255)(ht:0≤times∧times≤15)(hn: -15≤number∧number≤15)(wide:Bool):qsj 600 base times number wide=some (qo8 base times number wide,()):=by
 have hm:=mulB (c:=15) hn ht (by decide)
 have e8:number*(8*times)=8*(number*times):=by rw[←Int.mul_assoc,Int.mul_comm number 8,Int.mul_assoc]
 have cl:∀x m:Int,0≤m→q5k 600 x m=some (max 0 (min x m),()):=fun x m hm=>by
  unfold q5k
  by_cases h1:m<x
  ·have h2:¬m<0:=by omega
   simp only[h1,h2,dT,dF,cT,cF]
   rw[show max 0 (min x m)=m by omega]
  ·by_cases h2:x<0
   ·simp only[h1,h2,dT,dF,cT,cF]
    rw[show max 0 (min x m)=0 by omega]
   ·simp only[h1,h2,dF,cF]
    rw[show max 0 (min x m)=x by omega]
 unfold qsj qo8
 rw[cl _ 255 (by decide),cl _ 2047 (by decide),cl _ 2047 (by decide),w64 (x:=number*times) (by omega) (by omega),w64 (x:=base+number*times) (by omega) (by omega),w64 (x:=8*base) (by omega) (by omega),w64 (x:=8*base+4) (by omega) (by omega),Int.mul_one,
  w64 (x:=number) (by omega) (by omega),w64 (x:=8*base+4+number) (by omega) (by omega),w64 (x:=8*times) (by omega) (by omega),e8,w64 (x:=8*(number*times)) (by omega) (by omega),w64 (x:=8*base+4+8*(number*times)) (by omega) (by omega)]
 cases wide
 ·rfl
 ·by_cases h0:times=0
  ·subst h0
   rfl
  ·simp only[Bool.not_true,cF,beqF h0,y5,if_true,h0,if_false]
   rw[show 8*base+4+8*(number*times)=8*(base+number*times)+4 by omega]
theorem qid{b:LI}(hb:Bytes b)(hl:b.length=8)(wide:Bool):q6p 600 b wide=some (eacL b wide,0,()):=by
 obtain⟨f1,f2,f3,f4,f5⟩:=j53 (b:=b)
 obtain⟨tbl,h1,_,h3⟩:=j54 600 (n:=hv b 12 4) f3
 have h1' :=j39 f3
 rw[h1]at h1'
 have loop:∀T:LI,q5t 600 600 wide T (hv b 0 8) (hv b 8 4) (hv b 12 4) (eacW b) 0=some (T,eacD (hv b 0 8) (hv b 8 4) tbl (eacW b) wide,()):=by
  intro T
  refine zb4 16 (fun i=>qo8 (hv b 0 8) (hv b 8 4) (tbl.getD ((eacW b).getD i 0).toNat 0) wide) (eacW b) (fun k w i=>q5t 600 k wide T (hv b 0 8) (hv b 8 4) (hv b 12 4) w i) (fun w=>some (T,w,())) ?_ ?_ f4 600 (by omega)
  ·intro k i w hi hw hs
   show qcp 600 (q5t 600 k) wide T (hv b 0 8) (hv b 8 4) (hv b 12 4) w i=_
   unfold qcp
   have h4:(i:Int)<16:=by omega
   have h2:=f5 i hi
   have h5:(eacW b).getD i 0<8:=by omega
   have e:=hs i (wc _)
   simp only[h4,dT,cT,yc,yd,yb,h1',y5,e,h2.1,h5,j3a f1 f2 (h3 _),q07 (show i<1000000000000 by omega)]
  ·intro k w hw
   rfl
 unfold q6p
 rw[j38 hb hl]
 simp only[y5,bne_self_eq_false,cF,loop]
 unfold eacL
 rw[h1]
theorem j0t{c:Nat}(hc:c<4)(l t T:LI):∀(d i k:Nat),i+d=16→d<k→qbg 600 k c (tab 64 (upW c i l t)) l T (i:Int)=some (tab 64 (upW c 16 l t),T,()):=by
 intro d
 induction d with
 |zero=>
  intro i k h1 h2
  obtain⟨k,rfl⟩:∃k',k=k' +1:=⟨k-1,by omega⟩
  obtain rfl:i=16:=by omega
  rfl
 |succ d ih=>
  intro i k h1 h2
  obtain⟨k,rfl⟩:∃k',k=k' +1:=⟨k-1,by omega⟩
  show qh2 600 (qbg 600 k) c (tab 64 (upW c i l t)) l T i=_
  unfold qh2
  have h3:(i:Int)<16:=by omega
  have h4:(c:Int)<4:=by omega
  simp only[h3,h4,dT,cT,yc,yd,yb,ja6 hc (show i<16 by omega),q07 (show i<1000000000000 by omega)]
  exact ih (i+1) k (by omega) (by omega)
theorem zwk{c:Nat}(hc:c<4){l t:LI}(ht:t.length=64):q11 600 t l c=some (wT c l t,()):=by
 have h:=j0t hc l t q0l 16 0 600 (by omega) (by omega)
 have e0:tab 64 (upW c 0 l t)=t:=by
  conv=>rhs;rw[qgl ht]
  exact q01 fun j hj=>by unfold upW;rw[iN (by omega)]
 have e1:tab 64 (upW c 16 l t)=wT c l t:=q01 fun j hj=>by
  unfold upW
  by_cases h2:j%4=c
  ·rw[iP h2,iP (by omega)]
  ·rw[iN h2,iN (by omega)]
 rw[e0,e1]at h
 unfold q11
 rw[show((0:Nat):Int)=0 from rfl]at h
 rw[h]
 rfl
theorem rblank_is:q5s 600 255=some (qia 255,())∧q5s 600 2047=some (qia 2047,()):=by constructor<;>kernel_rfl
theorem zcv{b:LI}(hb:Bytes b){k:Nat}(h:Fmt k)(hl:b.length=q5w k):qde 600 (k:Int) b=some (qmy k b,0,()):=by
 have hlo:=qbn hb
 have hhi:=qgo hb
 have hg:=zbi k
 have l1:=qo9 (b:=b) (by omega)
 have l2:=z11 (b:=b) (by omega)
 have e8:y0 .i64 ((b.length:Int)-8)=((b.length-8:Nat):Int):=by rw[w64 (by omega) (by omega)];omega
 have r7:=zlr (F:=600) (by decide) hlo l1
 have r7' :=zlr (F:=600) (by decide) hhi l2
 have c1:((b.length:Int) !=(q5w k:Int))=false:=by rw[hl];simp
 have c2:8≤b.length:=by omega
 have c3:b.length-8≤b.length:=by omega
 have ht:psub b.length (b.length-8)=8:=by rw[j1a];omega
 have p3:∀{l t:LI},t.length=64→q11 600 t l 3=some (wT 3 l t,()):=fun ht=>zwk (c:=3) (by decide) ht
 have p0:∀{l t:LI},t.length=64→q11 600 t l 0=some (wT 0 l t,()):=fun ht=>zwk (c:=0) (by decide) ht
 have p1:∀{l t:LI},t.length=64→q11 600 t l 1=some (wT 1 l t,()):=fun ht=>zwk (c:=1) (by decide) ht
 have d6:q53 600 (hi13 b) true=some (zfv (hi13 b) true,0,()):=zlx (F:=600) (by decide) hhi l2 true
 unfold qde
 rw[(zrg 600 _).1,zmf 600 h]
 simp only[y5,bne_self_eq_false,cF,c1,c2,c3,dT,cT,e8,yc,yb,yd,ht]
 rw[show y8 8 b=lo13 b from rfl,show y8 8 (y9 (b.length-8) b)=hi13 b from rfl,r7,r7']
 simp only[y5]
 refine qfa (p:=fun k=>b.length=q5w k→(cond ((k:Int)==(1:Int))
      ((q53 600 b false).bind fun r8365=>
      some (r8365.1,r8365.2.1,()))
      (cond ((k:Int)==(2:Int))
       ((q53 600 (hi13 b) true).bind fun r8367=>
       (qld 600 (lo13 b)).bind fun r8394=>
       (q11 600 r8367.1 r8394.1 (3:Int)).bind fun r8418=>
       some (r8418.1,(0:Int),()))
       (cond ((k:Int)==(3:Int))
        ((q53 600 (hi13 b) true).bind fun r8420=>
        (q11 600 r8420.1 (qrc (lo13 b)) (3:Int)).bind fun r8421=>
        some (r8421.1,(0:Int),()))
        (cond ((k:Int)==(4:Int))
         ((q5s 600 (255:Int)).bind fun r8437=>
         (q11 600 r8437.1 (qrc (lo13 b)) (0:Int)).bind fun r8438=>
         some (r8438.1,(0:Int),()))
         (cond ((k:Int)==(5:Int))
          ((q5s 600 (255:Int)).bind fun r8440=>
          (q11 600 r8440.1 (qrc (lo13 b)) (0:Int)).bind fun r8441=>
          (q11 600 r8441.1 (qrc (hi13 b)) (1:Int)).bind fun r8442=>
          some (r8442.1,(0:Int),()))
          (cond ((k:Int)==(6:Int))
           ((qhp 600 b).bind fun r12176=>
           some (r12176.1,r12176.2.1,()))
           (cond ((k:Int)==(7:Int))
            ((qho 600 b).bind fun r12480=>
            some (r12480.1,r12480.2.1,()))
            (cond ((k:Int)==(8:Int))
             ((q6j 600 b false).bind fun r13133=>
             some (r13133.1,r13133.2.1,()))
             (cond ((k:Int)==(9:Int))
              ((q6j 600 b true).bind fun r13135=>
              some (r13135.1,r13135.2.1,()))
              (cond ((k:Int)==(10:Int))
               ((q6j 600 (hi13 b) false).bind fun r13137=>
               (q6p 600 (lo13 b) false).bind fun r13248=>
               (q11 600 r13137.1 r13248.1 (3:Int)).bind fun r13249=>
               some (r13249.1,(0:Int),()))
               ((q6p 600 (lo13 b) true).bind fun r13250=>
               (q6p 600 (hi13 b) true).bind fun r13251=>
               cond ((k:Int)==(11:Int))
                ((q5s 600 (2047:Int)).bind fun r13253=>
                (q11 600 r13253.1 r13250.1 (0:Int)).bind fun r13254=>
                some (r13254.1,(0:Int),()))
                ((q5s 600 (2047:Int)).bind fun r13255=>
                (q11 600 r13255.1 r13250.1 (0:Int)).bind fun r13256=>
                (q11 600 r13256.1 r13251.1 (1:Int)).bind fun r13257=>
                some (r13257.1,(0:Int),())))))))))))))=some (qmy k b,0,())) ?_ ?_ ?_ ?_ ?_ ?_ ?_ ?_ ?_ ?_ ?_ ?_ h hl
 ·intro hl
  simp only[Int.natCast_one,yp,Int.reduceBEq,cT,zlx (F:=600) (by decide) hb hl false,y5]
  rfl
 ·intro hl
  simp only[yp,Int.reduceBEq,cT,cF,d6,j8u (F:=600) (by decide) hlo l1,y5]
  rw[p3 (z8r (hi13 b) true)]
  rfl
 ·intro hl
  simp only[yp,Int.reduceBEq,cT,cF,d6,y5]
  rw[p3 (z8r (hi13 b) true)]
  rfl
 ·intro hl
  simp only[yp,Int.reduceBEq,cT,cF,rblank_is.1,p0 (qdq 255),y5]
  rfl
 ·intro hl
  simp only[yp,Int.reduceBEq,cT,cF,rblank_is.1,p0 (qdq 255),p1 (j56 _ _ _),y5]
  rfl
 ·intro hl
  simp only[yp,Int.reduceBEq,cT,cF,j6e hb hl,y5]
  rfl
 ·intro hl
  simp only[yp,Int.reduceBEq,cT,cF,(zm4 (F:=600) (by decide) hb hl).2,y5]
  rfl
 ·intro hl
  simp only[yp,Int.reduceBEq,cT,cF,z05 hb hl false,y5]
  rfl
 ·intro hl
  simp only[yp,Int.reduceBEq,cT,cF,z05 hb hl true,y5]
  rfl
 ·intro hl
  simp only[yp,Int.reduceBEq,cT,cF,z05 hhi l2 false,qid hlo l1 false,p3 (q0g 64 _),y5]
  rfl
 ·intro hl
  simp only[yp,Int.reduceBEq,cT,cF,qid hlo l1 true,qid hhi l2 true,rblank_is.2,p0 (qdq 2047),y5]
  rfl
 ·intro hl
  simp only[yp,Int.reduceBEq,cT,cF,qid hlo l1 true,qid hhi l2 true,rblank_is.2,p0 (qdq 2047),p1 (j56 _ _ _),y5]
  rfl
theorem zwl{t:LI}(ht:Rg 255 t)(T:LI)(y z:Int){i:Nat}(hi:i<16):∀(d c k:Nat),c+d=4→d<k→
  q9m 600 k (tab 64 (upS (i*4+c) t)) T y z true (i:Int) (c:Int) true=some (tab 64 (upS (i*4+4) t),T,y,z,true,(i:Int),true,()):=by
 intro d
 induction d with
 |zero=>
  intro c k h1 h2
  obtain⟨k,rfl⟩:∃k',k=k' +1:=⟨k-1,by omega⟩
  obtain rfl:c=4:=by omega
  rfl
 |succ d ih=>
  intro c k h1 h2
  obtain⟨k,rfl⟩:∃k',k=k' +1:=⟨k-1,by omega⟩
  show qed 600 (q9m 600 k) (tab 64 (upS (i*4+c) t)) T y z true i c true=_
  unfold qed
  have h3:(i:Int)<16:=by omega
  have h4:(c:Int)<4:=by omega
  have hv:=ht (i*4+c)
  have g:(tab 64 (upS (i*4+c) t)).getD (i*4+c) 0=t.getD (i*4+c) 0:=by
   rw[q12 (by omega)]
   unfold upS
   rw[iN (by omega)]
  have e:y0 .i64 (y0 .i64 (8*t.getD (i*4+c) 0)+y0 .i64 (yx (t.getD (i*4+c) 0) 32))=scV (t.getD (i*4+c) 0):=by
   rw[q1g hv.1,w64 (x:=8*t.getD (i*4+c) 0) (by omega) (by omega),w64 (x:=t.getD (i*4+c) 0/32) (by omega) (by omega),w64 (by omega) (by omega)]
   rfl
  simp only[h3,h4,dT,cT,yc,yd,yb,g,e,ja8 (t:=t) (show i*4+c<64 by omega),q07 (show c<1000000000000 by omega)]
  exact ih (c+1) k (by omega) (by omega)
theorem zwm{t:LI}(ht:Rg 255 t)(T:LI)(y z:Int):∀(d i k:Nat),i+d=16→d<k→q9n 600 k (tab 64 (upS (i*4) t)) T y z true (i:Int)=some (tab 64 (upS 64 t),T,()):=by
 intro d
 induction d with
 |zero=>
  intro i k h1 h2
  obtain⟨k,rfl⟩:∃k',k=k' +1:=⟨k-1,by omega⟩
  obtain rfl:i=16:=by omega
  rfl
 |succ d ih=>
  intro i k h1 h2
  obtain⟨k,rfl⟩:∃k',k=k' +1:=⟨k-1,by omega⟩
  show qee 600 (q9n 600 k) (tab 64 (upS (i*4) t)) T y z true i=_
  unfold qee
  have h3:(i:Int)<16:=by omega
  have h:=zwl ht T y z (i:=i) (by omega) 4 0 600 (by omega) (by omega)
  simp only[Nat.add_zero,yq]at h
  simp only[h3,dT,cT,h,y5,q07 (show i<1000000000000 by omega)]
  rw[show i*4+4=(i+1)*4 by omega]
  exact ih (i+1) k (by omega) (by omega)
theorem j0u{k:Nat}(h:Fmt k){t:LI}(hl:t.length=64)(ht:Rg 255 t):qg2 600 (k:Int) t=some (scT k t,()):=by
 unfold qg2 scT
 rw[(zrg 600 _).1,zmf 600 h]
 simp only[y5]
 cases z07 k
 ·rfl
 ·have h:=zwm ht q0l (q5w k:Int) (qvt k) 16 0 600 (by omega) (by omega)
  have e0:tab 64 (upS (0*4) t)=t:=by
   conv=>rhs;rw[qgl hl]
   exact q01 fun j hj=>by unfold upS;rw[iN (by omega)]
  have e1:tab 64 (upS 64 t)=tab 64 fun j=>scV (t.getD j 0):=q01 fun j hj=>by unfold upS;rw[iP hj]
  rw[e0,e1,show((0:Nat):Int)=0 from rfl]at h
  simp only[h,y5,if_true]
theorem zwn{mask:Int}(hm:0≤mask∧mask≤15){s u:LI}(hs:Rg 2047 s)(hu:Rg 2047 u){i:Nat}(hi:i<16):∀(d c k:Nat),c+d=4→d<k→
  q9t 600 k mask s u (sumN (errT mask s u) (i*4+c)) (i:Int) (c:Int)=some (mask,s,u,sumN (errT mask s u) (i*4+4),(i:Int),()):=by
 intro d
 induction d with
 |zero=>
  intro c k h1 h2
  obtain⟨k,rfl⟩:∃k',k=k' +1:=⟨k-1,by omega⟩
  obtain rfl:c=4:=by omega
  rfl
 |succ d ih=>
  intro c k h1 h2
  obtain⟨k,rfl⟩:∃k',k=k' +1:=⟨k-1,by omega⟩
  show qeg 600 (q9t 600 k) mask s u (sumN (errT mask s u) (i*4+c)) i c=_
  unfold qeg
  have h3:(i:Int)<16:=by omega
  have h4:(c:Int)<4:=by omega
  have b1:=hs (i*4+c)
  have b2:=hu (i*4+c)
  have b3:=ql0 (n:=i*4+c) (f:=errT mask s u) fun j _=>z12 hs hu j
  have b5:(2047*2047:Int)*((i*4+c:Nat):Int)≤2047*2047*64:=Int.mul_le_mul_of_nonneg_left (by omega) (by decide)
  have hp:(0:Int)<2^c:=q87 c
  have hp0:((2:Int)^c==0)=false:=beqF (by omega)
  have m16:qlc 600 mask 16=some (mask,()):=by
   rw[zvh 600 (by decide) (by omega),we (by omega) (by omega)]
  have nx:=ih (c+1) k (by omega) (by omega)
  rw[show i*4+(c+1)=(i*4+c)+1 by omega]at nx
  rw[show sumN (errT mask s u) (i*4+c+1)=sumN (errT mask s u) (i*4+c)+errT mask s u (i*4+c)from rfl]at nx
  simp only[h3,h4,dT,cT,yc,yd,yb,m16,zz9 (F:=600) (by decide) (show c≤8 by omega),y5,hp0,Bool.not_false,mbit_is hm (show c<4 by omega),q07 (show c<1000000000000 by omega)]
  cases hb:bitM mask c with
  |true=>
   have e:errT mask s u (i*4+c)=(s.getD (i*4+c) 0-u.getD (i*4+c) 0)*(s.getD (i*4+c) 0-u.getD (i*4+c) 0):=by
    unfold errT
    rw[iP (by rw[show(i*4+c)%4=c by omega];exact hb)]
   have b4:=qoa (x:=s.getD (i*4+c) 0-u.getD (i*4+c) 0) (m:=2047) (by omega)
   have sq:qle 600 (y0 .i64 (s.getD (i*4+c) 0-u.getD (i*4+c) 0))=some ((s.getD (i*4+c) 0-u.getD (i*4+c) 0)*(s.getD (i*4+c) 0-u.getD (i*4+c) 0),()):=by
    unfold qle
    rw[w64 (x:=s.getD (i*4+c) 0-u.getD (i*4+c) 0) (by omega) (by omega),w64 (by omega) (by omega)]
   rw[e]at nx
   simp only[cT,sq,y5]
   rw[w64 (by omega) (by omega)]
   exact nx
  |false=>
   have e:errT mask s u (i*4+c)=0:=by
    unfold errT
    rw[iN (by rw[show(i*4+c)%4=c by omega,hb];simp)]
   rw[e,Int.add_zero]at nx
   simp only[cF]
   exact nx
theorem zwo{mask:Int}(hm:0≤mask∧mask≤15){s u:LI}(hs:Rg 2047 s)(hu:Rg 2047 u):∀(d i k:Nat),i+d=16→d<k→q9u 600 k mask s u (sumN (errT mask s u) (i*4)) (i:Int)=some (errS mask s u,()):=by
 intro d
 induction d with
 |zero=>
  intro i k h1 h2
  obtain⟨k,rfl⟩:∃k',k=k' +1:=⟨k-1,by omega⟩
  obtain rfl:i=16:=by omega
  rfl
 |succ d ih=>
  intro i k h1 h2
  obtain⟨k,rfl⟩:∃k',k=k' +1:=⟨k-1,by omega⟩
  show qeh 600 (q9u 600 k) mask s u (sumN (errT mask s u) (i*4)) i=_
  unfold qeh
  have h3:(i:Int)<16:=by omega
  have h:=zwn hm hs hu (i:=i) (by omega) 4 0 600 (by omega) (by omega)
  simp only[Nat.add_zero,yq]at h
  simp only[h3,dT,cT,h,y5,q07 (show i<1000000000000 by omega)]
  rw[show i*4+4=(i+1)*4 by omega]
  exact ih (i+1) k (by omega) (by omega)
theorem qmt{b t:LI}(hb:Bytes b){k:Nat}(h:Fmt k)(hl:b.length=q5w k)(htl:t.length=64)(ht:Rg 255 t):qd1 600 (k:Int) b t=some (qfe k b t,0,()):=by
 have e:=zwo (j0f k) (q1r (zmg (k:=k) ht) (qrh k)) (q1r (zw7 hb h) (qrh k)) 16 0 600 (by omega) (by omega)
 simp only[Nat.zero_mul,yq,sumN]at e
 unfold qd1 z4j
 rw[zcv hb h hl,(zrg 600 _).1,zmf 600 h,j0u h htl ht]
 simp only[y5,bne_self_eq_false,cF,e]
 rfl
end Go.AE.Gn
set_option linter.unusedSectionVars false
namespace Go.AE.Gn
open Go Go.AE
def c12(base times table:Int):LI:=[base,16*times+table,0,0,0,0,0,0]
def j12(base times table:Int)(w:LI)(i:Nat):LI:=qkj qgn (fun _=>3) (fun i=>w.getD i 0) (c12 base times table) i
section
variable {base times table:Int} {w:LI} (hf:EacFit base times table w)
include hf
theorem z8z:Bytes (c12 base times table):=fun x hx=>by
 obtain⟨h1,h2,h3,_⟩:=hf
 unfold c12 at hx
 simp only[yr,List.not_mem_nil,or_false]at hx
 omega
omit hf in
theorem jas:∀i,i<16→qgn i+3≤8*(c12 base times table).length:=fun i hi=>by
 have:=zgf hi
 show qgn i+3≤64
 omega
omit hf in
theorem at_apart(i j:Nat)(hi:i<16)(hj:j<16)(h:i≠j):qgn i+3≤qgn j∨qgn j+3≤qgn i:=by
 unfold qgn
 omega
theorem at_val:∀i,i<16→0≤w.getD i 0∧w.getD i 0<2^3:=fun i hi=>by
 have:=hf.2.2.2.2 i hi
 omega
theorem j3b{q:Nat}(hq:q<16):q0d (j12 base times table w 16) q=q0d (c12 base times table) q:=
 z8o (z8z hf) jas (fun i hi h=>by have:=zgf hi;omega) 16 (wc _)
theorem j12_hv:∀i,i<19→eacV base times table w i=hv (j12 base times table w 16) (eacA i) (eacN i):=by
 have hb:=z8z hf
 obtain⟨h1,h2,h3,_⟩:=id hf
 intro i hi
 match i with
 |0=>
  refine(z0s (by show 0≤base∧base<2^8;omega) fun q g1 g2=> ?_).symm
  have g2:q<8:=g2
  rw[j3b hf (by omega)]
  unfold q0d bitL
  rw[show q/8=0 by omega,show 7-q%8=0+8-1-q by omega]
  rfl
 |1=>
  refine(z0s (by show 0≤times∧times<2^4;omega) fun q g1 g2=> ?_).symm
  have g1:8≤q:=g1
  have g2:q<12:=g2
  rw[j3b hf (by omega)]
  unfold q0d bitL
  rw[show q/8=1 by omega,show(c12 base times table).getD 1 0=16*times+table from rfl]
  show(16*times+table)/2^(7-q%8)%2=times/2^(8+4-1-q)%2
  have:q=8∨q=9∨q=10∨q=11:=by omega
  rcases this with rfl|rfl|rfl|rfl<;>simp only[Nat.reduceMod,Nat.reduceSub,Nat.reduceAdd,Int.reducePow]<;>omega
 |2=>
  refine(z0s (by show 0≤table∧table<2^4;omega) fun q g1 g2=> ?_).symm
  have g1:12≤q:=g1
  have g2:q<16:=g2
  rw[j3b hf (by omega)]
  unfold q0d bitL
  rw[show q/8=1 by omega,show(c12 base times table).getD 1 0=16*times+table from rfl]
  show(16*times+table)/2^(7-q%8)%2=table/2^(12+4-1-q)%2
  have:q=12∨q=13∨q=14∨q=15:=by omega
  rcases this with rfl|rfl|rfl|rfl<;>simp only[Nat.reduceMod,Nat.reduceSub,Nat.reduceAdd,Int.reducePow]<;>omega
 |i+3=>exact(zvd (A:=qgn) (N:=fun _=>3) (V:=fun i=>w.getD i 0) hb jas (fun i j hi hj=>at_apart i j hi hj) (at_val hf) (j:=i) (by omega)).symm
theorem j12_is:j12 base times table w 16=eacJ base times table w 19:=
 (j64 (q3f _ _ _ (z8z hf) 16) z0z (by rw[q4d];rfl) (fun i hi=>(j2q i hi).1) (fun i j hi hj=>j06 i hi j hj) (fun i hi=>j12_hv hf i hi) (fun q hq=>ja1 q hq)).symm
theorem zq9:∀(d i k:Nat),i+d=16→d<k→qbi 600 k w (j12 base times table w i) (i:Int)=some (.inr (j12 base times table w 16,())):=by
 intro d
 induction d with
 |zero=>
  intro i k h1 h2
  obtain⟨k,rfl⟩:∃k',k=k' +1:=⟨k-1,by omega⟩
  obtain rfl:i=16:=by omega
  rfl
 |succ d ih=>
  intro i k h1 h2
  obtain⟨k,rfl⟩:∃k',k=k' +1:=⟨k-1,by omega⟩
  show qh4 600 (qbi 600 k) _ _ _=_
  unfold qh4
  have h3:(i:Int)<16:=by omega
  have hw:=at_val hf i (by omega)
  have hi:qbh 600 (w.getD i 0) 7=some (true,()):=by
   have h4:w.getD i 0≤7:=by omega
   unfold qbh
   simp only[hw.1,h4,dT,cT]
  have hs:=z88 (F:=600) (by decide) (b:=j12 base times table w i) (q3f _ _ _ (z8z hf) i) (by unfold j12;rw[q4d];show 8≤1099511627776;decide) (a:=qgn i) (n:=3) (v:=w.getD i 0) (by decide) (by unfold j12;rw[q4d];exact jas i (by omega)) hw
  simp only[yp]at hs
  simp only[h3,dT,cT,yc,yd,yb,hi,y5,Bool.not_true,cF,jar (show i<16 by omega),wu64 hw.1 (show w.getD i 0≤18446744073709551615 by omega),hs,q07 (show i<1000000000000 by omega)]
  exact ih (i+1) k (by omega) (by omega)
theorem zrn:qps 600 base times table w=some (eacJ base times table w 19,0,()):=by
 have h:=zq9 hf 16 0 600 (by omega) (by omega)
 obtain⟨h1,h2,h3,_⟩:=id hf
 have i1:qbh 600 base 255=some (true,()):=by
  unfold qbh
  simp only[h1.1,h1.2,dT,cT]
 have i2:qbh 600 times 15=some (true,()):=by
  unfold qbh
  simp only[h2.1,h2.2,dT,cT]
 have i3:qbh 600 table 15=some (true,()):=by
  unfold qbh
  simp only[h3.1,h3.2,dT,cT]
 have e0:[y0 .u8 base,y0 .u8 (y0 .i64 (y0 .i64 (16*times)+table)),0,0,0,0,0,0]=j12 base times table w 0:=by
  rw[wu8 h1.1 h1.2,w64 (x:=16*times) (by omega) (by omega),w64 (by omega) (by omega),wu8 (by omega) (by omega)]
  rfl
 unfold qps
 simp only[i1,i2,i3,y5,Bool.not_true,cF,e0]
 rw[show((0:Nat):Int)=0 from rfl]at h
 rw[h,j12_is hf]
 simp only[y5]
end
theorem j0v{b:Nat}(hb:b≤8):∀(d i k:Nat),i+d=b→d<k→q8j 600 k (b:Int) ((2^i:Nat):Int) (i:Int)=some ((b:Int),((2^b:Nat):Int),()):=by
 intro d
 induction d with
 |zero=>
  intro i k h1 h2
  obtain⟨k,rfl⟩:∃k',k=k' +1:=⟨k-1,by omega⟩
  obtain rfl:i=b:=by omega
  show q9o 600 (q8j 600 k) _ _ _=_
  unfold q9o
  simp only[yv,dF,cF]
 |succ d ih=>
  intro i k h1 h2
  obtain⟨k,rfl⟩:∃k',k=k' +1:=⟨k-1,by omega⟩
  show q9o 600 (q8j 600 k) _ _ _=_
  unfold q9o
  have h3:(i:Int)<(b:Int):=by omega
  have hp:2^i≤2^8:=Nat.pow_le_pow_right (by decide) (by omega)
  have hp0:=Nat.pow_pos (n:=i) (show 0<2 by decide)
  have e:y0 .i64 (2*((2^i:Nat):Int))=((2^(i+1):Nat):Int):=by
   rw[w64 (by omega) (by omega),Nat.pow_succ]
   omega
  simp only[h3,dT,cT,e,q07 (show i<1000000000000 by omega)]
  exact ih (i+1) k (by omega) (by omega)
theorem z18{b:Nat}(hb:1≤b∧b≤8):q3e 600 (b:Int)=some (lvW b,()):=by
 have hp:=pow_b hb
 have h1:=j0v (b:=b) hb.2 b 0 600 (by omega) (by omega)
 have h2:=qib (m:=2^b) (by omega) (fun i=>q1h b i) (fun k w i=>q8k 600 k (b:Int) w ((2^b:Nat):Int) i) (fun w=>some (w,())) (fun k i hi=>by
   show q9p 600 (q8k 600 k) _ _ _ _=_
   unfold q9p
   have h3:(i:Int)<((2^b:Nat):Int):=by omega
   simp only[h3,dT,cT,qa6 (F:=600) (by decide) hb (x:=(i:Int)) (by omega),y5,q0g,show i+1≤1099511627776 by omega,yd,q07 (show i<1000000000000 by omega)]) (fun k=>by
   show q9p 600 (q8k 600 k) _ _ _ _=_
   unfold q9p
   simp only[yv,dF,cF])
 unfold q3e
 rw[show((2^0:Nat):Int)=1 from rfl,show((0:Nat):Int)=0 from rfl]at h1
 rw[h1]
 simp only[y5]
 rw[h2]
 rfl
theorem zwp{m:Nat}(hm:m≤300){a z:Int}(ha:0≤a∧a≤8)(hz:0≤z∧z≤8):q9s 600 (m:Int) a z=some (tab m fun i=>a*(i:Int)+z,()):=by
 have h2:=qib (m:=m) (by omega) (fun i=>a*(i:Int)+z) (fun k w i=>q8m 600 k (m:Int) a z w i) (fun w=>some (w,())) (fun k i hi=>by
   show q9r 600 (q8m 600 k) _ _ _ _ _=_
   unfold q9r
   have h3:(i:Int)<(m:Int):=by omega
   have b1:a*(i:Int)≤8*(i:Int):=Int.mul_le_mul_of_nonneg_right ha.2 (by omega)
   have b2:0≤a*(i:Int):=Int.mul_nonneg ha.1 (by omega)
   simp only[h3,dT,cT,w64 (x:=a*(i:Int)) (by omega) (by omega),w64 (x:=a*(i:Int)+z) (by omega) (by omega),q0g,show i+1≤1099511627776 by omega,yd,q07 (show i<1000000000000 by omega)]) (fun k=>by
   show q9r 600 (q8m 600 k) _ _ _ _ _=_
   unfold q9r
   simp only[yv,dF,cF])
 unfold q9s
 rw[h2]
 rfl
theorem jat:q9s 600 256 1 0=some (lvP,()):=by
 have h:=zwp (m:=256) (by decide) (a:=1) (z:=0) (by decide) (by decide)
 rw[show((256:Nat):Int)=256 from rfl]at h
 rw[h]
 unfold lvP
 rw[q01 (f:=fun i=>(i:Int)) fun i _=>by omega]
theorem rlvS_is{bit:Int}(hb:0≤bit∧bit≤1):q9s 600 128 2 bit=some (lvS bit,()):=
 zwp (m:=128) (by decide) (a:=2) (z:=bit) (by decide) (by omega)
theorem rlvF_is:q9s 600 256 8 4=some (lvF,()):=
 zwp (m:=256) (by decide) (a:=8) (z:=4) (by decide) (by decide)
theorem qdr{t:LI}(hl:t.length=64){c:Nat}(hc:c<4):q21 600 t (c:Int)=some (colT t c,()):=by
 have h2:=qib (m:=16) (by omega) (fun i=>t.getD (i*4+c) 0) (fun k w i=>qbe 600 k (c:Int) t w i) (fun w=>some (w,())) (fun k i hi=>by
   show qh1 600 (qbe 600 k) _ _ _ _=_
   unfold qh1
   have h3:(i:Int)<16:=by omega
   have h4:(c:Int)<4:=by omega
   simp only[h3,h4,dT,cT,yc,yb,q0g,show i+1≤1099511627776 by omega,yd,q07 (show i<1000000000000 by omega)]) (fun k=>rfl)
 unfold q21
 rw[h2]
 rfl
theorem j3c{l:LI}(hl:Rg 2047 l)(hn:l.length≤64){v:Int}(hv:0≤v∧v≤2047):∀(d i k:Nat),i+d=l.length→d<k→
  qao 600 k v l (sumN (fun i=>(l.getD i 0-v)*(l.getD i 0-v)) i) (i:Int)=some (qj5 l v,()):=by
 intro d
 induction d with
 |zero=>
  intro i k h1 h2
  obtain⟨k,rfl⟩:∃k',k=k' +1:=⟨k-1,by omega⟩
  obtain rfl:i=l.length:=by omega
  show qbf 600 (qao 600 k) _ _ _ _=_
  unfold qbf
  simp only[yv,dF,cF]
  rfl
 |succ d ih=>
  intro i k h1 h2
  obtain⟨k,rfl⟩:∃k',k=k' +1:=⟨k-1,by omega⟩
  show qbf 600 (qao 600 k) _ _ _ _=_
  unfold qbf
  have h3:(i:Int)<(l.length:Int):=by omega
  have b1:=hl i
  have b2:=qoa (x:=l.getD i 0-v) (m:=2047) (by omega)
  have b3:=ql0 (n:=i) (f:=fun i=>(l.getD i 0-v)*(l.getD i 0-v)) (m:=2047*2047) fun j _=>qoa (m:=2047) (by have:=hl j;omega)
  have b4:(2047*2047:Int)*(i:Int)≤2047*2047*64:=Int.mul_le_mul_of_nonneg_left (by omega) (by decide)
  have sq:qle 600 (y0 .i64 (l.getD i 0-v))=some ((l.getD i 0-v)*(l.getD i 0-v),()):=by
   unfold qle
   rw[w64 (x:=l.getD i 0-v) (by omega) (by omega),w64 (by omega) (by omega)]
  simp only[h3,dT,cT,yc,yd,yb,sq,y5,q07 (show i<1000000000000 by omega)]
  rw[w64 (by omega) (by omega)]
  exact ih (i+1) k (by omega) (by omega)
theorem rSum_is{l:LI}(hl:Rg 2047 l)(hn:l.length≤64){v:Int}(hv:0≤v∧v≤2047):qwy 600 v l=some (qj5 l v,()):=by
 have h:=j3c hl hn hv l.length 0 600 (by omega) (by omega)
 simp only[yq,sumN]at h
 unfold qwy
 rw[h]
 rfl
theorem j0w{l L:LI}(hl:Rg 2047 l)(hn:l.length≤64)(hL:Rg 2047 L)(hm:L.length≤300):∀(d i k:Nat),1≤i→i+d=L.length→d<k→
  q8l 600 k L l (qjj (fun i=>qj5 l (L.getD i 0)) i:Int) (i:Int)=some ((qwa L l:Int),()):=by
 intro d
 induction d with
 |zero=>
  intro i k h0 h1 h2
  obtain⟨k,rfl⟩:∃k',k=k' +1:=⟨k-1,by omega⟩
  obtain rfl:i=L.length:=by omega
  show q9q 600 (q8l 600 k) _ _ _ _=_
  unfold q9q
  simp only[yv,dF,cF]
  rfl
 |succ d ih=>
  intro i k h0 h1 h2
  obtain⟨k,rfl⟩:∃k',k=k' +1:=⟨k-1,by omega⟩
  show q9q 600 (q8l 600 k) _ _ _ _=_
  unfold q9q
  have h3:(i:Int)<(L.length:Int):=by omega
  have hlt:=zmk (fun i=>qj5 l (L.getD i 0)) (n:=i) (by omega)
  have h4:(qjj (fun i=>qj5 l (L.getD i 0)) i:Int)<(L.length:Int):=by omega
  have nx:=ih (i+1) k (by omega) (by omega) (by omega)
  unfold qjj at nx
  rw[iN (by omega)]at nx
  simp only[h3,h4,dT,cT,yc,yd,yb,rSum_is hl hn (hL _),y5,q07 (show i<1000000000000 by omega)]
  by_cases hc:qj5 l (L.getD i 0)<qj5 l (L.getD (qjj (fun i=>qj5 l (L.getD i 0)) i) 0)
  ·rw[iP hc]at nx
   simp only[hc,dT,cT]
   exact nx
  ·rw[iN hc]at nx
   simp only[hc,dF,cF]
   exact nx
theorem z90{s:LI}(hs:Rg 2047 s)(c:Nat){L:LI}(hL:Rg 2047 L)(hm:1≤L.length∧L.length≤300):q1j 600 L (colT s c)=some (bN L s c,()):=by
 have h:=j0w (l:=colT s c) (zbk hs c) (by rw[z14];decide) hL hm.2 (L.length-1) 1 600 (by omega) (by omega) (by omega)
 have e:qjj (fun i=>qj5 (colT s c) (L.getD i 0)) 1=0:=rfl
 rw[e]at h
 unfold q1j
 rw[show((0:Nat):Int)=0 from rfl,show((1:Nat):Int)=1 from rfl]at h
 rw[h]
 rfl
theorem jau(n:Int):qwz 600 n=some (q0z n,()):=by
 have key:∀T w:LI,w.length=16→qap 600 600 n T w 0=some (T,tab 16 (fun _=>n),()):=by
  intro T w hw
  refine q4r 16 (fun _=>n) (fun k w i=>qap 600 k n T w i) (fun w=>some (T,w,())) ?_ ?_ w hw 600 (by omega)
  ·intro k i w hi hw
   show qkc 600 (qap 600 k) n T w i=_
   unfold qkc
   have h3:(i:Int)<16:=by omega
   simp only[h3,dT,cT,yc,yd,yb,q07 (show i<1000000000000 by omega)]
  ·intro k w hw
   rfl
 unfold qwz
 rw[key _ _ rfl]
 rfl
theorem j3d{α:Type}{x y:Option α}{c:α}(h:x=some c)(g:∃r,x=some r∧y=some r):y=some c:=by
 obtain⟨r,g1,g2⟩:=g
 rw[h]at g1
 rw[g2,←g1]
theorem rhexB_is{n:Int}(hn:0≤n∧n≤65535):q99 600 n n (q0z 0)=some (hexB n,0,()):=by
 obtain⟨c,e,h1,h2,_⟩:=Join6_is (F:=600) (by decide) (a:=n) (b:=n) (w:=q0z 0) (z16 (by decide))
 exact j3d (jab hn) ⟨_,h1,h2⟩
theorem j79{n:Int}(hn:0≤n∧n<16):q7g 600 (q0z n)=some (z8t n,0,()):=by
 obtain⟨c,e,h1,h2,_⟩:=zzc (F:=600) (by decide) (w:=q0z n) (z16 (by omega))
 exact j3d (j0l hn) ⟨_,h1,h2⟩
theorem jav{n:Int}(hn:0≤n∧n≤255):q96 600 n n (q0z 0)=some (qko n,0,()):=by
 obtain⟨c,e,h1,h2,_⟩:=Join7_is (F:=600) (by decide) (a:=n) (b:=n) (w:=q0z 0) (z16 (by decide))
 exact j3d (j59 hn) ⟨_,h1,h2⟩
theorem j5g{w:LI}(hl:w.length=4)(hw:Rg 127 w){bit:Int}(hb:0≤bit∧bit≤1):qws 600 (w++w) [bit,bit] (q0z 0)=some (sixB w bit,0,()):=by
 rw[rSix_is,iP (j2z hl hw hb)]
 rfl
theorem jaw{A:LI}(hA:Rg 31 A):qpn 600 (true,false,A,[0,0,0],[0,0],q0z 0,())=some (zwc A,0,()):=by
 rw[j6n (F:=600) (by decide),iP (zwd hA)]
 rfl
theorem rlayB_is{x y z:Int}(h:ok3 [x,y,z]):qwt 600 [x,y,z] [x,y,z] [x,y,z]=some (layV [x,y,z] [x,y,z] [x,y,z],0,()):=by
 obtain⟨⟨a1,a2⟩,⟨b1,b2⟩,⟨c1,c2⟩⟩:=h
 simp only[yt,yu]at a1 a2 b1 b2 c1 c2
 have r:Rg 127 [x,y,z]:=q0p (by omega) (q0p (by omega) (q0p (by omega) (qvs (by decide))))
 have h64:∀i,I64 (([x,y,z]++([x,y,z]++[x,y,z])).getD i 0):=fun i=>by
  have:=q3a r (q3a r r) i
  unfold I64
  omega
 have hk:ok3 [x,y,z]:=⟨⟨a1,a2⟩,⟨b1,b2⟩,⟨c1,c2⟩⟩
 rw[(lay_is rfl rfl rfl h64).2,iP ⟨hk,hk,hk⟩]
section
variable {t:LI} (hl:t.length=64) (ht:Rg 2047 t)
include hl ht
theorem zmt{b:Nat}(hb:1≤b∧b≤8)(c:Nat):q1j 600 (lvW b) (colT t c)=some (bN (lvW b) t c,()):=
 z90 ht c (q1r (rg_lvW hb) (by decide)) (by rw[zwf];have:=pow_b hb;omega)
theorem jax(c:Nat):q1j 600 lvP (colT t c)=some (bN lvP t c,()):=
 z90 ht c (q1r rg_lvP (by decide)) (by rw[zbm];decide)
theorem rbest_S{bit:Int}(hb:0≤bit∧bit≤1)(c:Nat):q1j 600 (lvS bit) (colT t c)=some (bN (lvS bit) t c,()):=
 z90 ht c (q1r (rg_lvS hb) (by decide)) (by rw[zbn];decide)
theorem rbest_L(c:Nat):q1j 600 lvL (colT t c)=some (bN lvL t c,()):=
 z90 ht c (q1r rg_lvL (by decide)) (by rw[j32];decide)
theorem rbest_F(c:Nat):q1j 600 lvF (colT t c)=some (bN lvF t c,()):=
 z90 ht c rg_lvF (by rw[j33];decide)
omit ht in
theorem zwq:q21 600 t 0=some (colT t 0,())∧q21 600 t 1=some (colT t 1,())∧q21 600 t 2=some (colT t 2,())∧q21 600 t 3=some (colT t 3,()):=
 ⟨qdr hl (c:=0) (by decide),qdr hl (c:=1) (by decide),qdr hl (c:=2) (by decide),qdr hl (c:=3) (by decide)⟩
omit hl ht in
theorem zgi:q3e 600 4=some (lvW 4,())∧q3e 600 5=some (lvW 5,())∧q3e 600 6=some (lvW 6,())∧q3e 600 7=some (lvW 7,()):=
 ⟨z18 (b:=4) (by decide),z18 (b:=5) (by decide),z18 (b:=6) (by decide),z18 (b:=7) (by decide)⟩
theorem jay:qpq 600 t=some (hexB (hexN t),()):=by
 obtain⟨p0,p1,p2,p3⟩:=zwq hl
 obtain⟨w4,w5,w6,w7⟩:=zgi
 have b0:=bN_W (b:=5) (by decide) t 0
 have b1:=bN_W (b:=6) (by decide) t 1
 have b2:=bN_W (b:=5) (by decide) t 2
 have e:y0 .i64 (y0 .i64 (y0 .i64 (2048*bN (lvW 5) t 0)+y0 .i64 (32*bN (lvW 6) t 1))+bN (lvW 5) t 2)=hexN t:=by
  rw[w64 (x:=2048*bN (lvW 5) t 0) (by omega) (by omega),w64 (x:=32*bN (lvW 6) t 1) (by omega) (by omega),w64 (x:=2048*bN (lvW 5) t 0+32*bN (lvW 6) t 1) (by omega) (by omega),w64 (by omega) (by omega)]
  unfold hexN
  omega
 unfold qpq
 simp only[p0,p1,p2,w5,w6,y5,zmt hl ht (show 1≤5∧5≤8 by decide),zmt hl ht (show 1≤6∧6≤8 by decide),e]
 rw[show q0a=q0z 0 from rfl,rhexB_is (qrj t)]
 simp only[y5]
theorem zbo{c:Nat}(hc:c<4):qg3 600 t (c:Int)=some (qko (bN lvP t c),()):=by
 unfold qg3
 simp only[jat,qdr hl hc,jax hl ht,y5]
 rw[show q0a=q0z 0 from rfl,jav (bN_P t c)]
 simp only[y5]
theorem zbp{c:Nat}(hc:c<4):qg4 600 t (c:Int)=some (eacJ (bN lvF t c) 1 13 (q0z 4) 19,()):=by
 have hj:=zrn (qic (base:=bN lvF t c) (times:=1) (table:=13) (n:=4) (by have:=bN_F t c;omega) (by decide) (by decide) (by decide))
 unfold qg4
 simp only[rlvF_is,qdr hl hc,rbest_F hl ht,jau,hj,y5]
theorem j0x:qdf 600 t=some (plB t,()):=by
 obtain⟨p0,p1,p2,p3⟩:=zwq hl
 obtain⟨w4,w5,w6,w7⟩:=zgi
 have hj:=rlayB_is (jae t)
 unfold qdf
 simp only[p0,p1,p2,w6,w7,y5,zmt hl ht (show 1≤6∧6≤8 by decide),zmt hl ht (show 1≤7∧7≤8 by decide),hj]
 rfl
omit hl ht in
theorem j0y(x0:LI):q5a 600 600 x0 (lvW 5) 0=some (x0,lvL,()):=by
 refine zb4 32 (fun i=>q4g (q1h 5 i+2)) (lvW 5) (fun k w i=>q5a 600 k x0 w i) (fun w=>some (x0,w,())) ?_ ?_ (zwf 5) 600 (by omega)
 ·intro k i w hi hw hs
  show q7s 600 (q5a 600 k) x0 w i=_
  unfold q7s
  have h3:(i:Int)<32:=by omega
  have e:=hs i (wc _)
  have e1:(lvW 5).getD i 0=q1h 5 i:=q12 (by show i<32;omega)
  have wb:=q0v (b:=5) (by decide) (i:Int)
  have e2:y0 .i64 (q1h 5 (i:Int)+2)=q1h 5 (i:Int)+2:=w64 (by omega) (by omega)
  simp only[hw,yp,h3,dT,cT,yc,yd,yb,e,e1,e2,z5a,y5,q07 (show i<1000000000000 by omega)]
 ·intro k w hw
  show q7s 600 (q5a 600 k) x0 w (32:Nat)=_
  unfold q7s
  simp only[hw,yv,dF,cF]
theorem j0z(A x3 x4 x5:LI)(hA:A.length=3):q72 600 600 t lvL A x3 x4 x5 0=some (liN t,x3,x4,x5,()):=by
 refine q4r 3 (fun c=>bN lvL t c) (fun k w i=>q72 600 k t lvL w x3 x4 x5 i) (fun w=>some (w,x3,x4,x5,())) ?_ ?_ A hA 600 (by omega)
 ·intro k i w hi hw
  show qej 600 (q72 600 k) _ _ _ _ _ _ _=_
  unfold qej
  have h3:(i:Int)<3:=by omega
  simp only[h3,dT,cT,qdr hl (show i<4 by omega),rbest_L hl ht,y5,yc,yd,yb,q07 (show i<1000000000000 by omega)]
 ·intro k w hw
  rfl
theorem j3e:qsl 600 t=some (zwc (liN t),()):=by
 obtain⟨w4,w5,w6,w7⟩:=zgi
 have hj:=jaw (A:=liN t) (q92 (by decide) fun c _=>bN_L t c)
 unfold qsl
 simp only[w5,j0y,y5]
 rw[j0z hl ht _ _ _ _ rfl]
 simp only[y5]
 rw[show q0a=q0z 0 from rfl,hj]
 simp only[y5]
theorem zcw{bit:Int}(hb:0≤bit∧bit≤1)(x1:LI)(x2:Int)(A:LI)(hA:A.length=4):q71 600 600 t x1 x2 bit A 0=some (t,x1,x2,bit,siN bit t,()):=by
 refine q4r 4 (fun c=>bN (lvS bit) t c) (fun k w i=>q71 600 k t x1 x2 bit w i) (fun w=>some (t,x1,x2,bit,w,())) ?_ ?_ A hA 600 (by omega)
 ·intro k i w hi hw
  show qei 600 (q71 600 k) _ _ _ _ _ _=_
  unfold qei
  have h3:(i:Int)<4:=by omega
  simp only[h3,dT,cT,rlvS_is hb,qdr hl (show i<4 by omega),rbest_S hl ht hb,y5,yc,yd,yb,q07 (show i<1000000000000 by omega)]
 ·intro k w hw
  rfl
end
section
variable {t:LI} (hl:t.length=64) (ht:Rg 255 t)
include hl ht
theorem j3f:qsk 600 t=some (z8w 6 t (sixB (siN 0 t) 0) (sixB (siN 1 t) 1),()):=by
 have hr:=q1r (m:=255) (m' :=2047) ht (by decide)
 have s0:=j5g (w:=siN 0 t) (q0g _ _) (q92 (by decide) fun c _=>bN_S 0 t c) (bit:=0) (by decide)
 have s1:=j5g (w:=siN 1 t) (q0g _ _) (q92 (by decide) fun c _=>bN_S 1 t c) (bit:=1) (by decide)
 have e0:=qmt (k:=6) (qcv (siN 0 t) 0).1 fmt6 (qcv (siN 0 t) 0).2 hl ht
 have e1:=qmt (k:=6) (qcv (siN 1 t) 1).1 fmt6 (qcv (siN 1 t) 1).2 hl ht
 simp only[yp]at e0 e1
 have st:∀b n,q3t 600 598 t b n 2=some (b,()):=fun b n=>rfl
 have l1:∀b n,q3t 600 599 t b n 1=some (if qfe 6 (sixB (siN 1 t) 1) t<n then sixB (siN 1 t) 1 else b,()):=by
  intro b n
  show q7r 600 (q3t 600 598) _ _ _ _=_
  unfold q7r
  rw[zcw hl hr (bit:=1) (by decide) _ _ _ rfl]
  simp only[y5]
  rw[show q0a=q0z 0 from rfl,s1]
  simp only[y5,e1,Int.reduceBEq,cF,show y0 .i64 (1+1)=2 from rfl,st,show decide ((1:Int)<2)=true from rfl,cT]
  by_cases hc:qfe 6 (sixB (siN 1 t) 1) t<n
  ·simp only[hc,dT,cT,if_true]
  ·simp only[hc,dF,cF,if_false]
 have l0:q3t 600 600 t [] 0 0=some (z8w 6 t (sixB (siN 0 t) 0) (sixB (siN 1 t) 1),()):=by
  show q7r 600 (q3t 600 599) _ _ _ _=_
  unfold q7r
  rw[zcw hl hr (bit:=0) (by decide) _ _ _ rfl]
  simp only[y5]
  rw[show q0a=q0z 0 from rfl,s0]
  simp only[y5,e0,Int.reduceBEq,beq_self_eq_true,cT,show y0 .i64 (0+1)=1 from rfl,l1,show decide ((0:Int)<2)=true from rfl]
  rfl
 unfold qsk
 rw[l0]
 rfl
end
theorem j3g{t:LI}(hl:t.length=64)(ht:Rg 255 t):q59 600 t=some (true,()):=by
 have l2:∀(i:Nat),i<16→∀(d c k:Nat),c+d=4→d<k→q1b 600 k t (i:Int) (c:Int)=some (.inr (t,(i:Int),())):=by
  intro i hi d
  induction d with
  |zero=>
   intro c k h1 h2
   obtain⟨k,rfl⟩:∃k',k=k' +1:=⟨k-1,by omega⟩
   obtain rfl:c=4:=by omega
   rfl
  |succ d ih=>
   intro c k h1 h2
   obtain⟨k,rfl⟩:∃k',k=k' +1:=⟨k-1,by omega⟩
   show q4m 600 (q1b 600 k) t i c=_
   unfold q4m
   have h3:(i:Int)<16:=by omega
   have h4:(c:Int)<4:=by omega
   have hr:=ht (i*4+c)
   have v1:¬t.getD (i*4+c) 0<0:=by omega
   have v2:¬255<t.getD (i*4+c) 0:=by omega
   simp only[h3,h4,dT,cT,yc,yd,yb,q07 (show c<1000000000000 by omega),v1,v2,dF,cF]
   exact ih (c+1) k (by omega) (by omega)
 have l0:∀(d i k:Nat),i+d=16→d<k→q1c 600 k t (i:Int)=some (.inr ()):=by
  intro d
  induction d with
  |zero=>
   intro i k h1 h2
   obtain⟨k,rfl⟩:∃k',k=k' +1:=⟨k-1,by omega⟩
   obtain rfl:i=16:=by omega
   rfl
  |succ d ih=>
   intro i k h1 h2
   obtain⟨k,rfl⟩:∃k',k=k' +1:=⟨k-1,by omega⟩
   show q4n 600 (q1c 600 k) t i=_
   unfold q4n
   have h3:(i:Int)<16:=by omega
   have h:=l2 i (by omega) 4 0 600 (by omega) (by omega)
   rw[show((0:Nat):Int)=0 from rfl]at h
   simp only[h3,dT,cT,h,y5,q07 (show i<1000000000000 by omega)]
   exact ih (i+1) k (by omega) (by omega)
 have h:=l0 16 0 600 (by omega) (by omega)
 rw[show((0:Nat):Int)=0 from rfl]at h
 unfold q59
 rw[h]
 rfl
theorem j7a(v:Nat→Int):qg0 600 (tab 4 v)=some (oneT v,()):=by
 have key:∀(T:LI) (d i k:Nat),i+d=16→d<k→q9i 600 k (tab 4 v) T (tab 64 fun j=>if j<i*4 then v (j%4)else 0) (i:Int)=some (T,oneT v,()):=by
  intro T d
  induction d with
  |zero=>
   intro i k h1 h2
   obtain⟨k,rfl⟩:∃k',k=k' +1:=⟨k-1,by omega⟩
   obtain rfl:i=16:=by omega
   show some (T,tab 64 _,())=_
   rw[q01 (g:=fun j=>if j<16*4 then v (j%4)else 0) (f:=fun j=>v (j%4)) fun j hj=>iP hj]
   rfl
  |succ d ih=>
   intro i k h1 h2
   obtain⟨k,rfl⟩:∃k',k=k' +1:=⟨k-1,by omega⟩
   show qe9 600 (q9i 600 k) _ _ _ _=_
   unfold qe9
   have h3:(i:Int)<16:=by omega
   simp only[h3,dT,cT,yc,yd,yb,q07 (show i<1000000000000 by omega)]
   have e:(tab 64 fun j=>if j/4=i then v (j%4)else if j<i*4 then v (j%4)else 0)=tab 64 fun j=>if j<(i+1)*4 then v (j%4)else 0:=q01 fun j hj=>by
    by_cases hj' :j/4=i
    ·rw[iP hj',iP (by omega)]
    ·rw[iN hj']
     by_cases hl:j<i*4
     ·rw[iP hl,iP (by omega)]
     ·rw[iN hl,iN (by omega)]
   rw[qf5 (show i*4+4≤64 by omega),e]
   exact ih (i+1) k (by omega) (by omega)
 have h:=key q0l 16 0 600 (by omega) (by omega)
 have e0:(tab 64 fun j=>if j<0*4 then v (j%4)else 0)=q0l:=by
  rw[q01 (f:=fun _=>0) fun j hj=>iN (by omega)]
  rfl
 rw[e0,show((0:Nat):Int)=0 from rfl]at h
 unfold qg0
 rw[h]
 rfl
section
variable {t:LI} (hl:t.length=64) (ht:Rg 255 t)
include hl ht
theorem zmu{k:Nat}(h:Fmt k):q10 600 (k:Int) t=some (qc4 k (scT k t),0,()):=by
 have hr:=q1r (m:=255) (m' :=2047) ht (by decide)
 obtain⟨p0,p1,p2,p3⟩:=zwq hl
 obtain⟨w4,w5,w6,w7⟩:=zgi
 have hx:=jay hl hr
 have pl:=j0x hl hr
 have r0:=zbo hl hr (c:=0) (by decide)
 have r1:=zbo hl hr (c:=1) (by decide)
 have r3:=zbo hl hr (c:=3) (by decide)
 simp only[yq,Int.natCast_one,yp]at r0 r1 r3
 have ln:∀{n m:Nat},n=8→m=8→decide (n+m≤1099511627776)=true:=fun h1 h2=>by rw[h1,h2];rfl
 have go:∀k:Nat,Fmt k→qka 600 (k:Int)=some (((q5w k:Int),qvt k,z07 k,()),0,())∧qg2 600 (k:Int) t=some (scT k t,()):=fun k h=>⟨by rw[(zrg 600 _).1,zmf 600 h],j0u h hl ht⟩
 have bw:=j3g hl ht
 refine qfa (p:=fun k=>q10 600 (k:Int) t=some (qc4 k (scT k t),0,())) ?_ ?_ ?_ ?_ ?_ ?_ ?_ ?_ ?_ ?_ ?_ ?_ h
 ·have g:=go 1 ⟨by decide,by decide⟩
  simp only[Int.natCast_one]at g⊢
  unfold q10
  simp only[g.1,g.2,bw,y5,bne_self_eq_false,cF,Bool.not_true,Int.reduceBEq,beq_self_eq_true,cT,hx]
  rfl
 ·have g:=go 2 ⟨by decide,by decide⟩
  have f2:=j79 (n:=bN (lvW 4) t 3) (bN_W (b:=4) (by decide) t 3)
  simp only[yp]at g⊢
  unfold q10
  simp only[g.1,g.2,bw,y5,bne_self_eq_false,cF,Bool.not_true,Int.reduceBEq,beq_self_eq_true,cT,hx,w4,p3,zmt hl hr (show 1≤4∧4≤8 by decide),jau,f2,ln (z08 _).2 (qti _).2,yd]
  rfl
 ·have g:=go 3 ⟨by decide,by decide⟩
  simp only[yp]at g⊢
  unfold q10
  simp only[g.1,g.2,bw,y5,bne_self_eq_false,cF,Bool.not_true,Int.reduceBEq,beq_self_eq_true,cT,hx,r3,ln (q8v _).2 (qti _).2,yd]
  rfl
 ·have g:=go 4 ⟨by decide,by decide⟩
  simp only[yp]at g⊢
  unfold q10
  simp only[g.1,g.2,bw,y5,bne_self_eq_false,cF,Bool.not_true,Int.reduceBEq,beq_self_eq_true,cT,r0]
  rfl
 ·have g:=go 5 ⟨by decide,by decide⟩
  simp only[yp]at g⊢
  unfold q10
  simp only[g.1,g.2,bw,y5,bne_self_eq_false,cF,Bool.not_true,Int.reduceBEq,beq_self_eq_true,cT,r0,r1,ln (q8v _).2 (q8v _).2,yd]
  rfl
 ·have g:=go 6 ⟨by decide,by decide⟩
  simp only[yp]at g⊢
  unfold q10
  simp only[g.1,g.2,bw,y5,bne_self_eq_false,cF,Bool.not_true,Int.reduceBEq,beq_self_eq_true,cT,j3f hl ht]
  rfl
 ·have g:=go 7 ⟨by decide,by decide⟩
  simp only[yp]at g⊢
  unfold q10
  simp only[g.1,g.2,bw,y5,bne_self_eq_false,cF,Bool.not_true,Int.reduceBEq,beq_self_eq_true,cT,j3e hl hr]
  rfl
 ·have g:=go 8 ⟨by decide,by decide⟩
  simp only[yp]at g⊢
  unfold q10
  simp only[g.1,g.2,bw,y5,bne_self_eq_false,cF,Bool.not_true,Int.reduceBEq,beq_self_eq_true,cT,pl]
  rfl
 ·have g:=go 9 ⟨by decide,by decide⟩
  have e0:=qmt (k:=9) (z42 t).1 ⟨by decide,by decide⟩ (z42 t).2 hl ht
  have e1:=qmt (k:=9) bareB_ok.1 ⟨by decide,by decide⟩ bareB_ok.2 hl ht
  simp only[yp]at g e0 e1⊢
  have hn:z8w 9 t (plB t) zfw=qc4 9 (scT 9 t):=rfl
  unfold q10
  rw[show qam=zfw from rfl,←hn]
  simp only[g.1,g.2,bw,y5,bne_self_eq_false,cF,Bool.not_true,Int.reduceBEq,beq_self_eq_true,cT,pl,e0,e1]
  unfold z8w
  by_cases hc:qfe 9 zfw t<qfe 9 (plB t) t
  ·simp only[hc,dT,cT,if_true]
  ·simp only[hc,dF,cF,if_false]
 ·have g:=go 10 ⟨by decide,by decide⟩
  have j:=zrn (qic (base:=bN lvP t 3) (times:=0) (table:=0) (n:=0) (bN_P t 3) (by decide) (by decide) (by decide))
  simp only[yp]at g⊢
  unfold q10
  rw[show q0a=q0z 0 from rfl]
  simp only[g.1,g.2,bw,y5,bne_self_eq_false,cF,Bool.not_true,Int.reduceBEq,beq_self_eq_true,cT,jat,p3,jax hl hr,j,pl,ln (qcu _ _ _ _) (z42 _).2,yd]
  rfl
 ·have g:=go 11 ⟨by decide,by decide⟩
  have f0:=zbp (t:=scT 11 t) (zw8 hl) (zmg (k:=11) ht) (c:=0) (by decide)
  simp only[yp,yq]at g f0⊢
  unfold q10
  simp only[g.1,g.2,bw,y5,bne_self_eq_false,cF,Bool.not_true,Int.reduceBEq,beq_self_eq_true,cT,f0]
  rfl
 ·have g:=go 12 ⟨by decide,by decide⟩
  have f0:=zbp (t:=scT 12 t) (zw8 hl) (zmg (k:=12) ht) (c:=0) (by decide)
  have f1:=zbp (t:=scT 12 t) (zw8 hl) (zmg (k:=12) ht) (c:=1) (by decide)
  simp only[yp,yq,Int.natCast_one]at g f0 f1⊢
  unfold q10
  simp only[g.1,g.2,bw,y5,bne_self_eq_false,cF,Bool.not_true,Int.reduceBEq,beq_self_eq_true,cT,f0,f1,ln (qcu _ _ _ _) (qcu _ _ _ _),yd]
  rfl
end
theorem j10(f:Int){t:LI}(hl:t.length=64):(∃e,e≠0∧q3d 600 f t=some ([],e,())∧q10 600 f t=some ([],e,()))∨
  (∃k,Fmt k∧f=(k:Int)∧Rg 255 t∧q3d 600 f t=some (qc4 k (scT k t),0,())∧q10 600 f t=some (qc4 k (scT k t),0,())):=by
 by_cases h:1≤f∧f≤12
 ·obtain⟨k,hk,rfl⟩:=fmt_of h
  rcases zwh hl with⟨h1,ht⟩|h1
  ·exact .inr ⟨k,hk,rfl,ht,z17 hk hl ht h1,zmu hl ht hk⟩
  ·left
   have hb:q59 600 t=some (false,()):=by
    rcases zq6 hl with⟨h2,ht⟩|h2
    ·rw[zrm hl ht]at h1
     simp at h1
    ·exact h2
   refine⟨1,by decide,?_,?_⟩
   ·unfold q3d
    rw[zmf 600 hk]
    simp only[y5,bne_self_eq_false,cF,h1,Bool.not_false,cT]
   ·unfold q10
    rw[(zrg 600 _).1,zmf 600 hk]
    simp only[y5,bne_self_eq_false,cF,hb,Bool.not_false,cT]
 ·left
  refine⟨5,by decide,?_,?_⟩
  ·unfold q3d
   rw[ja7 600 h]
   rfl
  ·unfold q10
   rw[(zrg 600 _).1,ja7 600 h]
   rfl
theorem law14_FlatTells_true(f:Int)(t:LI)(_:IntKind.i64.has f)(ht:t.length=64∧∀x∈t,IntKind.i64.has x):∃F,qlm F f t=some (true,()):=by
 refine⟨600,?_⟩
 unfold qlm
 rw[awake14]
 simp only[y5]
 rcases j10 f ht.1 with⟨e,he,hB,hR⟩|⟨k,hk,rfl,hr,hB,hR⟩
 ·have hc:qan 600 f t=some ([0,0,0,0],e,()):=by
   unfold qan
   rw[hB]
   simp only[y5,bneT he,cT]
  rw[hB,hR]
  simp only[y5]
  rw[j8o [] (by decide) (by decide)]
  simp only[y5,Bool.not_true,cF,bne_self_eq_false,hc,bneT he,cT,beq_self_eq_true]
 ·have hok:=qob (scT k t) hk
  have hlen:(qc4 k (scT k t)).length<600:=by
   have:=zbi k
   rw[hok.2]
   omega
  have e4:y8 4 t=tab 4 fun c=>t.getD c 0:=by
   have h:=q7u ht.1 (i:=0) (by decide)
   rw[Nat.zero_mul,List.drop_zero]at h
   rw[h]
   exact q01 fun c hc=>by rw[Nat.zero_add]
  have hv:∀c,c<4→0≤t.getD c 0∧t.getD c 0≤255:=fun c _=>hr c
  have ha:Rg 255 (oneT fun c=>t.getD c 0):=z09 (by decide) hv
  have hla:(oneT fun c=>t.getD c 0).length=64:=q0g _ _
  have hB2:=zmu hla ha hk
  have hok2:=qob (scT k (oneT fun c=>t.getD c 0)) hk
  have hE:=qmt hok2.1 hk hok2.2 hla ha
  have hX:=j78 hk hv
  have h4:y8 4 (oneT (zwj k (scT k t)))=tab 4 (zwj k (scT k t)):=by
   have h:=jaq (zwj k (scT k t)) (i:=0) (by decide)
   rwa [Nat.zero_mul,List.drop_zero]at h
  have hD:qde 600 (k:Int) (qc4 k (scT k t))=some (oneT (zwj k (scT k t)),0,()):=by
   rw[zcv hok.1 hk hok.2,jap _ hk]
  rw[j36 hk hB,hB,hR]
  simp only[y5]
  rw[j8o _ hlen (by decide)]
  simp only[y5,Bool.not_true,cF,bne_self_eq_false,hD,e4,j7a,hB2,hE,cT,beq_self_eq_true,h4,hX]
end Go.AE.Gn

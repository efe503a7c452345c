/- A part of the proof, put together of my texts: Pure02, Pure02b, PureBits, PureLow, Pure03, Pure07, PureLib2, PureTab, PureLoop, Pure06, Pure06b, Pure09, Pure09b, Pure09c, Pure09d, Pure09e. -/
import Derived.Test.YtdnccegimipapaaGreatRowBcfitTwoP6
set_option linter.unusedSimpArgs false
set_option linter.unusedVariables false
open Go.IntKind renaming wrap → y0
open Int renaming eq_ofNat_of_zero_le → yh, natCast_pow → wg, tdiv → yv, tmod → yu, natCast_nonneg → yc, toNat_natCast → yb, natCast_zero → yq, cast_ofNat_Int → yp, lt_irrefl → yt, toNat → y6
open List renaming range → yy, getD_eq_getElem?_getD → ye, take → y8, length_append → yo, replicate → yx, drop → y9, set → yw, getD → y7, getElem?_eq_none → w9
open Option renaming bind_some → y5
open Bool renaming and_self → yd, false_eq_true → yn, and_eq_true → yl
open Nat renaming le_refl → wa, add_assoc → we
namespace Go.AE.Gn
open Go Go.AE
def bitL(x:Int)(j:Nat):Int:=x/2^j%2
theorem zr4(x:Int)(j:Nat):bitL x j=0∨bitL x j=1:=by unfold bitL;omega
def q48(b:LI)(i:Nat):Int:=bitL (b.getD (i/8) 0) (i%8)
def zje(b:LI)(i:Nat):Int:=bitL (b.getD (i/8) 0) (7-i%8)
theorem j3t{a b k:Nat}(hb:b<2^k)(h:a*2^k+b<2^64):ior .u64 ((a*2^k:Nat):Int) (b:Int)=((a*2^k+b:Nat):Int):=by
 have h1:a*2^k<2^64:=by omega
 have h2:b<2^64:=by omega
 have e1:(BitVec.ofInt 64 ((a*2^k:Nat):Int)).toNat=a*2^k:=by
  rw[BitVec.ofInt_natCast,BitVec.toNat_ofNat,Nat.mod_eq_of_lt h1]
 have e2:(BitVec.ofInt 64 (b:Int)).toNat=b:=by
  rw[BitVec.ofInt_natCast,BitVec.toNat_ofNat,Nat.mod_eq_of_lt h2]
 have e3:(BitVec.ofInt 64 ((a*2^k:Nat):Int)|||BitVec.ofInt 64 (b:Int)).toNat=a*2^k+b:=by
  rw[BitVec.toNat_or,e1,e2,Nat.mul_comm,←Nat.two_pow_add_eq_or_of_lt hb]
 show y0 .u64 (((BitVec.ofInt 64 ((a*2^k:Nat):Int)|||BitVec.ofInt 64 (b:Int)).toNat:Nat):Int)=_
 rw[e3]
 exact wu64 (by omega) (by omega)
theorem zz4(k:IntKind)(x y:Int):ior k x y=ior k y x:=by
 unfold ior
 rw[BitVec.or_comm]
theorem zz5{x:Int}{k:Nat}(hk:k≤64)(h0:0≤x*2^k)(h:x*2^k≤18446744073709551615):ishl .u64 x (k:Int)=x*2^k:=by
 unfold ishl
 have:min ((k:Int).toNat) (IntKind.bits .u64)=k:=by
  show min ((k:Int).toNat) 64=k
  simp
  omega
 rw[this]
 exact wu64 h0 h
theorem zz6{x:Int}{k:Nat}(hk:k≤64)(hx:0≤x):ishr .u64 x (k:Int)=x/2^k:=by
 unfold ishr
 have:min ((k:Int).toNat) (IntKind.bits .u64)=k:=by
  show min ((k:Int).toNat) 64=k
  simp
  omega
 rw[this,Int.fdiv_eq_ediv_of_nonneg _ (Int.le_of_lt (Int.pow_pos (by decide)))]
theorem iand_one{n:Int}(h0:0≤n)(h:n≤18446744073709551615):iand .u64 n 1=n%2:=by
 obtain⟨m,rfl⟩:=yh h0
 have e1:(BitVec.ofInt 64 (m:Int)).toNat=m:=by
  rw[BitVec.ofInt_natCast,BitVec.toNat_ofNat,Nat.mod_eq_of_lt (by omega)]
 show y0 .u64 (((BitVec.ofInt 64 (m:Int)&&&BitVec.ofInt 64 1).toNat:Nat):Int)=_
 rw[BitVec.toNat_and,e1,show(BitVec.ofInt 64 1).toNat=1 from rfl,Nat.and_one_is_mod]
 rw[wu64 (by omega) (by omega)]
 omega
theorem ior_top{x v:Int}{k:Nat}(hx:0≤x∧x<2^k)(hk:k<64)(hv:v=0∨v=1):ior .u64 x (ishl .u64 v (k:Int))=x+v*2^k:=by
 have hp:(2:Int)^k≤9223372036854775808:=pow63 (by omega)
 have hpp:(0:Int)<2^k:=Int.pow_pos (by decide)
 rw[zz5 (by omega) (by rcases hv with rfl|rfl<;>omega) (by rcases hv with rfl|rfl<;>omega)]
 obtain⟨n,rfl⟩:=yh hx.1
 obtain⟨a,rfl⟩:∃a:Nat,v=a:=yh (by omega)
 have ep:((2^k:Nat):Int)=(2:Int)^k:=wg 2 k
 have hn:n<2^k:=by omega
 have e:((a:Int)*2^k)=((a*2^k:Nat):Int):=by rw[Int.natCast_mul,ep]
 have ha:a*2^k+n<2^64:=by
  have:a=0∨a=1:=by omega
  rcases this with rfl|rfl<;>omega
 rw[e,zz4,j3t hn ha]
 omega
def zr5(x:Int):LI:=(yy 8).map fun j=>bitL x j
theorem zr6(n:Nat):((yy 256).all fun x=>qj7 (n+9) x==some (zr5 x,()))=true:=by kernel_rfl
theorem j3u{F:Nat}(hF:9≤F){x:Int}(h:0≤x∧x≤255):qj7 F x=some (zr5 x,()):=by
 obtain⟨m,rfl⟩:=yh h.1
 obtain⟨n,rfl⟩:∃n,F=n+9:=⟨F-9,by omega⟩
 have:=List.all_eq_true.1 (zr6 n) m (by simp;omega)
 simpa using this
theorem zx4(x:Int){j:Nat}(h:j<8):(zr5 x).getD j 0=bitL x j:=by
 simp[zr5,ye,h]
theorem low_is{F:Nat}(hF:9≤F){b:LI}(hb:Bytes b){i:Nat}(hi:i<8*b.length)(hl:b.length≤1099511627776):zdw F b i=some (q48 b i,()):=by
 have e1:y0 .i64 (yv (i:Int) 8)=((i/8:Nat):Int):=by
  rw[q3s (by omega),w64 (by omega) (by omega)];omega
 have e2:yu (i:Int) 8=((i%8:Nat):Int):=by
  rw[tmod_nonneg (by omega)];omega
 have h1:((i/8:Nat):Int)<(b.length:Int):=by omega
 have h2:((i%8:Nat):Int)<8:=by omega
 unfold zdw
 simp only[e1,e2,j3u hF (hb.getD _),y5]
 simp only[h1,h2,yc,dT,yd,cT,yb,zx4 _ (show i%8<8 by omega)]
 rfl
def chk(len:Nat)(at_ n:Int):Int:=if at_<0∨n<0∨64<n then 1 else if at_+n≤8*(len:Int)then 0 else 2
theorem zz7(F:Nat){b:LI}(hl:b.length≤1099511627776){a n:Int}(ha:a≤9223372036854775807):qiv F b a n=some (chk b.length a n,()):=by
 unfold chk qiv
 by_cases h1:a<0
 ·simp[h1]
 by_cases h2:n<0
 ·simp[h1,h2]
 by_cases h3:64<n
 ·simp[h1,h2,h3]
 have e1:y0 .i64 (8*(b.length:Int))=8*(b.length:Int):=w64 (by omega) (by omega)
 unfold qne
 by_cases h4:a≤8*(b.length:Int)
 ·have e2:y0 .i64 (8*(b.length:Int)-a)=8*(b.length:Int)-a:=w64 (by omega) (by omega)
  by_cases h5:a+n≤8*(b.length:Int)
  ·have h6:n≤8*(b.length:Int)-a:=by omega
   simp[h1,h2,h3,e1,e2,h4,h5,h6]
  ·have h6:¬n≤8*(b.length:Int)-a:=by omega
   simp[h1,h2,h3,e1,e2,h4,h5,h6]
 ·have h5:¬a+n≤8*(b.length:Int):=by omega
  simp[h1,h2,h3,e1,h4,h5]
theorem zui{F:Nat}(hF:9≤F){b:LI}(hb:Bytes b)(hl:b.length≤1099511627776){A N:Nat}(hA:A+N≤8*b.length)(hN:N≤64):∀(k i:Nat),i≤N→N-i<k→
  qat F k b A 0 (qep (fun j=>q48 b (A+j)) i) N i=some (.inr (0,qep (fun j=>q48 b (A+j)) N,()))
 |0,i,_,h=>by omega
 |k+1,i,hi,hk=>by
  unfold qat qkw
  by_cases h:i<N
  ·have h1:(i:Int)<(N:Int):=by omega
   have e1:y0 .i64 ((A:Int)+(i:Int))=((A+i:Nat):Int):=by rw[w64 (by omega) (by omega)];omega
   have e2:y0 .i64 ((i:Int)+1)=((i+1:Nat):Int):=by rw[w64 (by omega) (by omega)];omega
   have e3:ior .u64 (qep (fun j=>q48 b (A+j)) i) (ishl .u64 (q48 b (A+i)) (i:Int))=qep (fun j=>q48 b (A+j)) (i+1):=
    ior_top (z31 fun j _=>zr4 _ _) (by omega) (zr4 _ _)
   simp only[h1,dT,cT,e1,low_is hF hb (show A+i<8*b.length by omega) hl,y5,yc,e2,e3]
   exact zui hF hb hl hA hN k (i+1) (by omega) (by omega)
  ·have:i=N:=by omega
   subst this
   simp
def lowV(b:LI)(a n:Int):Int:=if chk b.length a n=0 then qep (fun j=>q48 b (a.toNat+j)) n.toNat else 0
def zuj(b:LI)(a n:Int):Int:=if chk b.length a n=0 then qn2 (fun j=>zje b (a.toNat+j)) n.toNat else 0
theorem chk0{len:Nat}{a n:Int}(h:chk len a n=0):0≤a∧0≤n∧n≤64∧a+n≤8*(len:Int):=by
 unfold chk at h
 split at h
 ·omega
 ·split at h
  ·omega
  ·omega
theorem Low_is{F:Nat}(hF:66≤F){b:LI}(hb:Bytes b)(hl:b.length≤1099511627776){a n:Int}(ha:a≤9223372036854775807):qyv F b a n=some (lowV b a n,chk b.length a n,()):=by
 unfold qyv lowV
 simp only[zz7 F hl ha,y5]
 by_cases hc:chk b.length a n=0
 ·obtain⟨h1,h2,h3,h4⟩:=chk0 hc
  obtain⟨A,rfl⟩:=yh h1
  obtain⟨N,rfl⟩:=yh h2
  have:=zui (F:=F) (by omega) hb hl (A:=A) (N:=N) (by omega) (by omega) F 0 (by omega) (by omega)
  simp only[qep,yq]at this
  rw[hc]
  simp only[yb,if_true]
  rw[this]
  rfl
 ·rw[iN hc]
  obtain⟨k,rfl⟩:∃k,F=k+1:=⟨F-1,by omega⟩
  unfold qat qkw
  by_cases h0:0<n
  ·simp[h0,bneT hc]
  ·simp[h0]
theorem zuk(x:Int)(k:Nat):x/2^k/2=x/2^(k+1):=by
 rw[Int.pow_succ,Int.ediv_ediv_of_nonneg (Int.le_of_lt (qgm k))]
theorem zjf{F:Nat}{x:Int}(h:0≤x∧x≤255){n:Nat}(hn:n≤7):∀(k i:Nat),i≤n→n-i<k→q8d F k n (x/2^i) i=some (x/2^n,())
 |0,i,_,h=>by omega
 |k+1,i,hi,hk=>by
  unfold q8d qq4
  by_cases hl:i<n
  ·have h1:(i:Int)<(n:Int):=by omega
   have h0:0≤x/2^i:=Int.ediv_nonneg h.1 (Int.le_of_lt (qgm i))
   have h2:x/2^i≤x:=Int.ediv_le_self _ h.1
   have e1:y0 .i64 (yv (x/2^i) 2)=x/2^(i+1):=by
    rw[q3s h0,w64 (by omega) (by omega),zuk]
   have e2:y0 .i64 ((i:Int)+1)=((i+1:Nat):Int):=by rw[w64 (by omega) (by omega)];omega
   simp only[h1,dT,cT,e1,e2]
   exact zjf h hn k (i+1) (by omega) (by omega)
  ·have:i=n:=by omega
   subst this
   simp
def zz8(b:LI)(i:Nat)(high:Bool):Int:=if high then zje b i else q48 b i
theorem bit_is{F:Nat}(hF:9≤F){b:LI}(hb:Bytes b){i:Nat}(hi:i<8*b.length)(hl:b.length≤1099511627776)(high:Bool):qbz F b i high=some (zz8 b i high,()):=by
 have e1:y0 .i64 (yv (i:Int) 8)=((i/8:Nat):Int):=by
  rw[q3s (by omega),w64 (by omega) (by omega)];omega
 have e2:yu (i:Int) 8=((i%8:Nat):Int):=by
  rw[tmod_nonneg (by omega)];omega
 have e3:y0 .i64 (7-((i%8:Nat):Int))=((7-i%8:Nat):Int):=by
  rw[w64 (by omega) (by omega)];omega
 have h1:((i/8:Nat):Int)<(b.length:Int):=by omega
 have hx:=hb.getD (i/8)
 have nn:∀j,0≤b.getD (i/8) 0/2^j:=fun j=>Int.ediv_nonneg hx.1 (Int.le_of_lt (qgm j))
 have lo:=zjf (F:=F) hx (n:=i%8) (by omega) F 0 (by omega) (by omega)
 have hi' :=zjf (F:=F) hx (n:=7-i%8) (by omega) F 0 (by omega) (by omega)
 simp only[Int.pow_zero,Int.ediv_one,yq]at lo hi'
 unfold qbz zz8
 cases high
 ·simp only[cF,e1,e2,h1,yc,dT,yd,cT,yb,lo,y5,tmod_nonneg (nn _)]
  rfl
 ·simp only[cT,e1,e2,e3,h1,yc,dT,yd,yb,hi',y5,tmod_nonneg (nn _)]
  rfl
theorem fits_is(F:Nat){b:LI}(hl:b.length≤1099511627776){a n:Int}(ha:0≤a)(hn: -9223372036854775808≤n):qyw F b a n=some (decide (a+n≤8*(b.length:Int)∧a≤8*(b.length:Int)),()):=by
 have e1:y0 .i64 (8*(b.length:Int))=8*(b.length:Int):=w64 (by omega) (by omega)
 unfold qyw
 by_cases h4:a≤8*(b.length:Int)
 ·have e2:y0 .i64 (8*(b.length:Int)-a)=8*(b.length:Int)-a:=w64 (by omega) (by omega)
  by_cases h5:a+n≤8*(b.length:Int)
  ·have h6:n≤8*(b.length:Int)-a:=by omega
   simp[e1,e2,h4,h5,h6]
  ·have h6:¬n≤8*(b.length:Int)-a:=by omega
   simp[e1,e2,h4,h5,h6]
 ·simp[e1,h4]
theorem zul{F:Nat}(hF:9≤F){b:LI}(hb:Bytes b)(hl:b.length≤1099511627776){A N:Nat}(hA:A+N≤8*b.length)(hN:N≤64)(high:Bool){g:Nat→Int}
  (hg:∀i,i<N→g i=if high then zje b (A+i)else q48 b (A+(N-1-i))):∀(k i:Nat),i≤N→N-i<k→
  q8e F k b A N high (qn2 g i) i=some (qn2 g N,())
 |0,i,_,h=>by omega
 |k+1,i,hi,hk=>by
  unfold q8e qq5
  by_cases h:i<N
  ·have h1:(i:Int)<(N:Int):=by omega
   have e1:y0 .i64 ((A:Int)+(i:Int))=((A+i:Nat):Int):=by rw[w64 (by omega) (by omega)];omega
   have e1' :y0 .i64 (y0 .i64 (y0 .i64 ((A:Int)+(N:Int))-1)-(i:Int))=((A+(N-1-i):Nat):Int):=by
    rw[w64 (x:=(A:Int)+(N:Int)) (by omega) (by omega),w64 (x:=(A:Int)+(N:Int)-1) (by omega) (by omega),w64 (by omega) (by omega)];omega
   have e2:y0 .i64 ((i:Int)+1)=((i+1:Nat):Int):=by rw[w64 (by omega) (by omega)];omega
   have hg01:Bit g N:=fun j hj=>by
    rw[hg j hj]
    split<;>exact zr4 _ _
   have hbd:=zjc (f:=g) (n:=i) fun j hj=>hg01 j (by omega)
   have hp:(2:Int)^i≤9223372036854775808:=pow63 (by omega)
   have hgi:=hg01 i h
   have e3:y0 .u64 (y0 .u64 (2*qn2 g i)+y0 .u64 (g i))=qn2 g (i+1):=by
    rw[wu64 (x:=2*qn2 g i) (by omega) (by omega),wu64 (x:=g i) (by omega) (by omega),wu64 (by omega) (by omega)];rfl
   have ih:=zul hF hb hl hA hN high hg k (i+1) (by omega) (by omega)
   have hgi2:=hg i h
   cases high
   ·have hbit:=bit_is hF hb (show A+(N-1-i)<8*b.length by omega) hl false
    have e4:zz8 b (A+(N-1-i)) false=g i:=by rw[hgi2];rfl
    rw[e4]at hbit
    simp only[h1,dT,cT,cF,e1',hbit,y5,e2,e3]
    exact ih
   ·have hbit:=bit_is hF hb (show A+i<8*b.length by omega) hl true
    have e4:zz8 b (A+i) true=g i:=by rw[hgi2];rfl
    rw[e4]at hbit
    simp only[h1,dT,cT,e1,hbit,y5,e2,e3]
    exact ih
  ·have:i=N:=by omega
   subst this
   simp
theorem Get_is{F:Nat}(hF:66≤F){b:LI}(hb:Bytes b)(hl:b.length≤1099511627776){a n:Int}(high:Bool):
  qnf F b a n high=some (if high then zuj b a n else lowV b a n,chk b.length a n,()):=by
 unfold qnf
 by_cases h1:a<0
 ·simp[h1,chk,lowV,zuj]
 by_cases h2:n<0
 ·simp[h1,h2,chk,lowV,zuj]
 by_cases h3:64<n
 ·simp[h1,h2,h3,chk,lowV,zuj]
 have hc:chk b.length a n=if a+n≤8*(b.length:Int)then 0 else 2:=by simp[chk,h1,h2,h3]
 rw[fits_is F hl (by omega) (by omega)]
 by_cases h4:a+n≤8*(b.length:Int)
 ·have h5:a≤8*(b.length:Int):=by omega
  rw[iP h4]at hc
  obtain⟨A,rfl⟩:=yh (show 0≤a by omega)
  obtain⟨N,rfl⟩:=yh (show 0≤n by omega)
  have key:=zul (F:=F) (by omega) hb hl (A:=A) (N:=N) (by omega) (by omega) high (g:=fun i=>if high then zje b (A+i)else q48 b (A+(N-1-i))) (fun i _=>rfl) F 0 (by omega) (by omega)
  have key' :q8e F F b A N high 0 0=some (if high then zuj b A N else lowV b A N,()):=by
   simp only[qn2,yq]at key
   rw[key]
   congr 2
   cases high
   ·simp only[yn,if_false,lowV,hc,if_true,yb]
    exact j3s (fun j=>q48 b (A+j)) N
   ·simp only[if_true,zuj,hc,yb]
  simp[h1,h2,h3,h4,h5,hc,key']
 ·rw[iN h4]at hc
  have hz:∀high:Bool,(if high then zuj b a n else lowV b a n)=0:=by
   intro high
   cases high<;>simp[lowV,zuj,hc]
  simp only[h1,h2,h3,dF,cF,y5,h4,false_and,Bool.not_false,cT,hc,hz]
def setB(x:Int)(k:Nat)(v:Int):Int:=x-bitL x k*2^k+v*2^k
theorem j0x:((yy 256).all fun x=>(yy 8).all fun k=>(yy 2).all fun v=>(ior .u8 (zsb .u8 x (ishl .u8 1 k)) (ishl .u8 v k)==setB x k v)&&(decide (0≤setB x k v)&&decide (setB x k v≤255)))=true:=by kernel_rfl
theorem zx5:((yy 256).all fun x=>(yy 8).all fun k=>(yy 2).all fun v=>(yy 8).all fun j=>bitL (setB x k v) j==(if j=k then(v:Int)else bitL x j))=true:=by kernel_rfl
theorem zz9{x:Int}(hx:0≤x∧x≤255){k:Nat}(hk:k<8){v:Int}(hv:v=0∨v=1):
  ior .u8 (zsb .u8 x (ishl .u8 1 k)) (ishl .u8 v k)=setB x k v∧0≤setB x k v∧setB x k v≤255:=by
 obtain⟨m,rfl⟩:=yh hx.1
 obtain⟨a,rfl⟩:=yh (show 0≤v by omega)
 have:=List.all_eq_true.1 (List.all_eq_true.1 (List.all_eq_true.1 j0x m (by simp;omega)) k (by simp;omega)) a (by simp;omega)
 simp only[yl,beq_iff_eq,decide_eq_true_eq]at this
 exact this
theorem setB_bit{x:Int}(hx:0≤x∧x≤255){k:Nat}(hk:k<8){v:Int}(hv:v=0∨v=1){j:Nat}(hj:j<8):bitL (setB x k v) j=if j=k then v else bitL x j:=by
 obtain⟨m,rfl⟩:=yh hx.1
 obtain⟨a,rfl⟩:=yh (show 0≤v by omega)
 have:=List.all_eq_true.1 (List.all_eq_true.1 (List.all_eq_true.1 (List.all_eq_true.1 zx5 m (by simp;omega)) k (by simp;omega)) a (by simp;omega)) j (by simp;omega)
 simpa using this
theorem set_is(F:Nat){x:Int}(hx:0≤x∧x≤255){k:Nat}(hk:k<8){n:Int}(hn:0≤n∧n≤18446744073709551615):z3p F x k n=some (setB x k (n%2),()):=by
 unfold z3p
 have e1:y0 .u8 (iand .u64 n 1)=n%2:=by rw[iand_one hn.1 hn.2,wu8 (by omega) (by omega)]
 have:=(zz9 hx hk (v:=n%2) (by omega)).1
 simp only[yc,dT,cT,e1,this]
def sets(pos:Nat→Nat×Nat)(n:Int)(b:LI):Nat→LI
 |0=>b
 |i+1=>(sets pos n b i).set (pos i).1 (setB ((sets pos n b i).getD (pos i).1 0) (pos i).2 (n/2^i%2))
def zdk(A i:Nat):Nat×Nat:=((A+i)/8,(A+i)%8)
def posHi(A N i:Nat):Nat×Nat:=((A+(N-1-i))/8,7-(A+(N-1-i))%8)
theorem zdx(pos:Nat→Nat×Nat)(n:Int)(b:LI):∀i,(sets pos n b i).length=b.length
 |0=>rfl
 |i+1=>by rw[sets,List.length_set,zdx pos n b i]
theorem qph{pos:Nat→Nat×Nat}{n:Int}{b:LI}(hb:Bytes b)(hp:∀i,(pos i).2<8):∀i,Bytes (sets pos n b i)
 |0=>hb
 |i+1=>(qph hb hp i).set (zz9 ((qph hb hp i).getD _) (hp i) (by omega)).2
theorem j3v(A i:Nat):(zdk A i).2<8:=by simp only[zdk];omega
theorem ushift{n:Int}(hn:0≤n∧n≤18446744073709551615)(i:Nat):0≤n/2^i∧n/2^i≤18446744073709551615:=by
 have h1:n/2^i≤n:=Int.ediv_le_self _ hn.1
 exact⟨Int.ediv_nonneg hn.1 (Int.le_of_lt (qgm i)),by omega⟩
theorem za6{F:Nat}{b:LI}(hb:Bytes b)(hl:b.length≤1099511627776){A N:Nat}(hA:A+N≤8*b.length)(hN:N≤64){n:Int}(hn:0≤n∧n≤18446744073709551615):∀(k i:Nat),i≤N→N-i<k→
  q7h F k A n (sets (zdk A) n b i) N i=some (sets (zdk A) n b N,())
 |0,i,_,h=>by omega
 |k+1,i,hi,hk=>by
  unfold q7h qj8
  by_cases h:i<N
  ·have h1:(i:Int)<(N:Int):=by omega
   have e1:y0 .i64 ((A:Int)+(i:Int))=((A+i:Nat):Int):=by rw[w64 (by omega) (by omega)];omega
   have e2:y0 .i64 ((i:Int)+1)=((i+1:Nat):Int):=by rw[w64 (by omega) (by omega)];omega
   have e3:y0 .i64 (yv ((A+i:Nat):Int) 8)=(((A+i)/8:Nat):Int):=by
    rw[q3s (by omega),w64 (by omega) (by omega)];omega
   have e4:yu ((A+i:Nat):Int) 8=(((A+i)%8:Nat):Int):=by
    rw[tmod_nonneg (by omega)];omega
   have h2:(((A+i)/8:Nat):Int)<((sets (zdk A) n b i).length:Int):=by rw[zdx];omega
   have e5:=zz6 (k:=i) (by omega) hn.1
   have e6:=set_is F ((qph (n:=n) hb (j3v A) i).getD ((A+i)/8)) (show(A+i)%8<8 by omega) (ushift hn i)
   have ih:=za6 (F:=F) hb hl hA hN hn k (i+1) (by omega) (by omega)
   simp only[h1,h2,dT,cT,e1,e2,e3,e4,e5,e6,yc,yd,yb,y5]
   exact ih
  ·have:i=N:=by omega
   subst this
   simp
def zjg(len:Nat)(a n v:Int):Int:=if chk len a n=0 then(if n<64∧v/2^n.toNat≠0 then 10 else 0)else chk len a n
def setV(high:Bool)(b:LI)(a n v:Int):LI:=if zjg b.length a n v=0 then sets (if high then posHi a.toNat n.toNat else zdk a.toNat) v b n.toNat else[]
theorem bfits_is(F:Nat){b:LI}(hl:b.length≤1099511627776){a n v:Int}(ha:a≤9223372036854775807)(hv:0≤v):qv8 F b a n v=some (zjg b.length a n v,()):=by
 unfold qv8 zjg
 simp only[zz7 F hl ha,y5]
 by_cases hc:chk b.length a n=0
 ·obtain⟨h1,h2,h3,h4⟩:=chk0 hc
  obtain⟨N,rfl⟩:=yh h2
  have e:=zz6 (k:=N) (by omega) hv
  by_cases h5:(N:Int)<64
  ·by_cases h6:v/2^N=0
   ·simp[hc,h5,e,h6]
   ·simp[hc,h5,e,h6,bneT h6]
  ·simp[hc,h5]
 ·simp[hc,bneT hc]
theorem fits0{len:Nat}{a n v:Int}(h:zjg len a n v=0):chk len a n=0∧(n<64→v/2^n.toNat=0):=by
 unfold zjg at h
 split at h
 ·rename_i hc
  refine⟨hc,fun hn=> ?_⟩
  split at h
  ·cases h
  ·rename_i h2
   simp only[hn,true_and,Decidable.not_not]at h2
   exact h2
 ·rename_i hc;exact absurd h hc
theorem zum{F:Nat}(hF:66≤F){b:LI}(hb:Bytes b)(hl:b.length≤1099511627776){a n v:Int}(ha:a≤9223372036854775807)(hv:0≤v∧v≤18446744073709551615):
  q6u F b a n v=some (setV false b a n v,zjg b.length a n v,()):=by
 unfold q6u setV
 simp only[bfits_is F hl ha hv.1,y5]
 by_cases hc:zjg b.length a n v=0
 ·obtain⟨h1,h2,h3,h4⟩:=chk0 (fits0 hc).1
  obtain⟨A,rfl⟩:=yh h1
  obtain⟨N,rfl⟩:=yh h2
  have:=za6 (F:=F) hb hl (A:=A) (N:=N) (by omega) (by omega) hv F 0 (by omega) (by omega)
  simp only[sets,yq]at this
  simp[hc,q4x,j36 hl,this]
 ·simp[hc,bneT hc]
def zr7(b:LI)(a n:Int):Nat→LI
 |0=>[]
 |i+1=>zr7 b a n i++[y0 .i64 (lowV b (a+i*n) n)]
theorem zun(b:LI)(a n:Int):∀i,(zr7 b a n i).length=i
 |0=>rfl
 |i+1=>by simp[zr7,zun b a n i]
theorem zno{F:Nat}(hF:66≤F){b:LI}(hb:Bytes b)(hl:b.length≤64){a n:Int}(ha:0≤a∧a≤8*(b.length:Int))(hn:0≤n∧n≤16){M:Nat}(hM:M≤64):∀(k i:Nat),i≤M→M-i<k→
  qb4 F k b a n (zr7 b a n i) M i=some (zr7 b a n M,())
 |0,i,_,h=>by omega
 |k+1,i,hi,hk=>by
  unfold qb4 qq3
  by_cases h:i<M
  ·have h1:(i:Int)<(M:Int):=by omega
   have h2:0≤(i:Int)*n∧(i:Int)*n≤64*16:=⟨Int.mul_nonneg (by omega) hn.1,Int.mul_le_mul (by omega) hn.2 hn.1 (by omega)⟩
   have e1:y0 .i64 ((i:Int)*n)=(i:Int)*n:=w64 (by omega) (by omega)
   have e2:y0 .i64 (a+(i:Int)*n)=a+(i:Int)*n:=w64 (by omega) (by omega)
   have e3:y0 .i64 ((i:Int)+1)=((i+1:Nat):Int):=by rw[w64 (by omega) (by omega)];omega
   have e4:=Low_is hF hb (by omega:b.length≤1099511627776) (a:=a+(i:Int)*n) (n:=n) (by omega)
   have h5:(zr7 b a n i).length+1≤1099511627776:=by rw[zun];omega
   have ih:=zno hF hb hl ha hn hM k (i+1) (by omega) (by omega)
   simp only[h1,dT,cT,e1,e2,e3,e4,y5,h5,Bool.true_and,yn,if_false]
   exact ih
  ·have:i=M:=by omega
   subst this
   simp
theorem room_is(F:Nat){b:LI}(hl:b.length≤1099511627776){a n:Int}(ha:0≤a):qne F b a n=some (decide (a+n≤8*(b.length:Int)∧a≤8*(b.length:Int)),()):=by
 have e1:y0 .i64 (8*(b.length:Int))=8*(b.length:Int):=w64 (by omega) (by omega)
 unfold qne
 by_cases h4:a≤8*(b.length:Int)
 ·have e2:y0 .i64 (8*(b.length:Int)-a)=8*(b.length:Int)-a:=w64 (by omega) (by omega)
  by_cases h5:a+n≤8*(b.length:Int)
  ·have h6:n≤8*(b.length:Int)-a:=by omega
   simp[e1,e2,h4,h5,h6]
  ·have h6:¬n≤8*(b.length:Int)-a:=by omega
   simp[e1,e2,h4,h5,h6]
 ·simp[e1,h4]
theorem zjh{b:LI}(hb:Bytes b){A N:Nat}(hA:A+N≤8*b.length)(n:Int)(q:Nat):∀i,i≤N→q48 (sets (zdk A) n b i) q=if A≤q∧q<A+i then n/2^(q-A)%2 else q48 b q
 |0,_=>by
  rw[iN (by omega)]
  rfl
 |i+1,hi=>by
  have ih:=zjh hb hA n q i (by omega)
  have hbs:=qph (n:=n) hb (j3v A) i
  unfold q48 at ih⊢
  rw[sets,qz4 _ _ _ _ (by rw[zdx];simp only[zdk];omega)]
  have p2:(zdk A i).2=(A+i)%8:=rfl
  by_cases h1:(zdk A i).1=q/8
  ·have h1' :(A+i)/8=q/8:=h1
   rw[iP h1,h1,setB_bit (hbs.getD _) (by omega) (by omega) (by omega)]
   by_cases h2:q%8=(zdk A i).2
   ·have hq:q=A+i:=by omega
    rw[iP h2,iP (by omega),hq,Nat.add_sub_cancel_left]
   ·rw[iN h2,ih]
    have:(A≤q∧q<A+i)↔(A≤q∧q<A+(i+1)):=by omega
    simp only[this]
  ·have h1' :¬(A+i)/8=q/8:=h1
   rw[iN h1,ih]
   have:(A≤q∧q<A+i)↔(A≤q∧q<A+(i+1)):=by omega
   simp only[this]
theorem q0j{i:Nat}(h:i<1000000000000):y0 .i64 ((i:Int)+1)=((i+1:Nat):Int):=by rw[w64 (by omega) (by omega)];omega
theorem qki{α:Type}(N:Nat)(f:Nat→Int)(L:Nat→LI→Int→Option α)(res:LI→Option α)
  (step:∀(k i:Nat) (w:LI),i<N→w.length=N→L (k+1) w i=L k (w.set i (f i)) ((i+1:Nat):Int))
  (stop:∀(k:Nat) (w:LI),w.length=N→L (k+1) w N=res w) (w0:LI) (h0:w0.length=N) (k:Nat) (hk:N<k):
  L k w0 0=res ((yy N).map f):=by
 have key:∀(m i k:Nat) (w:LI),N-i=m→i≤N→m<k→w.length=N→w.take i=(yy i).map f→L k w i=res ((yy N).map f):=by
  intro m
  induction m with
  |zero=>
   intro i k w h1 h2 h3 h4 h5
   obtain⟨k,rfl⟩:∃k',k=k' +1:=⟨k-1,by omega⟩
   have:i=N:=by omega
   subst this
   rw[stop k w h4,←h5,List.take_of_length_le (by omega)]
  |succ m ih=>
   intro i k w h1 h2 h3 h4 h5
   obtain⟨k,rfl⟩:∃k',k=k' +1:=⟨k-1,by omega⟩
   rw[step k i w (by omega) h4]
   refine ih (i+1) k _ (by omega) (by omega) (by omega) (by simp[h4]) ?_
   rw[List.range_succ,List.map_append,←h5,List.take_add_one,List.take_set_of_le (by omega)]
   congr 1
   rw[List.getElem?_set_self (by omega)]
   rfl
 have:=key N 0 k w0 (by omega) (by omega) (by omega) h0 (by simp)
 simpa using this
theorem q64{N:Nat}(f:Nat→Int){i:Nat}(h:i<N):((yy N).map f).getD i 0=f i:=by
 simp[ye,h]
theorem qax{m n:Nat}(h:m≤n):(2:Int)^m≤2^n:=by
 have h1:(2:Nat)^m≤2^n:=Nat.pow_le_pow_right (by decide) h
 have e1:((2^m:Nat):Int)=(2:Int)^m:=wg 2 m
 have e2:((2^n:Nat):Int)=(2:Int)^n:=wg 2 n
 omega
def hv(b:LI)(a n:Nat):Int:=qn2 (fun j=>zje b (a+j)) n
def lv(b:LI)(a n:Nat):Int:=qep (fun j=>q48 b (a+j)) n
theorem j3w(b:LI)(i:Nat):q48 b i=0∨q48 b i=1:=zr4 _ _
theorem q3y(b:LI)(a n:Nat):0≤lv b a n∧lv b a n<2^n:=z31 fun i _=>j3w _ _
theorem zza{len:Nat}{a n:Nat}(hn:n≤64)(h:a+n≤8*len):chk len a n=0:=by
 unfold chk
 rw[iN (by omega),iP (by omega)]
theorem zr8{b:LI}{a n:Nat}(hn:n≤64)(h:a+n≤8*b.length):lowV b a n=lv b a n:=by
 unfold lowV lv
 rw[iP (zza hn h)]
 simp
theorem Low_lv{F:Nat}(hF:66≤F){b:LI}(hb:Bytes b)(hl:b.length≤1099511627776){a n:Nat}(hn:n≤64)(h:a+n≤8*b.length):qyv F b a n=some (lv b a n,0,()):=by
 rw[Low_is hF hb hl (by omega),zr8 hn h,zza hn h]
def hset(b:LI)(a n:Nat)(v:Int):LI:=sets (posHi a n) v b n
def lset(b:LI)(a n:Nat)(v:Int):LI:=sets (zdk a) v b n
theorem zr9(b:LI)(a n:Nat)(v:Int):(lset b a n v).length=b.length:=zdx _ _ _ _
theorem z8k{b:LI}(hb:Bytes b)(a n:Nat)(v:Int):Bytes (lset b a n v):=qph hb (j3v a) n
theorem zra{b:LI}(hb:Bytes b){a n:Nat}(h:a+n≤8*b.length)(v:Int)(q:Nat):q48 (lset b a n v) q=if a≤q∧q<a+n then v/2^(q-a)%2 else q48 b q:=
 zjh hb h v q n (wa _)
theorem zzb{len:Nat}{a n:Nat}{v:Int}(hn:n≤64)(h:a+n≤8*len)(hv:0≤v∧v<2^n):zjg len a n v=0:=by
 unfold zjg
 rw[iP (zza hn h),iN]
 rintro⟨_,h2⟩
 apply h2
 simp only[yb]
 exact Int.ediv_eq_zero_of_lt hv.1 hv.2
theorem pow64{n:Nat}(hn:n≤64):(2:Int)^n≤18446744073709551616:=by
 have h:(2:Nat)^n≤18446744073709551616:=Nat.le_trans (Nat.pow_le_pow_right (by decide) hn) (by decide)
 have e:((2^n:Nat):Int)=(2:Int)^n:=wg 2 n
 omega
theorem zji{F:Nat}(hF:66≤F){b:LI}(hb:Bytes b)(hl:b.length≤1099511627776){a n:Nat}{v:Int}(hn:n≤64)(h:a+n≤8*b.length)(hv:0≤v∧v<2^n):
  q6u F b a n v=some (lset b a n v,0,()):=by
 have hp:=pow64 hn
 rw[zum hF hb hl (by omega) ⟨hv.1,by omega⟩,zzb hn h hv]
 unfold setV lset
 rw[iP (zzb hn h hv)]
 simp
theorem zuo{v:Int}{n:Nat}(hv:0≤v∧v<2^n):qep (fun j=>v/2^j%2) n=v:=by
 rw[z8j v hv.1,Int.emod_eq_of_lt hv.1 hv.2]
theorem z8l{b:LI}{a n:Nat}{v:Int}(hv' :0≤v∧v<2^n)(h:∀q,a≤q→q<a+n→q48 b q=v/2^(q-a)%2):lv b a n=v:=by
 rw[←zuo hv']
 unfold lv
 refine z30 fun i hi=> ?_
 rw[h (a+i) (by omega) (by omega),show a+i-a=i by omega]
theorem j0y{α:Type}(N:Nat)(f:Nat→Int)(w0:LI)(L:Nat→LI→Int→Option α)(res:LI→Option α)
  (step:∀(k i:Nat) (w:LI),i<N→w.length=N→(∀j,i≤j→w.getD j 0=w0.getD j 0)→L (k+1) w i=L k (w.set i (f i)) ((i+1:Nat):Int))
  (stop:∀(k:Nat) (w:LI),w.length=N→L (k+1) w N=res w) (h0:w0.length=N) (k:Nat) (hk:N<k):
  L k w0 0=res ((yy N).map f):=by
 have key:∀(m i k:Nat) (w:LI),N-i=m→i≤N→m<k→w.length=N→w.take i=(yy i).map f→(∀j,i≤j→w.getD j 0=w0.getD j 0)→L k w i=res ((yy N).map f):=by
  intro m
  induction m with
  |zero=>
   intro i k w h1 h2 h3 h4 h5 _
   obtain⟨k,rfl⟩:∃k',k=k' +1:=⟨k-1,by omega⟩
   have:i=N:=by omega
   subst this
   rw[stop k w h4,←h5,List.take_of_length_le (by omega)]
  |succ m ih=>
   intro i k w h1 h2 h3 h4 h5 h6
   obtain⟨k,rfl⟩:∃k',k=k' +1:=⟨k-1,by omega⟩
   rw[step k i w (by omega) h4 h6]
   refine ih (i+1) k _ (by omega) (by omega) (by omega) (by simp[h4]) ?_ fun j hj=> ?_
   ·rw[List.range_succ,List.map_append,←h5,List.take_add_one,List.take_set_of_le (by omega)]
    congr 1
    rw[List.getElem?_set_self (by omega)]
    rfl
   ·rw[qz4 _ _ _ _ (by omega),iN (by omega)]
    exact h6 j (by omega)
 have:=key N 0 k w0 (by omega) (by omega) (by omega) h0 (by simp) (fun _ _=>rfl)
 simpa using this
theorem znp{α:Type}(N m:Nat)(f:Nat→LI)(hf:∀i,i<N→(f i).length=m)(L:Nat→LI→Int→Option α)(res:LI→Option α)
  (step:∀(k i:Nat) (w:LI),i<N→w.length=N*m→L (k+1) w i=L k (w.take (i*m)++f i++w.drop (i*m+m)) ((i+1:Nat):Int))
  (stop:∀(k:Nat) (w:LI),w.length=N*m→L (k+1) w N=res w) (w0:LI) (h0:w0.length=N*m) (k:Nat) (hk:N<k):
  L k w0 0=res ((yy N).flatMap f):=by
 have key:∀(d i k:Nat) (w:LI),N-i=d→i≤N→d<k→w.length=N*m→w.take (i*m)=(yy i).flatMap f→L k w i=res ((yy N).flatMap f):=by
  intro d
  induction d with
  |zero=>
   intro i k w h1 h2 h3 h4 h5
   obtain⟨k,rfl⟩:∃k',k=k' +1:=⟨k-1,by omega⟩
   have:i=N:=by omega
   subst this
   rw[stop k w h4,←h5,List.take_of_length_le (by omega)]
  |succ d ih=>
   intro i k w h1 h2 h3 h4 h5
   obtain⟨k,rfl⟩:∃k',k=k' +1:=⟨k-1,by omega⟩
   have him:(i+1)*m≤N*m:=Nat.mul_le_mul_right m (by omega)
   rw[Nat.add_mul,Nat.one_mul]at him
   have hfi:=hf i (by omega)
   rw[step k i w (by omega) h4]
   have hlen:(w.take (i*m)++f i++w.drop (i*m+m)).length=N*m:=by simp;omega
   refine ih (i+1) k _ (by omega) (by omega) (by omega) hlen ?_
   rw[List.range_succ,List.flatMap_append,←h5,Nat.add_mul,Nat.one_mul]
   have h6:(w.take (i*m)++f i).length=i*m+m:=by simp;omega
   rw[List.take_append_of_le_length (by omega),List.take_of_length_le (by omega)]
   simp
 have:=key N 0 k w0 (by omega) (by omega) (by omega) h0 (by simp)
 simpa using this
theorem zup{b:LI}{a n:Nat}(hn:n≤16):∀{M:Nat},a+M*n≤8*b.length→zr7 b a n M=(yy M).map fun i=>lv b (a+i*n) n
 |0,_=>rfl
 |M+1,h=>by
  have hm:(M+1)*n=M*n+n:=by rw[Nat.add_mul,Nat.one_mul]
  rw[zr7,zup hn (by omega),List.range_succ,List.map_append]
  congr 1
  have e:((a:Int)+(M:Int)*(n:Int))=((a+M*n:Nat):Int):=by simp
  have hb:=q3y b (a+M*n) n
  have h2:(2:Int)^n≤2^16:=qax hn
  simp only[List.map_cons,List.map_nil]
  rw[e,zr8 (by omega) (by omega),w64 (by omega) (by omega)]
theorem zrb{F:Nat}(hF:66≤F){b:LI}(hb:Bytes b)(hl:b.length≤64){a n m:Nat}(hn:n≤16)(hm:m≤64)(h:a+m*n≤8*b.length):
  qj9 F b a n m=some ((yy m).map (fun i=>lv b (a+i*n) n),0,()):=by
 have hmn:m*n≤64*16:=Nat.mul_le_mul hm hn
 have hk:=zno hF hb hl (a:=a) (n:=n) (by omega) (by omega) (M:=m) hm F 0 (by omega) (by omega)
 have hr:=room_is F (b:=b) (by omega) (a:=a) (n:=y0 .i64 ((n:Int)*(m:Int))) (by omega)
 have e:((n:Int)*(m:Int))=((m*n:Nat):Int):=by rw[Nat.mul_comm];simp
 rw[e,w64 (by omega) (by omega)]at hr
 have e2:y0 .i64 ((n:Int)*(m:Int))=((m*n:Nat):Int):=by rw[e,w64 (by omega) (by omega)]
 have h0:(decide (((a:Int)+((m*n:Nat):Int)≤8*(b.length:Int))∧(a:Int)≤8*(b.length:Int)))=true:=by simp only[decide_eq_true_eq];omega
 unfold qj9
 have c1:¬(a:Int)<0:=by omega
 have c2:¬(n:Int)<0:=by omega
 have c3:¬(16:Int)<(n:Int):=by omega
 have c4:¬(m:Int)<0:=by omega
 have c5:¬(64:Int)<(m:Int):=by omega
 simp only[c1,c2,c3,c4,c5,dF,cF,e2,hr,h0,y5,Bool.not_true]
 rw[←zup hn h]
 simp only[zr7,yq]at hk
 rw[hk]
 rfl
def zmv(A N:Nat→Nat)(V:Nat→Int)(c:LI):Nat→LI
 |0=>c
 |i+1=>lset (zmv A N V c i) (A i) (N i) (V i)
theorem z5l(A N:Nat→Nat)(V:Nat→Int)(c:LI):∀i,(zmv A N V c i).length=c.length
 |0=>rfl
 |i+1=>by rw[zmv,zr9,z5l A N V c i]
theorem q78(A N:Nat→Nat)(V:Nat→Int){c:LI}(hc:Bytes c):∀i,Bytes (zmv A N V c i)
 |0=>hc
 |i+1=>z8k (q78 A N V hc i) _ _ _
theorem zuq{A N:Nat→Nat}{V:Nat→Int}{c:LI}(hc:Bytes c){m:Nat}(hr:∀i,i<m→A i+N i≤8*c.length)(hd:∀i j,i<m→j<m→i≠j→A i+N i≤A j∨A j+N j≤A i){j:Nat}(hj:j<m){q:Nat}(h1:A j≤q)(h2:q<A j+N j):
  ∀i,j<i→i≤m→q48 (zmv A N V c i) q=V j/2^(q-A j)%2
 |0,h,_=>by omega
 |i+1,h,hi=>by
  rw[zmv,zra (q78 A N V hc i) (by rw[z5l];exact hr i (by omega))]
  by_cases e:i=j
  ·subst e
   rw[iP ⟨h1,h2⟩]
  ·have:=hd i j (by omega) hj e
   rw[iN (by omega)]
   exact zuq hc hr hd hj h1 h2 i (by omega) (by omega)
theorem zur{A N:Nat→Nat}{V:Nat→Int}{c:LI}(hc:Bytes c){m:Nat}(hr:∀i,i<m→A i+N i≤8*c.length){q:Nat}(hq:∀i,i<m→¬(A i≤q∧q<A i+N i)):
  ∀i,i≤m→q48 (zmv A N V c i) q=q48 c q
 |0,_=>rfl
 |i+1,hi=>by
  rw[zmv,zra (q78 A N V hc i) (by rw[z5l];exact hr i (by omega)),iN (hq i (by omega))]
  exact zur hc hr hq i (by omega)
theorem z5m{x v:Int}{m k:Nat}(hx:0≤x∧x<2^m)(hv:0≤v∧v<2^k)(hm:m+k≤64)(hm2:m<64):ior .u64 x (ishl .u64 v (m:Int))=x+v*2^m:=by
 have e64:(2:Int)^64=18446744073709551616:=by decide
 have hpm:=qgm m
 have hpk:=qgm k
 have hmk:(2:Int)^m*2^k≤2^64:=by rw[←Int.pow_add];exact qax hm
 have hvm:v*2^m+2^m≤2^m*2^k:=by
  have h1:(v+1)*2^m≤2^k*2^m:=Int.mul_le_mul_of_nonneg_right (by omega) (by omega)
  rw[Int.add_mul,Int.one_mul,Int.mul_comm (2^k) (2^m)]at h1
  exact h1
 have hv0:0≤v*2^m:=Int.mul_nonneg hv.1 (by omega)
 rw[zz5 (by omega) hv0 (by omega)]
 obtain⟨n,rfl⟩:=yh hx.1
 obtain⟨a,rfl⟩:=yh hv.1
 have ep:((2^m:Nat):Int)=(2:Int)^m:=wg 2 m
 have hn:n<2^m:=by omega
 have e:((a:Int)*2^m)=((a*2^m:Nat):Int):=by rw[Int.natCast_mul,ep]
 rw[e,zz4,j3t hn (by omega)]
 omega
theorem q8x{x v:Int}{m:Nat}(hx:0≤x∧x<2^m)(q:Nat):(x+v*2^m)/2^q%2=if q<m then x/2^q%2 else v/2^(q-m)%2:=by
 have hpm:=qgm m
 have hpq:=qgm q
 split
 ·rename_i h
  obtain⟨d,rfl⟩:∃d,m=q+(d+1):=⟨m-q-1,by omega⟩
  have e:x+v*2^(q+(d+1))=x+(v*2^d*2)*2^q:=by
   rw[Int.pow_add,Int.pow_succ]
   congr 1
   rw[Int.mul_comm (2^q) (2^d*2),←Int.mul_assoc,←Int.mul_assoc]
  rw[e,Int.add_mul_ediv_right _ _ (by omega)]
  omega
 ·rename_i h
  obtain⟨d,rfl⟩:∃d,q=m+d:=⟨q-m,by omega⟩
  rw[Int.pow_add,←Int.ediv_ediv_of_nonneg (by omega),Int.add_mul_ediv_right _ _ (by omega),Int.ediv_eq_zero_of_lt hx.1 hx.2,Int.zero_add,Nat.add_sub_cancel_left]
def qdj(low:Int)(from_ each:Nat)(w:LI):Nat→Int
 |0=>low
 |i+1=>qdj low from_ each w i+w.getD i 0*2^(from_+each*i)
theorem qeq{low:Int}{from_ each:Nat}{w:LI}(hl:0≤low∧low<2^from_){m:Nat}(hw:∀i,i<m→0≤w.getD i 0∧w.getD i 0<2^each):∀i,i≤m→0≤qdj low from_ each w i∧qdj low from_ each w i<2^(from_+each*i)
 |0,_=>by simpa[qdj]using hl
 |i+1,hi=>by
  obtain⟨h1,h2⟩:=qeq hl hw i (by omega)
  obtain⟨h3,h4⟩:=hw i (by omega)
  rw[qdj]
  have hp:=qgm (from_+each*i)
  have h5:0≤w.getD i 0*2^(from_+each*i):=Int.mul_nonneg h3 (by omega)
  have h6:(w.getD i 0+1)*2^(from_+each*i)≤2^each*2^(from_+each*i):=Int.mul_le_mul_of_nonneg_right (by omega) (by omega)
  rw[Int.add_mul,Int.one_mul,←Int.pow_add]at h6
  have e:each+(from_+each*i)=from_+each*(i+1):=by rw[Nat.mul_succ];omega
  rw[e]at h6
  omega
theorem zjj{low:Int}{from_ each:Nat}{w:LI}(hl:0≤low∧low<2^from_)(he:1≤each){m:Nat}(hw:∀i,i<m→0≤w.getD i 0∧w.getD i 0<2^each):∀i,i≤m→∀q,q<from_+each*i→
  qdj low from_ each w i/2^q%2=if q<from_ then low/2^q%2 else w.getD ((q-from_)/each) 0/2^((q-from_)%each)%2
 |0,_,q,hq=>by
  rw[iP (by omega)]
  rfl
 |i+1,hi,q,hq=>by
  rw[qdj,q8x (qeq hl hw i (by omega))]
  split
  ·rename_i h
   exact zjj hl he hw i (by omega) q h
  ·rename_i h
   have hge:from_+each*i≤q:=by omega
   rw[iN (by omega)]
   have e1:q-from_=each*i+(q-(from_+each*i)):=by omega
   have h3:q-(from_+each*i)<each:=by rw[Nat.mul_succ]at hq;omega
   have e2:(q-from_)/each=i:=by
    rw[e1,Nat.mul_add_div (by omega),Nat.div_eq_of_lt h3,Nat.add_zero]
   have e3:(q-from_)%each=q-(from_+each*i):=by
    rw[e1,Nat.mul_add_mod,Nat.mod_eq_of_lt h3]
   rw[e2,e3]
theorem mulB' {n t c d:Int}(hn: -c≤n∧n≤c)(ht:0≤t∧t≤d)(hc:0≤c): -(c*d)≤n*t∧n*t≤c*d:=by
 have h1:n*t≤c*t:=Int.mul_le_mul_of_nonneg_right hn.2 ht.1
 have h2:c*t≤c*d:=Int.mul_le_mul_of_nonneg_left ht.2 hc
 have h3: -c*t≤n*t:=Int.mul_le_mul_of_nonneg_right hn.1 ht.1
 have h4: -c*t= -(c*t):=Int.neg_mul c t
 omega
theorem z8m{n:Nat}(h:n<9223372036854775808):y0 .i64 (n:Int)=n:=w64 (by omega) (by omega)
theorem z5n{x:Int}{b:Nat}(hb:b<63):iand .i64 x (2^b-1)=x%2^b:=by
 have hp:(2:Nat)^b≤2^62:=Nat.pow_le_pow_right (by decide) (by omega)
 have h62:(2:Nat)^62=4611686018427387904:=by decide
 have hpos:0<2^b:=Nat.pow_pos (by decide:0<2)
 have ep:((2^b:Nat):Int)=(2:Int)^b:=wg 2 b
 have e1:((2:Int)^b-1)=((2^b-1:Nat):Int):=by omega
 have e2:(BitVec.ofInt 64 ((2^b-1:Nat):Int)).toNat=2^b-1:=by
  rw[BitVec.ofInt_natCast,BitVec.toNat_ofNat,Nat.mod_eq_of_lt (by omega)]
 show y0 .i64 (((BitVec.ofInt 64 x&&&BitVec.ofInt 64 (2^b-1)).toNat:Nat):Int)=_
 rw[e1,BitVec.toNat_and,e2,Nat.and_two_pow_sub_one_eq_mod]
 have h3:(BitVec.ofInt 64 x).toNat%2^b<2^b:=Nat.mod_lt _ hpos
 rw[z8m (by omega)]
 have e4:((BitVec.ofInt 64 x).toNat:Int)=x%2^64:=by
  rw[BitVec.toNat_ofInt]
  have:0≤x%(2^64:Nat):=Int.emod_nonneg _ (by decide)
  rw[Int.toNat_of_nonneg this]
  rfl
 rw[Int.natCast_emod,e4,ep]
 exact Int.emod_emod_of_dvd x (by
  refine⟨2^(64-b),?_⟩
  rw[←Int.pow_add]
  congr 1
  omega)
def qkr(b v:Nat):Int:=(yy 8).foldl (fun o i=>2*o+(((v/2^(b-1-i%b)%2:Nat)):Int)) 0
theorem zx6(n:Nat):((yy 8).all fun b=>(yy (2^(b+1))).all fun v=>q0l (n+10) v ((b+1:Nat):Int)==some (qkr (b+1) v,())&&q0e (n+10) v ((b+1:Nat):Int)==some (qkr (b+1) v,())&&(decide (0≤qkr (b+1) v)&&decide (qkr (b+1) v≤255)))=true:=by kernel_rfl
theorem zjk{F:Nat}(hF:10≤F){b v:Nat}(hb:1≤b∧b≤8)(hv:v<2^b):q0l F v b=some (qkr b v,())∧q0e F v b=some (qkr b v,())∧0≤qkr b v∧qkr b v≤255:=by
 obtain⟨n,rfl⟩:∃n,F=n+10:=⟨F-10,by omega⟩
 obtain⟨c,rfl⟩:∃c,b=c+1:=⟨b-1,by omega⟩
 have h1:=List.all_eq_true.1 (zx6 n) c (by simp;omega)
 have h2:=List.all_eq_true.1 h1 v (by simpa using hv)
 simp only[yl,beq_iff_eq,decide_eq_true_eq]at h2
 exact⟨h2.1.1,h2.1.2,h2.2⟩
def q3z(b:Nat)(x:Int):Int:=qkr b (x%2^b).toNat
theorem zus(b:Nat):0<2^b:=Nat.pow_pos (by decide:0<2)
theorem zdy{x:Int}{b:Nat}:∃v:Nat,x%2^b=v∧v<2^b∧(x%2^b).toNat=v:=by
 have hp:=qgm b
 have ep:((2^b:Nat):Int)=(2:Int)^b:=wg 2 b
 have h1:=Int.emod_nonneg x (Int.ne_of_gt hp)
 have h2:=Int.emod_lt_of_pos x hp
 obtain⟨v,hv⟩:=yh h1
 exact⟨v,hv,by omega,by rw[hv];rfl⟩
theorem q79{b:Nat}(hb:1≤b∧b≤8)(x:Int):0≤q3z b x∧q3z b x≤255:=by
 obtain⟨v,h1,h2,h3⟩:=zdy (x:=x) (b:=b)
 unfold q3z
 rw[h3]
 exact(zjk (wa _) hb h2).2.2
theorem zdz{b:Nat}(hb:b≤62):ishl .i64 1 (b:Int)=2^b:=by
 have hp:(2:Nat)^b≤2^62:=Nat.pow_le_pow_right (by decide) hb
 have h62:(2:Nat)^62=4611686018427387904:=by decide
 have ep:((2^b:Nat):Int)=(2:Int)^b:=wg 2 b
 unfold ishl
 have:min ((b:Int).toNat) (IntKind.bits .i64)=b:=by
  show min ((b:Int).toNat) 64=b
  simp
  omega
 rw[this,Int.one_mul]
 have hp0:=qgm b
 exact w64 (by omega) (by omega)
theorem qrb{F:Nat}(hF:10≤F){b:Nat}(hb:1≤b∧b≤8)(x:Int):q0l F x b=some (q3z b x,()):=by
 obtain⟨v,h1,h2,h3⟩:=zdy (x:=x) (b:=b)
 have hpn:(2:Nat)^b≤2^8:=Nat.pow_le_pow_right (by decide) hb.2
 have ep:((2^b:Nat):Int)=(2:Int)^b:=wg 2 b
 have e:∀y:Int,y%2^b=v→q0l F y b=q0l F v b:=by
  intro y hy
  unfold q0l
  have hm:∀z:Int,iand .i64 z (y0 .i64 (ishl .i64 1 (b:Int)-1))=z%2^b:=by
   intro z
   rw[zdz (by omega),w64 (by omega) (by omega),z5n (by omega)]
  rw[hm,hm,hy,Int.emod_eq_of_lt (by omega) (by omega)]
 rw[e x h1]
 unfold q3z
 rw[h3]
 exact(zjk hF hb h2).1
theorem zrc(F:Nat){x m:Int}(hm:0<m∧m≤1000000000)(hx: -9000000000000000000≤x∧x≤9000000000000000000):qjb F x m=some (x%m,()):=by
 unfold qjb
 have h0:(!(m==(0:Int)))=true:=by simp;omega
 have h1:=Int.emod_nonneg x (show m≠0 by omega)
 have h2:=Int.emod_lt_of_pos x hm.1
 rw[h0]
 simp only[cT]
 by_cases hn:x.tmod m<0
 ·have e:x.tmod m=x%m-m:=by
   have hx0:¬0≤x:=fun h=>by rw[tmod_nonneg h]at hn;omega
   have h3:=Int.tmod_add_mul_tdiv x m
   have h4: -m<x.tmod m:=by
    have:=Int.tmod_lt_of_pos (-x) hm.1
    rw[Int.neg_tmod]at this
    omega
   have h5:(x.tmod m+m)%m=x%m:=by
    rw[Int.add_emod_right]
    conv=>rhs;rw[←h3]
    rw[Int.add_mul_emod_self_left]
   rw[Int.emod_eq_of_lt (by omega) (by omega)]at h5
   omega
  simp only[hn,dT,cT]
  rw[e,w64 (by omega) (by omega)]
  congr 2
  omega
 ·have e:x.tmod m=x%m:=by
   by_cases hx0:0≤x
   ·exact tmod_nonneg hx0
   ·have h3:=Int.tmod_add_mul_tdiv x m
    have h4:x.tmod m≤0:=by
     have:=Int.tmod_nonneg m (show 0≤-x by omega)
     rw[Int.neg_tmod]at this
     omega
    have h5:x.tmod m=0:=by omega
    rw[h5]at h3⊢
    rw[←h3]
    simp
  simp only[hn,dF,cF]
  rw[e]
theorem zrd(n:Nat):((yy 9).all fun b=>qau (n+10) b==some (2^b,()))=true:=by kernel_rfl
theorem zjl{F:Nat}(hF:10≤F){b:Nat}(hb:b≤8):qau F b=some (2^b,()):=by
 obtain⟨n,rfl⟩:∃n,F=n+10:=⟨F-10,by omega⟩
 have:=List.all_eq_true.1 (zrd n) b (by simp;omega)
 simpa using this
theorem qrc{F:Nat}(hF:10≤F){b:Nat}(hb:1≤b∧b≤8){x:Int}(hx: -9000000000000000000≤x∧x≤9000000000000000000):q0e F x b=some (q3z b x,()):=by
 obtain⟨v,h1,h2,h3⟩:=zdy (x:=x) (b:=b)
 have hpn:(2:Nat)^b≤2^8:=Nat.pow_le_pow_right (by decide) hb.2
 have ep:((2^b:Nat):Int)=(2:Int)^b:=wg 2 b
 have hp:=qgm b
 have e:q0e F x b=q0e F v b:=by
  unfold q0e
  rw[zjl hF hb.2]
  simp only[y5]
  rw[zrc F ⟨hp,by omega⟩ hx,zrc F ⟨hp,by omega⟩ ⟨by omega,by omega⟩,h1,Int.emod_eq_of_lt (by omega) (by omega)]
 rw[e]
 unfold q3z
 rw[h3]
 exact(zjk hF hb h2).2.1
def mixV(a b k o add:Int):Int:=(a*(o-k)+b*k+add)/o
theorem j0z{x m:Int}(hm:0<m):x.tdiv m=if x.tmod m<0 then x/m+1 else x/m:=by
 have h3:=Int.tmod_add_mul_tdiv x m
 have h6:=Int.emod_add_mul_ediv x m
 have h1:=Int.emod_nonneg x (show m≠0 by omega)
 have h2:=Int.emod_lt_of_pos x hm
 have h4: -m<x.tmod m:=by
  have:=Int.tmod_lt_of_pos (-x) hm
  rw[Int.neg_tmod]at this
  omega
 have h5:=Int.tmod_lt_of_pos x hm
 split
 ·rename_i hn
  have h7:m*(x.tdiv m-(x/m+1))=x%m-m-x.tmod m:=by rw[Int.mul_sub,Int.mul_add];omega
  have h8: -1<x.tdiv m-(x/m+1)∧x.tdiv m-(x/m+1)<1:=by
   constructor
   ·apply Classical.byContradiction
    intro hc
    have:m*(x.tdiv m-(x/m+1))≤m*(-1):=Int.mul_le_mul_of_nonneg_left (by omega) (by omega)
    omega
   ·apply Classical.byContradiction
    intro hc
    have:m*1≤m*(x.tdiv m-(x/m+1)):=Int.mul_le_mul_of_nonneg_left (by omega) (by omega)
    omega
  omega
 ·rename_i hn
  have h7:m*(x.tdiv m-x/m)=x%m-x.tmod m:=by rw[Int.mul_sub];omega
  have h8: -1<x.tdiv m-x/m∧x.tdiv m-x/m<1:=by
   constructor
   ·apply Classical.byContradiction
    intro hc
    have:m*(x.tdiv m-x/m)≤m*(-1):=Int.mul_le_mul_of_nonneg_left (by omega) (by omega)
    omega
   ·apply Classical.byContradiction
    intro hc
    have:m*1≤m*(x.tdiv m-x/m):=Int.mul_le_mul_of_nonneg_left (by omega) (by omega)
    omega
  omega
theorem zut(F:Nat){a b k o add:Int}(ha: -4096≤a∧a≤4096)(hb: -4096≤b∧b≤4096)(hk:0≤k∧k≤4096)(ho:1≤o∧o≤4096)(hko:0≤o-k)(hadd: -4096≤add∧add≤4096):
  qng F a b k o add=some (mixV a b k o add,())∧qfw F a b k o add=some (mixV a b k o add,())∧-100000000≤mixV a b k o add∧mixV a b k o add≤100000000:=by
 have m1:=mulB' (c:=4096) (d:=4096) ha ⟨hko,by omega⟩ (by decide)
 have m2:=mulB' (c:=4096) (d:=4096) hb hk (by decide)
 have e1:y0 .i64 (o-k)=o-k:=w64 (by omega) (by omega)
 have e2:y0 .i64 (a*(o-k))=a*(o-k):=w64 (by omega) (by omega)
 have e3:y0 .i64 (b*k)=b*k:=w64 (by omega) (by omega)
 have e4:y0 .i64 (a*(o-k)+b*k)=a*(o-k)+b*k:=w64 (by omega) (by omega)
 have e5:y0 .i64 (a*(o-k)+b*k+add)=a*(o-k)+b*k+add:=w64 (by omega) (by omega)
 have hno:(!(o==(0:Int)))=true:=by simp;omega
 have h1:¬o<1:=by omega
 unfold qng qfw mixV
 simp only[h1,dF,cF,e1,e2,e3,e4,e5,hno,cT]
 generalize hx:a*(o-k)+b*k+add=x at*
 have hxb: -40000000≤x∧x≤40000000:=by omega
 have hdiv: -40000001≤x/o∧x/o≤40000000:=by
  have h6:=Int.emod_add_mul_ediv x o
  have h7:=Int.emod_nonneg x (show o≠0 by omega)
  have h8:=Int.emod_lt_of_pos x (show 0<o by omega)
  constructor
  ·apply Classical.byContradiction
   intro hc
   have:o*(x/o)≤o*(-40000002):=Int.mul_le_mul_of_nonneg_left (by omega) (by omega)
   omega
  ·apply Classical.byContradiction
   intro hc
   have:o*40000001≤o*(x/o):=Int.mul_le_mul_of_nonneg_left (by omega) (by omega)
   omega
 have htd:=j0z (x:=x) (m:=o) (by omega)
 refine⟨?_,?_,by omega,by omega⟩
 ·by_cases hn:x.tmod o<0
  ·rw[iP hn]at htd
   rw[htd,w64 (x:=x/o+1) (by omega) (by omega),w64 (x:=x/o+1-1) (by omega) (by omega)]
   simp[hn]
  ·rw[iN hn]at htd
   rw[htd,w64 (x:=x/o) (by omega) (by omega)]
   simp[hn]
 ·rw[zrc F ⟨by omega,by omega⟩ ⟨by omega,by omega⟩]
  have h6:=Int.emod_add_mul_ediv x o
  have h7:=Int.emod_nonneg x (show o≠0 by omega)
  have h8:=Int.emod_lt_of_pos x (show 0<o by omega)
  have e6:x-x%o=o*(x/o):=by omega
  simp only[y5]
  rw[w64 (x:=x-x%o) (by omega) (by omega),e6,Int.mul_tdiv_cancel_left _ (show o≠0 by omega),w64 (by omega) (by omega)]
theorem z5o{F:Nat}(hF:66≤F){b:LI}(hb:Bytes b)(hl:b.length≤1099511627776){a n:Nat}(hn:n≤16)(h:a+n≤8*b.length):q2e F b a n=some (lv b a n,()):=by
 have h1:=q3y b a n
 have h2:(2:Int)^n≤2^16:=qax hn
 unfold q2e
 rw[Get_is hF hb hl false]
 simp only[yn,if_false,y5]
 rw[zr8 (by omega) h,w64 (by omega) (by omega)]
def qer(b:LI):LI:=(yy 16).map fun i=>lv b (16+3*i) 3
theorem z5p(b:LI):(qer b).length=16:=by simp[qer]
theorem zuu(b:LI){i:Nat}(h:i<16):(qer b).getD i 0=lv b (16+3*i) 3:=q64 _ h
theorem zzc(b:LI):∀i,i<16→0≤(qer b).getD i 0∧(qer b).getD i 0<2^3:=by
 intro i hi
 rw[zuu b hi]
 exact q3y _ _ _
theorem j3x{F:Nat}(hF:66≤F){b:LI}(hb:Bytes b)(hl:b.length=8):qky F b=some (b.getD 0 0,b.getD 1 0,qer b,0,()):=by
 have h:=zrb hF hb (by omega) (a:=16) (n:=3) (m:=16) (by decide) (by decide) (by omega)
 have e:((yy 16).map fun i=>lv b (16+i*3) 3)=qer b:=by
  unfold qer
  refine List.map_congr_left fun i _=> ?_
  rw[Nat.mul_comm]
 rw[e]at h
 simp only[yp]at h
 unfold qky
 simp only[hl,h,y5,z5p]
 have e2:(y8 16 (qer b))=qer b:=List.take_of_length_le (by rw[z5p];omega)
 simp[q04,e2]
theorem j10{F:Nat}(hF:66≤F){b:LI}(hb:Bytes b)(hl:b.length=8):qq6 F b=some (b.getD 0 0,b.getD 1 0,qer b,0,()):=by
 have loop:∀T:LI,q40 F F b T q04 0=some (b,T,qer b,()):=by
  intro T
  refine qki 16 (fun i=>lv b (16+3*i) 3) (fun k w i=>q40 F k b T w i) (fun w=>some (b,T,w,())) ?_ ?_ _ rfl F (by omega)
  ·intro k i w hi hw
   show q6d F (q40 F k) b T w i=_
   unfold q6d
   have h1:(i:Int)<16:=by omega
   have e:=z5o hF hb (by omega) (a:=16+3*i) (n:=3) (by decide) (by omega)
   have e1:y0 .i64 (16+y0 .i64 (3*(i:Int)))=((16+3*i:Nat):Int):=by
    rw[w64 (x:=3*(i:Int)) (by omega) (by omega),w64 (by omega) (by omega)]
    omega
   simp only[yp]at e
   simp only[h1,dT,cT,e1,e,y5,yc,yd,q0j (show i<1000000000000 by omega),yb]
  ·intro k w hw
   show q6d F (q40 F k) b T w 16=_
   unfold q6d
   simp
 unfold qq6
 simp[hl,loop]
def zx7(a b:Int):LI:=if a≤b then[a,b,0,0,0,0,0,255]else[a,b,0,0,0,0,0,0]
def j3y(a b:Int):Int:=if a≤b then 5 else 7
def j11(a b:Int):Nat:=if a≤b then 4 else 6
def qn3(a b o:Int)(base:LI):Nat→LI
 |0=>base
 |i+1=>(qn3 a b o base i).set (i+2) (mixV a b ((i:Int)+1) o 0)
theorem zuv(a b o:Int)(base:LI):∀i,(qn3 a b o base i).length=base.length
 |0=>rfl
 |i+1=>by rw[qn3,List.length_set,zuv a b o base i]
theorem z8n{F:Nat}{a b:Int}(ha:0≤a∧a≤255)(hb:0≤b∧b≤255)(T base:LI){o:Int}(ho:1≤o∧o≤8){n:Nat}(hn:n≤6)(hno:(n:Int)≤o):∀(k i:Nat),i≤n→n-i<k→
  q60 F k a b T (qn3 a b o base i) o n i=some (T,qn3 a b o base n,())
 |0,i,_,h=>by omega
 |k+1,i,hi,hk=>by
  unfold q60 qja
  by_cases h:i<n
  ·have h1:(i:Int)<n:=by omega
   have ih:=z8n (F:=F) ha hb T base ho hn hno k (i+1) (by omega) (by omega)
   have m:=(zut F (a:=a) (b:=b) (k:=(i:Int)+1) (o:=o) (add:=0) (by omega) (by omega) (by omega) (by omega) (by omega) (by decide)).1
   have e2:y0 .i64 ((i:Int)+2)=((i+2:Nat):Int):=by rw[w64 (by omega) (by omega)];omega
   have h2:((i+2:Nat):Int)<8:=by omega
   have e1:y0 .i64 ((i:Int)+1)=(i:Int)+1:=w64 (by omega) (by omega)
   simp only[h1,dT,cT,e1,m,e2,h2,y5,yc,yd,yb]
   have e3:((i:Int)+1)=((i+1:Nat):Int):=by omega
   rw[qn3]at ih
   rw[e3]at ih⊢
   exact ih
  ·have:i=n:=by omega
   subst this
   simp
def q5y(a b:Int):LI:=qn3 a b (j3y a b) (zx7 a b) (j11 a b)
theorem j3z{F:Nat}(hF:66≤F){a b:Int}(ha:0≤a∧a≤255)(hb:0≤b∧b≤255):qe9 F a b=some (q5y a b,()):=by
 unfold qe9 q5y j3y j11 zx7
 by_cases h:a≤b
 ·have e:=z8n (F:=F) ha hb q0u [a,b,0,0,0,0,0,255] (o:=5) (by decide) (n:=4) (by decide) (by decide) F 0 (by decide) (by omega)
  simp only[qn3,yp,yq]at e
  simp only[h,dT,cT,if_true,qn3,e,y5,and_self]
  rfl
 ·have e:=z8n (F:=F) ha hb q0u [a,b,0,0,0,0,0,0] (o:=7) (by decide) (n:=6) (by decide) (by decide) F 0 (by decide) (by omega)
  simp only[qn3,yp,yq]at e
  simp only[h,dF,cF,if_false,qn3,e,y5,and_self,if_true]
  rfl
theorem zjm{F:Nat}{a b:Int}(ha:0≤a∧a≤255)(hb:0≤b∧b≤255)(T base:LI):∀(k i:Nat),i≤6→6-i<k→
  q8y F k a b T (qn3 a b 7 base i) ((i:Int)+1)=some (T,qn3 a b 7 base 6,())
 |0,i,_,h=>by omega
 |k+1,i,hi,hk=>by
  unfold q8y qmb
  by_cases h:i<6
  ·have h1:(i:Int)+1≤6:=by omega
   have ih:=zjm (F:=F) ha hb T base k (i+1) (by omega) (by omega)
   have m:=(zut F (a:=a) (b:=b) (k:=(i:Int)+1) (o:=7) (add:=0) (by omega) (by omega) (by omega) (by omega) (by omega) (by decide)).2.1
   have e2:y0 .i64 ((i:Int)+1+1)=((i+2:Nat):Int):=by rw[w64 (by omega) (by omega)];omega
   have h2:((i+2:Nat):Int)<8:=by omega
   simp only[h1,dT,cT,m,e2,h2,y5,yc,yd,yb]
   rw[qn3]at ih
   have e3:(((i+1:Nat):Int)+1)=((i+2:Nat):Int):=by omega
   rw[e3]at ih
   exact ih
  ·have:i=6:=by omega
   subst this
   simp
theorem zjn{F:Nat}{a b:Int}(ha:0≤a∧a≤255)(hb:0≤b∧b≤255)(T base:LI):∀(k i:Nat),i≤4→4-i<k→
  q8z F k a b T (qn3 a b 5 base i) ((i:Int)+1)=some (T,qn3 a b 5 base 4,())
 |0,i,_,h=>by omega
 |k+1,i,hi,hk=>by
  unfold q8z qmc
  by_cases h:i<4
  ·have h1:(i:Int)+1≤4:=by omega
   have ih:=zjn (F:=F) ha hb T base k (i+1) (by omega) (by omega)
   have m:=(zut F (a:=a) (b:=b) (k:=(i:Int)+1) (o:=5) (add:=0) (by omega) (by omega) (by omega) (by omega) (by omega) (by decide)).2.1
   have e2:y0 .i64 ((i:Int)+1+1)=((i+2:Nat):Int):=by rw[w64 (by omega) (by omega)];omega
   have h2:((i+2:Nat):Int)<8:=by omega
   simp only[h1,dT,cT,m,e2,h2,y5,yc,yd,yb]
   rw[qn3]at ih
   have e3:(((i+1:Nat):Int)+1)=((i+2:Nat):Int):=by omega
   rw[e3]at ih
   exact ih
  ·have:i=4:=by omega
   subst this
   simp
theorem rRamp_is{F:Nat}(hF:66≤F){a b:Int}(ha:0≤a∧a≤255)(hb:0≤b∧b≤255):qyx F a b=some (q5y a b,()):=by
 unfold qyx q5y j3y j11 zx7
 by_cases h:a≤b
 ·have h' :¬b<a:=by omega
  have e:=zjn (F:=F) ha hb q0u [a,b,0,0,0,0,0,0] F 0 (by decide) (by omega)
  simp only[qn3,yq,Int.zero_add]at e
  simp only[h,h',dF,cF,if_true,qn3,e,y5,and_self]
  rfl
 ·have h' :b<a:=by omega
  have e:=zjm (F:=F) ha hb q0u [a,b,0,0,0,0,0,0] F 0 (by decide) (by omega)
  simp only[qn3,yq,Int.zero_add]at e
  simp only[h,h',dT,cT,if_false,qn3,e,y5,and_self,if_true]
  rfl
theorem zzd{a b:Int}(h:a≤b):q5y a b=[a,b,mixV a b 1 5 0,mixV a b 2 5 0,mixV a b 3 5 0,mixV a b 4 5 0,0,255]:=by
 unfold q5y j3y j11 zx7
 simp only[h,if_true]
 rfl
theorem zze{a b:Int}(h:¬a≤b):q5y a b=[a,b,mixV a b 1 7 0,mixV a b 2 7 0,mixV a b 3 7 0,mixV a b 4 7 0,mixV a b 5 7 0,mixV a b 6 7 0]:=by
 unfold q5y j3y j11 zx7
 simp only[h,if_false]
 rfl
def qay(b:LI):LI:=(yy 16).map fun i=>(q5y (b.getD 0 0) (b.getD 1 0)).getD ((qer b).getD i 0).toNat 0
theorem j12{F:Nat}(hF:66≤F){b:LI}(hb:Bytes b)(hl:b.length=8):qi0 F b=some (qay b,0,()):=by
 have loop:∀T:LI,q2m F F T (qer b) (q5y (b.getD 0 0) (b.getD 1 0)) (qer b) 0=some (T,qay b,()):=by
  intro T
  refine qki 16 (fun i=>(q5y (b.getD 0 0) (b.getD 1 0)).getD ((qer b).getD i 0).toNat 0) (fun k w i=>q2m F k T w (q5y (b.getD 0 0) (b.getD 1 0)) (qer b) i) (fun w=>some (T,w,())) ?_ ?_ _ (z5p b) F (by omega)
  ·intro k i w hi hw
   show q4b F (q2m F k) T w (q5y (b.getD 0 0) (b.getD 1 0)) (qer b) i=_
   unfold q4b
   have h1:(i:Int)<16:=by omega
   have h2:=zzc b i hi
   have h3:(qer b).getD i 0<8:=by omega
   simp only[h1,dT,cT,yc,yd,yb,h2.1,h3,q0j (show i<1000000000000 by omega)]
  ·intro k w hw
   show q4b F (q2m F k) T w (q5y (b.getD 0 0) (b.getD 1 0)) (qer b) 16=_
   unfold q4b
   simp
 unfold qi0
 rw[j3x hF hb hl]
 simp only[y5,and_self,if_true,bne_self_eq_false,cF,j3z hF (hb.getD 0) (hb.getD 1),loop]
theorem zjo{F:Nat}(hF:66≤F){b:LI}(hb:Bytes b)(hl:b.length=8):qfx F b=some (qay b,0,()):=by
 have loop:∀T:LI,q36 F F T (qer b) (q5y (b.getD 0 0) (b.getD 1 0)) 0=some (T,qay b,()):=by
  intro T
  refine j0y 16 (fun i=>(q5y (b.getD 0 0) (b.getD 1 0)).getD ((qer b).getD i 0).toNat 0) (qer b) (fun k w i=>q36 F k T w (q5y (b.getD 0 0) (b.getD 1 0)) i) (fun w=>some (T,w,())) ?_ ?_ (z5p b) F (by omega)
  ·intro k i w hi hw hwj
   show q5e F (q36 F k) T w (q5y (b.getD 0 0) (b.getD 1 0)) i=_
   unfold q5e
   have h1:(i:Int)<16:=by omega
   have h2:=zzc b i hi
   have h3:(qer b).getD i 0<8:=by omega
   simp only[h1,dT,cT,yc,yd,yb,hwj i (wa _),h2.1,h3,q0j (show i<1000000000000 by omega)]
  ·intro k w hw
   show q5e F (q36 F k) T w (q5y (b.getD 0 0) (b.getD 1 0)) 16=_
   unfold q5e
   simp
 unfold qfx
 rw[j10 hF hb hl]
 simp only[y5,and_self,if_true,bne_self_eq_false,cF,rRamp_is hF (hb.getD 0) (hb.getD 1),loop]
def z8o(b:LI):LI:=(yy 16).map fun i=>q3z 4 (lv b (4*i) 4)
def nibs(b:LI):LI:=(yy 16).map fun i=>lv b (4*i) 4
theorem Fours_is{F:Nat}(hF:66≤F){b:LI}(hb:Bytes b)(hl:b.length=8):qkz F b=some (z8o b,0,()):=by
 have h:=zrb hF hb (by omega) (a:=0) (n:=4) (m:=16) (by decide) (by decide) (by omega)
 have e:((yy 16).map fun i=>lv b (0+i*4) 4)=nibs b:=by
  unfold nibs
  refine List.map_congr_left fun i _=> ?_
  rw[Nat.mul_comm,Nat.zero_add]
 rw[e]at h
 simp only[yp,yq]at h
 have hnl:(nibs b).length=16:=by simp[nibs]
 have loop:∀T:LI,q35 F F T q04 (nibs b) 0=some (T,z8o b,()):=by
  intro T
  refine qki 16 (fun i=>q3z 4 (lv b (4*i) 4)) (fun k w i=>q35 F k T w (nibs b) i) (fun w=>some (T,w,())) ?_ ?_ _ rfl F (by omega)
  ·intro k i w hi hw
   show q5d F (q35 F k) T w (nibs b) i=_
   unfold q5d
   have h1:(i:Int)<16:=by omega
   have g:(nibs b).getD i 0=lv b (4*i) 4:=q64 _ hi
   have wd:=qrb (F:=F) (by omega) (b:=4) (by decide) (lv b (4*i) 4)
   simp only[yp]at wd
   simp only[h1,dT,cT,hnl,yc,yp,yd,yb,g,wd,y5,q0j (show i<1000000000000 by omega)]
  ·intro k w hw
   show q5d F (q35 F k) T w (nibs b) 16=_
   unfold q5d
   simp
 unfold qkz
 simp[hl,h,loop]
theorem j40{F:Nat}(hF:66≤F){b:LI}(hb:Bytes b)(hl:b.length=8):qjc F b=some (z8o b,0,()):=by
 have loop:∀T:LI,q41 F F b T q04 0=some (T,z8o b,()):=by
  intro T
  refine qki 16 (fun i=>q3z 4 (lv b (4*i) 4)) (fun k w i=>q41 F k b T w i) (fun w=>some (T,w,())) ?_ ?_ _ rfl F (by omega)
  ·intro k i w hi hw
   show q6e F (q41 F k) b T w i=_
   unfold q6e
   have h1:(i:Int)<16:=by omega
   have hb4:=q3y b (4*i) 4
   have e:=z5o hF hb (by omega) (a:=4*i) (n:=4) (by decide) (by omega)
   have e1:y0 .i64 (4*(i:Int))=((4*i:Nat):Int):=by rw[w64 (by omega) (by omega)];omega
   have wd:=qrc (F:=F) (by omega) (b:=4) (by decide) (x:=lv b (4*i) 4) (by omega)
   simp only[yp]at wd e
   simp only[h1,dT,cT,e1,e,wd,y5,yc,yd,yb,q0j (show i<1000000000000 by omega)]
  ·intro k w hw
   show q6e F (q41 F k) b T w 16=_
   unfold q6e
   simp
 unfold qjc
 simp[hl,loop]
def zjp:LI:=[0,0,0,0,0,0,0,0]
theorem qm2:Bytes zjp:=fun x hx=>by simp[zjp]at hx;omega
def okW(each:Nat)(w:LI)(j:Nat):Prop:=0≤w.getD j 0∧w.getD j 0<2^each
theorem zjq{F:Nat}{low:Int}{from_ each:Nat}{w:LI}(hl:0≤low∧low<2^from_)(he:1≤each∧each≤8)(hfe:from_+each*16≤64){i:Nat}(hi:i<16)(hw:∀j,j<i→okW each w j)(hi64:∀j,-9223372036854775808≤w.getD j 0∧w.getD j 0≤9223372036854775807)(k:Nat):
  q1q F (k+1) (qdj low from_ each w i) from_ each w i=if 0≤w.getD i 0∧w.getD i 0<2^each then q1q F k (qdj low from_ each w (i+1)) from_ each w ((i+1:Nat):Int)else some (.inl ()):=by
 show q4a F (q1q F k) (qdj low from_ each w i) from_ each w i=_
 unfold q4a
 have h1:(i:Int)<16:=by omega
 have h2:each*i≤each*16:=Nat.mul_le_mul_left _ (by omega)
 have h3:each*(i+1)≤each*16:=Nat.mul_le_mul_left _ (by omega)
 rw[Nat.mul_succ]at h3
 have hsh:=zdz (b:=each) (by omega)
 simp only[h1,dT,cT,yc,yd,yb,hsh]
 by_cases hc:0≤w.getD i 0∧w.getD i 0<2^each
 ·rw[iP hc]
  have c1:¬w.getD i 0<0:=by omega
  have c2:¬2^each≤w.getD i 0:=by omega
  have ep:(2:Int)^each≤2^8:=qax he.2
  have e1:y0 .i64 ((from_:Int)+y0 .i64 ((each:Int)*(i:Int)))=((from_+each*i:Nat):Int):=by
   have e:((each:Int)*(i:Int))=((each*i:Nat):Int):=by simp
   rw[e,w64 (x:=((each*i:Nat):Int)) (by omega) (by omega),w64 (by omega) (by omega)]
   omega
  have e2:y0 .u64 (w.getD i 0)=w.getD i 0:=wu64 hc.1 (by omega)
  have hb:=qeq hl (m:=i) hw i (wa _)
  have e3:=z5m (x:=qdj low from_ each w i) (v:=w.getD i 0) (m:=from_+each*i) (k:=each) hb hc (by omega) (by omega)
  simp only[c1,c2,dF,cF,e1,e2,e3,yc,dT,cT,q0j (show i<1000000000000 by omega)]
  rfl
 ·rw[iN hc]
  by_cases c1:w.getD i 0<0
  ·simp only[c1,dT,cT]
  ·have c2:2^each≤w.getD i 0:=by
    apply Classical.byContradiction
    intro h
    exact hc ⟨by omega,by omega⟩
   simp only[c1,c2,dF,cF,dT,cT]
theorem zuw{F:Nat}{low:Int}{from_ each:Nat}{w:LI}(hl:0≤low∧low<2^from_)(he:1≤each∧each≤8)(hfe:from_+each*16≤64)(hw:∀j,j<16→okW each w j)(hi64:∀j,-9223372036854775808≤w.getD j 0∧w.getD j 0≤9223372036854775807):∀(k i:Nat),i≤16→16-i<k→
  q1q F k (qdj low from_ each w i) from_ each w i=some (.inr (qdj low from_ each w 16,()))
 |0,i,_,h=>by omega
 |k+1,i,hi,hk=>by
  by_cases h:i<16
  ·rw[zjq hl he hfe h (fun j hj=>hw j (by omega)) hi64,iP (show 0≤w.getD i 0∧w.getD i 0<2^each from hw i h)]
   exact zuw hl he hfe hw hi64 k (i+1) (by omega) (by omega)
  ·have:i=16:=by omega
   subst this
   show q4a F (q1q F k) (qdj low from_ each w 16) from_ each w 16=_
   unfold q4a
   simp
theorem znq{F:Nat}{low:Int}{from_ each:Nat}{w:LI}(hl:0≤low∧low<2^from_)(he:1≤each∧each≤8)(hfe:from_+each*16≤64){m:Nat}(hm:m<16)(hw:∀j,j<m→okW each w j)(hb:¬okW each w m)(hi64:∀j,-9223372036854775808≤w.getD j 0∧w.getD j 0≤9223372036854775807):∀(k i:Nat),i≤m→m-i<k→
  q1q F k (qdj low from_ each w i) from_ each w i=some (.inl ())
 |0,i,_,h=>by omega
 |k+1,i,hi,hk=>by
  rw[zjq hl he hfe (by omega) (fun j hj=>hw j (by omega)) hi64]
  by_cases h:i<m
  ·rw[iP (show 0≤w.getD i 0∧w.getD i 0<2^each from hw i h)]
   exact znq hl he hfe hm hw hb hi64 k (i+1) (by omega) (by omega)
  ·have:i=m:=by omega
   subst this
   exact iN (show¬(0≤w.getD i 0∧w.getD i 0<2^each)from hb)
def qdk(low:Int)(from_ each:Nat)(w:LI):LI:=lset zjp 0 64 (qdj low from_ each w 16)
theorem z5q{F:Nat}(hF:66≤F){low:Int}{from_ each:Nat}{w:LI}(hl:0≤low∧low<2^from_)(he:1≤each∧each≤8)(hfe:from_+each*16≤64)(hi64:∀j,-9223372036854775808≤w.getD j 0∧w.getD j 0≤9223372036854775807):
  ((∀j,j<16→okW each w j)→q6v F low from_ each w=some (qdk low from_ each w,0,()))∧((∃m,m<16∧(∀j,j<m→okW each w j)∧¬okW each w m)→q6v F low from_ each w=some ([],1,())):=by
 constructor
 ·intro hw
  have e:=zuw (F:=F) hl he hfe hw hi64 F 0 (by decide) (by omega)
  rw[show qdj low from_ each w 0=low from rfl,yq]at e
  have hb:=qeq hl (m:=16) hw 16 (wa _)
  have h64:(2:Int)^(from_+each*16)≤2^64:=qax hfe
  have es:=zji hF (b:=zjp) qm2 (by decide) (a:=0) (n:=64) (v:=qdj low from_ each w 16) (by decide) (by decide) ⟨hb.1,by omega⟩
  simp only[yq,yp]at es
  unfold q6v
  simp only[and_self,if_true,e,y5]
  have ez:q0u=zjp:=rfl
  simp only[ez,es,y5,qdk]
 ·rintro⟨m,hm,hw,hbad⟩
  have e:=znq (F:=F) hl he hfe hm hw hbad hi64 F 0 (by omega) (by omega)
  rw[show qdj low from_ each w 0=low from rfl,yq]at e
  unfold q6v
  simp only[and_self,if_true,e,y5]
theorem qix(low:Int)(from_ each:Nat)(w:LI):(qdk low from_ each w).length=8:=by unfold qdk;rw[zr9];rfl
theorem q5z(low:Int)(from_ each:Nat)(w:LI):Bytes (qdk low from_ each w):=z8k qm2 _ _ _
theorem znr{low:Int}{from_ each:Nat}{w:LI}(hl:0≤low∧low<2^from_)(he:1≤each)(hfe:from_+each*16=64)(hw:∀j,j<16→okW each w j){q:Nat}(hq:q<64):
  q48 (qdk low from_ each w) q=if q<from_ then low/2^q%2 else w.getD ((q-from_)/each) 0/2^((q-from_)%each)%2:=by
 unfold qdk
 rw[zra qm2 (by decide),iP ⟨by omega,by omega⟩,Nat.sub_zero]
 exact zjj hl he hw 16 (wa _) q (by omega)
theorem lowTwo{a b:Int}(ha:0≤a∧a≤255)(hb:0≤b∧b≤255):ior .u64 (y0 .u64 a) (ishl .u64 (y0 .u64 b) 8)=a+b*2^8∧0≤a+b*2^8∧a+b*2^8<2^16∧∀q,q<16→q48 [a,b,0,0,0,0,0,0] q=(a+b*2^8)/2^q%2:=by
 have e:=z5m (x:=a) (v:=b) (m:=8) (k:=8) (by omega) (by omega) (by decide) (by decide)
 rw[wu64 ha.1 (by omega),wu64 hb.1 (by omega)]
 refine⟨by simpa using e,by omega,by omega,fun q hq=> ?_⟩
 rw[q8x (by omega)]
 unfold q48 bitL
 split
 ·rename_i h
  rw[show q/8=0 by omega,show q%8=q by omega]
  rfl
 ·rename_i h
  rw[show q/8=1 by omega,show q%8=q-8 by omega]
  rfl
theorem zx8:((yy 16).all fun v=>q7i 600 (qkr 4 v) 4==some ((v:Int),()))=true:=by kernel_rfl
theorem ishr64' {x:Int}{k:Nat}(hk:k≤63):ishr .i64 x (k:Int)=x/2^k:=by
 unfold ishr
 have:min ((k:Int).toNat) (IntKind.bits .i64)=k:=by
  show min ((k:Int).toNat) 64=k
  simp
  omega
 rw[this,Int.fdiv_eq_ediv_of_nonneg _ (Int.le_of_lt (qgm k))]
theorem zx9{m:Nat}(f:Nat→LI){N:Nat}(hf:∀i,i<N→(f i).length=m):((yy N).flatMap f).length=N*m:=by
 induction N with
 |zero=>simp
 |succ M ih=>
  rw[List.range_succ,List.flatMap_append,yo,ih (fun i h=>hf i (by omega)),Nat.add_mul]
  simp[hf M (by omega)]
def qgn(x:Int):Int:=max 0 (min x 255)
theorem q49(x:Int):0≤qgn x∧qgn x≤255:=by unfold qgn;omega
def tab(N:Nat)(g:Nat→Int):LI:=(yy N).map g
theorem q0g(N:Nat)(g:Nat→Int):(tab N g).length=N:=by simp[tab]
theorem q0d{N i:Nat}{g:Nat→Int}(h:i<N):(tab N g).getD i 0=g i:=q64 g h
theorem q03{N:Nat}{g f:Nat→Int}(h:∀i,i<N→g i=f i):tab N g=tab N f:=by
 unfold tab
 exact List.map_congr_left fun i hi=>h i (by simpa using hi)
theorem q4u{N k:Nat}{g:Nat→Int}{v:Int}:(tab N g).set k v=tab N (fun j=>if j=k then v else g j):=by
 apply List.ext_getElem
 ·simp[tab]
 ·intro i h1 h2
  simp only[tab,List.getElem_set,List.getElem_map,List.getElem_range]
  by_cases h:k=i
  ·simp[h]
  ·have:¬i=k:=fun e=>h e.symm
   simp[h,this]
theorem j41(N:Nat):yx N (0:Int)=tab N fun _=>0:=by
 unfold tab
 rw[List.map_const']
 simp
theorem qaq{N i m:Nat}{g:Nat→Int}(h:i*m+m≤N):y8 m (y9 (i*m) (tab N g))=tab m fun c=>g (i*m+c):=by
 apply List.ext_getElem
 ·simp[tab]
  omega
 ·intro j h1 h2
  simp[tab]
theorem qye{N:Nat}{l:LI}(h:l.length=N):l=tab N fun i=>l.getD i 0:=by
 apply List.ext_getElem
 ·simp[tab,h]
 ·intro i h1 h2
  simp[tab,ye,h1]
theorem mulS{i E n:Nat}(h:i<E):(i+1)*n≤E*n:=Nat.mul_le_mul_right _ (by omega)
def upT(i:Nat)(g:Nat→Int)(j:Nat):Int:=if j<i then g j else 0
theorem qes{N i:Nat}(g:Nat→Int):(tab N (upT i g)).set i (g i)=tab N (upT (i+1) g):=by
 rw[q4u]
 refine q03 fun j hj=> ?_
 unfold upT
 by_cases h:j=i
 ·rw[iP h,iP (by omega),h]
 ·rw[iN h]
  by_cases h2:j<i
  ·rw[iP h2,iP (by omega)]
  ·rw[iN h2,iN (by omega)]
theorem qhl{N:Nat}(g:Nat→Int):tab N (upT N g)=tab N g:=q03 fun j hj=>iP hj
theorem q87{N:Nat}(g:Nat→Int):tab N (upT 0 g)=tab N fun _=>0:=q03 fun j hj=>iN (by omega)
theorem mul4(i c:Nat)(h:c<4):(i*4+c)/4=i∧(i*4+c)%4=c:=by omega
theorem beqT{a b:Int}(h:a=b):(a==b)=true:=by simpa using h
theorem zre{N i:Nat}{g h:Nat→Int}(hN:i*4+4≤N):(y8 (i*4) (tab N g)++tab 4 h)++y9 (i*4+4) (tab N g)=tab N fun j=>if j/4=i then h (j%4)else g j:=by
 apply List.ext_getElem
 ·simp[tab]
  omega
 ·intro j h1 h2
  have hj:j<N:=by simpa[tab]using h2
  have l1:(y8 (i*4) (tab N g)).length=i*4:=by simp[tab];omega
  have l2:(tab 4 h).length=4:=q0g _ _
  simp only[List.getElem_append,yo,l1,l2]
  by_cases c1:j<i*4+4
  ·rw[dif_pos c1]
   by_cases c2:j<i*4
   ·rw[dif_pos c2]
    simp only[tab,List.getElem_take,List.getElem_map,List.getElem_range]
    rw[iN (by omega)]
   ·rw[dif_neg c2]
    simp only[tab,List.getElem_map,List.getElem_range]
    rw[iP (by omega)]
    congr 1
    omega
  ·rw[dif_neg c1]
   simp only[tab,List.getElem_drop,List.getElem_map,List.getElem_range]
   rw[iN (by omega)]
   congr 1
   omega
def upR(i c:Nat)(g:Nat→Int)(j:Nat):Int:=if j<i*4+c then g j else 0
theorem zxa{N i c:Nat}(g:Nat→Int):(tab N (upR i c g)).set (i*4+c) (g (i*4+c))=tab N (upR i (c+1) g):=by
 rw[q4u]
 refine q03 fun j hj=> ?_
 unfold upR
 by_cases h:j=i*4+c
 ·rw[iP h,iP (by omega),h]
 ·rw[iN h]
  by_cases h2:j<i*4+c
  ·rw[iP h2,iP (by omega)]
  ·rw[iN h2,iN (by omega)]
theorem zrf{N i:Nat}(g:Nat→Int):tab N (upR i 4 g)=tab N (upR (i+1) 0 g):=q03 fun j hj=>by
 unfold upR
 by_cases h:j<i*4+4
 ·rw[iP h,iP (by omega)]
 ·rw[iN h,iN (by omega)]
theorem zrg{N:Nat}(g:Nat→Int):tab N (upR 0 0 g)=tab N fun _=>0:=q03 fun j hj=>iN (by omega)
theorem zxb{N i:Nat}(g:Nat→Int)(h:N≤i*4):tab N (upR i 0 g)=tab N g:=q03 fun j hj=>iP (by omega)
theorem z8p{l:LI}{N i:Nat}(hl:l.length=N)(h:i*4+4≤N):y8 4 (y9 (i*4) l)=tab 4 fun c=>l.getD (i*4+c) 0:=by
 conv=>lhs;rw[qye hl]
 exact qaq h
theorem zns{σ ρ:Type}{N:Nat}(hN:N≤500)(L:Nat→σ→Int→Option ρ)(I:Nat→σ→Prop)(R:ρ→Prop)
  (step:∀k i s,i<N→I i s→∃s',I (i+1) s' ∧L (k+1) s (i:Int)=L k s' ((i+1:Nat):Int))
  (stop:∀k s,I N s→∃r,R r∧L (k+1) s (N:Int)=some r) (i0:Nat) (hi:i0≤N) {s:σ} (h0:I i0 s) (k:Nat) (hk:N-i0<k):∃r,R r∧L k s (i0:Int)=some r:=by
 have key:∀(d i k:Nat) (s:σ),i+d=N→d<k→I i s→∃r,R r∧L k s (i:Int)=some r:=by
  intro d
  induction d with
  |zero=>
   intro i k s h1 h2 hI
   obtain⟨k,rfl⟩:∃k',k=k' +1:=⟨k-1,by omega⟩
   obtain rfl:i=N:=by omega
   exact stop k s hI
  |succ d ih=>
   intro i k s h1 h2 hI
   obtain⟨k,rfl⟩:∃k',k=k' +1:=⟨k-1,by omega⟩
   obtain⟨s',h3,h4⟩:=step k i s (by omega) hI
   rw[h4]
   exact ih (i+1) k s' (by omega) (by omega) h3
 exact key (N-i0) i0 k s (by omega) hk h0
theorem qaz{σ ρ:Type}{N:Nat}(hN:N≤500)(L:Nat→σ→Int→Option ρ)(I:Nat→σ→Prop)(R:ρ→Prop)
  (step:∀k i s,i<N→I i s→∃s',I (i+1) s' ∧L (k+1) s (i:Int)=L k s' ((i+1:Nat):Int))
  (stop:∀k s,I N s→∃r,R r∧L (k+1) s (N:Int)=some r) {s:σ} (h0:I 0 s):∃r,R r∧L 600 s 0=some r:=
 zns hN L I R step stop 0 (by omega) h0 600 (by omega)
def colV(n:Int):LI:=[q3z 5 (n/2048),q3z 6 (n/32),q3z 5 n,255]
theorem j42{x:Int}{k:Nat}(hk:k≤63):ishr .i64 x (k:Int)=x/2^k:=by
 unfold ishr
 have:min ((k:Int).toNat) (IntKind.bits .i64)=k:=by
  show min ((k:Int).toNat) 64=k
  simp
  omega
 rw[this,Int.fdiv_eq_ediv_of_nonneg _ (Int.le_of_lt (qgm k))]
theorem j43{F:Nat}(hF:10≤F)(n:Int):qfz F n=some (colV n,()):=by
 have w5:=fun x=>qrb (F:=F) hF (b:=5) (by decide) x
 have w6:=fun x=>qrb (F:=F) hF (b:=6) (by decide) x
 have s11:=j42 (x:=n) (k:=11) (by decide)
 have s5:=j42 (x:=n) (k:=5) (by decide)
 simp only[yp]at w5 w6 s11 s5
 unfold qfz colV
 simp only[s11,s5,w5,w6,y5]
 rfl
theorem qyf{b:Nat}{x y:Int}(h:x%2^b=y%2^b):q3z b x=q3z b y:=by unfold q3z;rw[h]
theorem znt{F:Nat}(hF:10≤F){n:Int}(hn: -9000000000000000000≤n∧n≤9223372036854775807∨IntKind.i64.has n):qg0 F n=some (colV n,()):=by
 have key:∀m:Int,0≤m→m<65536→m=n%65536→((q0e F (y0 .i64 (yv m 2048)) 5).bind fun r1=>(q0e F (y0 .i64 (yv m 32)) 6).bind fun r2=>(q0e F m 5).bind fun r3=>some ([r1.1,r2.1,r3.1,(255:Int)],()))=some (colV n,()):=by
  intro m h0 h1 hm
  have w5:=fun x hx=>qrc (F:=F) hF (b:=5) (by decide) (x:=x) hx
  have w6:=fun x hx=>qrc (F:=F) hF (b:=6) (by decide) (x:=x) hx
  simp only[yp]at w5 w6
  rw[q3s h0,q3s h0,w64 (x:=m/2048) (by omega) (by omega),w64 (x:=m/32) (by omega) (by omega),w5 (m/2048) (by omega),w6 (m/32) (by omega),w5 m (by omega)]
  simp only[y5]
  unfold colV
  rw[qyf (b:=5) (x:=m/2048) (y:=n/2048) (by omega),qyf (b:=6) (x:=m/32) (y:=n/32) (by omega),qyf (b:=5) (x:=m) (y:=n) (by omega)]
 have ht:n.tmod 65536=if n.tmod 65536<0 then n%65536-65536 else n%65536:=by
  have h3:=Int.tmod_add_mul_tdiv n 65536
  have h4: -65536<n.tmod 65536:=by
   have:=Int.tmod_lt_of_pos (-n) (show(0:Int)<65536 by decide)
   rw[Int.neg_tmod]at this
   omega
  have h5:=Int.tmod_lt_of_pos n (show(0:Int)<65536 by decide)
  split<;>omega
 unfold qg0
 by_cases hneg:n.tmod 65536<0
 ·rw[iP hneg]at ht
  have e:y0 .i64 (n.tmod 65536+65536)=n%65536:=by
   rw[w64 (by omega) (by omega)]
   omega
  simp only[hneg,dT,cT,e]
  exact key (n%65536) (by omega) (by omega) rfl
 ·rw[iN hneg]at ht
  simp only[hneg,dF,cF]
  rw[ht]
  exact key (n%65536) (by omega) (by omega) rfl
theorem colV_get{n:Int}{c:Nat}(hc:c<4):0≤(colV n).getD c 0∧(colV n).getD c 0≤255:=by
 have h1:=q79 (b:=5) (by decide) (n/2048)
 have h2:=q79 (b:=6) (by decide) (n/32)
 have h3:=q79 (b:=5) (by decide) n
 unfold colV
 match c with
 |0=>simpa using h1
 |1=>simpa using h2
 |2=>simpa using h3
 |3=>simp
 |c+4=>omega
def sqd(b:Nat)(n:Int)(v:Nat):Int:=(q3z b v-n)*(q3z b v-n)
def q6m(b:Nat)(n:Int):Nat→Nat
 |0=>0
 |1=>0
 |i+2=>if sqd b n (i+1)<sqd b n (q6m b n (i+1))then i+1 else q6m b n (i+1)
theorem zrh(b:Nat)(n:Int):∀i,q6m b n i≤i-1
 |0=>by simp[q6m]
 |1=>by simp[q6m]
 |i+2=>by
  have:=zrh b n (i+1)
  unfold q6m
  split<;>omega
theorem z5r{b:Nat}(hb:1≤b∧b≤8){n:Int}(hn: -1048576≤n∧n≤1048576)(v:Nat):y0 .i64 (q3z b v-n)=q3z b v-n∧y0 .i64 ((q3z b v-n)*(q3z b v-n))=sqd b n v:=by
 have hw:=q79 hb (v:Int)
 refine⟨w64 (by omega) (by omega),?_⟩
 have hm: -(1048831*1048831)≤(q3z b v-n)*(q3z b v-n)∧(q3z b v-n)*(q3z b v-n)≤1048831*1048831:=by
  rcases Int.lt_or_le (q3z b v-n) 0 with h|h
  ·have:=mulB' (n:= -(q3z b v-n)) (t:= -(q3z b v-n)) (c:=1048831) (d:=1048831) (by omega) (by omega) (by decide)
   rw[Int.neg_mul_neg]at this
   exact this
  ·exact mulB' (by omega) (by omega) (by decide)
 exact w64 (by omega) (by omega)
theorem zjr{F:Nat}(hF:10≤F){b:Nat}(hb:1≤b∧b≤8){n:Int}(hn: -1048576≤n∧n≤1048576){m:Nat}(hm:m≤256):∀(k i:Nat),1≤i→i≤m→m-i<k→
  q0w F k b n (q6m b n i) (sqd b n (q6m b n i)) m i=some ((q6m b n m:Int),())
 |0,i,_,_,h=>by omega
 |k+1,i,h1,hi,hk=>by
  unfold q0w q2f
  by_cases h:i<m
  ·have c1:(i:Int)<m:=by omega
   have ih:=zjr hF hb hn hm k (i+1) (by omega) (by omega) (by omega)
   obtain⟨q1,q2⟩:=z5r hb hn i
   have e:q90 F i b n=some (sqd b n i,()):=by
    unfold q90 q42
    rw[qrb hF hb]
    simp only[y5,q1,q2]
   have c2:((i:Int)==0)=false:=beqF (by omega)
   obtain⟨i',rfl⟩:∃i',i=i' +1:=⟨i-1,by omega⟩
   simp only[c1,dT,cT,e,y5,c2,cF,q0j (show i' +1<1000000000000 by omega)]
   rw[q6m]at ih
   by_cases hc:sqd b n (i' +1)<sqd b n (q6m b n (i' +1))
   ·rw[iP hc]at ih
    simp only[hc,dT,cT]
    exact ih
   ·rw[iN hc]at ih
    simp only[hc,dF,cF]
    exact ih
  ·have:i=m:=by omega
   subst this
   simp
theorem zjs{F:Nat}(hF:300≤F){b:Nat}(hb:1≤b∧b≤8){n:Int}(hn: -1048576≤n∧n≤1048576):q7i F n b=some ((q6m b n (2^b):Int),()):=by
 have hp:(2:Nat)^b≤2^8:=Nat.pow_le_pow_right (by decide) hb.2
 have hp1:(2:Nat)^1≤2^b:=Nat.pow_le_pow_right (by decide) hb.1
 have ep:((2^b:Nat):Int)=(2:Int)^b:=wg 2 b
 have h0:qva F b=some (false,()):=by
  unfold qva
  have c1:¬(b:Int)<1:=by omega
  have c2:¬(8:Int)<(b:Int):=by omega
  simp only[c1,c2,dF,cF]
 obtain⟨k,rfl⟩:∃k,F=k+1:=⟨F-1,by omega⟩
 have l1:=zjr (F:=k+1) (by omega) hb hn (m:=2^b) (by omega) k 1 (by decide) (by omega) (by omega)
 have first:q0w (k+1) (k+1) b n 0 0 ((2^b:Nat):Int) 0=q0w (k+1) k b n (q6m b n 1) (sqd b n (q6m b n 1)) ((2^b:Nat):Int) ((1:Nat):Int):=by
  show q2f (k+1) (q0w (k+1) k) b n 0 0 ((2^b:Nat):Int) 0=_
  unfold q2f
  have c1:(0:Int)<((2^b:Nat):Int):=by omega
  obtain⟨q1,q2⟩:=z5r hb hn 0
  simp only[yq]at q1 q2
  have e:q90 (k+1) 0 b n=some (sqd b n 0,()):=by
   unfold q90 q42
   rw[qrb (by omega) hb]
   simp only[y5,q1,q2]
  simp only[c1,dT,cT,e,y5,beq_self_eq_true]
  rfl
 unfold q7i qav
 have c3:(0:Int)≤(b:Int):=by omega
 simp only[h0,y5,cF,c3,dT,cT]
 rw[zdz (by omega),←ep,first,l1]
 rfl
theorem zjt{F:Nat}(hF:10≤F){b:Nat}(hb:1≤b∧b≤8){n:Int}(hn: -1048576≤n∧n≤1048576):∀(k i:Nat),1≤i→i≤2^b→2^b-i<k→
  qi4 F k n b (q6m b n i) i=some ((q6m b n (2^b):Int),())
 |0,i,_,_,h=>by omega
 |k+1,i,h1,hi,hk=>by
  have hp:(2:Nat)^b≤2^8:=Nat.pow_le_pow_right (by decide) hb.2
  have ep:((2^b:Nat):Int)=(2:Int)^b:=wg 2 b
  unfold qi4 z0b
  rw[zjl hF hb.2]
  simp only[y5]
  rw[←ep]
  by_cases h:i<2^b
  ·have c1:(i:Int)<((2^b:Nat):Int):=by omega
   have ih:=zjt hF hb hn k (i+1) (by omega) (by omega) (by omega)
   have hle:=zrh b n i
   obtain⟨q1,q2⟩:=z5r hb hn i
   obtain⟨q3,q4⟩:=z5r hb hn (q6m b n i)
   have e1:=qrc hF hb (x:=(i:Int)) (by omega)
   have e2:=qrc hF hb (x:=(q6m b n i:Int)) (by omega)
   unfold qjd
   simp only[c1,dT,cT,e1,e2,y5,q1,q2,q3,q4,q0j (show i<1000000000000 by omega)]
   obtain⟨i',rfl⟩:∃i',i=i' +1:=⟨i-1,by omega⟩
   rw[q6m]at ih
   by_cases hc:sqd b n (i' +1)<sqd b n (q6m b n (i' +1))
   ·rw[iP hc]at ih
    simp only[hc,dT,cT]
    exact ih
   ·rw[iN hc]at ih
    simp only[hc,dF,cF]
    exact ih
  ·have:i=2^b:=by omega
   subst this
   simp
theorem zri{F:Nat}(hF:300≤F){b:Nat}(hb:1≤b∧b≤8){n:Int}(hn: -1048576≤n∧n≤1048576):qnl F n b=some ((q6m b n (2^b):Int),()):=by
 have hp:(2:Nat)^b≤2^8:=Nat.pow_le_pow_right (by decide) hb.2
 have hp1:(2:Nat)^1≤2^b:=Nat.pow_le_pow_right (by decide) hb.1
 have l:=zjt (F:=F) (by omega) hb hn F 1 (by decide) (by omega) (by omega)
 have c1:¬(b:Int)<1:=by omega
 have c2:¬(8:Int)<(b:Int):=by omega
 unfold qnl
 simp only[c1,c2,dF,cF]
 have e:((q6m b n 1:Nat):Int)=0:=rfl
 rw[e]at l
 simp only[Int.natCast_one]at l
 rw[l]
 rfl
theorem qft{b:Nat}(n:Int):q6m b n (2^b)<2^b:=by
 have:=zrh b n (2^b)
 have:=zus b
 omega
theorem ior64{a b k:Nat}(hb:b<2^k)(h:a*2^k+b<9223372036854775808):ior .i64 ((a*2^k:Nat):Int) (b:Int)=((a*2^k+b:Nat):Int):=by
 have e1:(BitVec.ofInt 64 ((a*2^k:Nat):Int)).toNat=a*2^k:=by
  rw[BitVec.ofInt_natCast,BitVec.toNat_ofNat,Nat.mod_eq_of_lt (by omega)]
 have e2:(BitVec.ofInt 64 (b:Int)).toNat=b:=by
  rw[BitVec.ofInt_natCast,BitVec.toNat_ofNat,Nat.mod_eq_of_lt (by omega)]
 have e3:(BitVec.ofInt 64 ((a*2^k:Nat):Int)|||BitVec.ofInt 64 (b:Int)).toNat=a*2^k+b:=by
  rw[BitVec.toNat_or,e1,e2,Nat.mul_comm,←Nat.two_pow_add_eq_or_of_lt hb]
 show y0 .i64 (((BitVec.ofInt 64 ((a*2^k:Nat):Int)|||BitVec.ofInt 64 (b:Int)).toNat:Nat):Int)=_
 rw[e3]
 exact z8m h
theorem zzf{a k:Nat}(hk:k≤62)(h:a*2^k<9223372036854775808):ishl .i64 (a:Int) (k:Int)=((a*2^k:Nat):Int):=by
 have ep:((2^k:Nat):Int)=(2:Int)^k:=wg 2 k
 unfold ishl
 have:min ((k:Int).toNat) (IntKind.bits .i64)=k:=by
  show min ((k:Int).toNat) 64=k
  simp
  omega
 rw[this,←ep,←Int.natCast_mul]
 exact z8m h
def q7g(t:LI):Int:=2048*(q6m 5 (t.getD 0 0) 32:Int)+32*(q6m 6 (t.getD 1 0) 64:Int)+(q6m 5 (t.getD 2 0) 32:Int)
theorem Pack_is{F:Nat}(hF:300≤F){t:LI}(ht:∀c,c<3→-1048576≤t.getD c 0∧t.getD c 0≤1048576):qiw F t=some (q7g t,())∧znk F t=some (q7g t,()):=by
 have n0:=zjs hF (b:=5) (by decide) (ht 0 (by decide))
 have n1:=zjs hF (b:=6) (by decide) (ht 1 (by decide))
 have n2:=zjs hF (b:=5) (by decide) (ht 2 (by decide))
 have r0:=zri hF (b:=5) (by decide) (ht 0 (by decide))
 have r1:=zri hF (b:=6) (by decide) (ht 1 (by decide))
 have r2:=zri hF (b:=5) (by decide) (ht 2 (by decide))
 have b0:=qft (b:=5) (t.getD 0 0)
 have b1:=qft (b:=6) (t.getD 1 0)
 have b2:=qft (b:=5) (t.getD 2 0)
 simp only[yp,Nat.reducePow]at n0 n1 n2 r0 r1 r2 b0 b1 b2
 unfold qiw znk q7g
 simp only[n0,n1,n2,r0,r1,r2,y5]
 generalize q6m 5 (t.getD 0 0) 32=x at*
 generalize q6m 6 (t.getD 1 0) 64=y at*
 generalize q6m 5 (t.getD 2 0) 32=z at*
 constructor
 ·have s1:=zzf (a:=x) (k:=11) (by decide) (by omega)
  have s2:=zzf (a:=y) (k:=5) (by decide) (by omega)
  have o1:=ior64 (a:=x) (b:=y*2^5) (k:=11) (by omega) (by omega)
  have o2:=ior64 (a:=x*2^6+y) (b:=z) (k:=5) (by omega) (by omega)
  simp only[yp]at s1 s2
  rw[s1,s2,o1,show x*2^11+y*2^5=(x*2^6+y)*2^5 by omega,o2]
  congr 2
  omega
 ·rw[w64 (x:=2048*(x:Int)) (by omega) (by omega),w64 (x:=32*(y:Int)) (by omega) (by omega),w64 (x:=2048*(x:Int)+32*(y:Int)) (by omega) (by omega),w64 (by omega) (by omega)]
def betw(a b:LI)(k o:Int):LI:=[mixV (a.getD 0 0) (b.getD 0 0) k o 0,mixV (a.getD 1 0) (b.getD 1 0) k o 0,mixV (a.getD 2 0) (b.getD 2 0) k o 0,255]
def Tex(t:LI):Prop:=t.length=4∧∀c,c<4→0≤t.getD c 0∧t.getD c 0≤255
theorem qrd(n:Int):Tex (colV n):=⟨rfl,fun c hc=>colV_get hc⟩
theorem z8q{F:Nat}(hF:10≤F){a b:LI}(ha:Tex a)(hb:Tex b){k o:Int}(hk:0≤k)(hko:k≤o)(ho:1≤o∧o≤8):q5k F a b k o=some (betw a b k o,())∧qg1 F a b k o=some (betw a b k o,()):=by
 obtain⟨n,rfl⟩:∃n,F=n+4:=⟨F-4,by omega⟩
 have m:∀c,c<4→_:=fun c hc=>zut (n+4) (a:=a.getD c 0) (b:=b.getD c 0) (k:=k) (o:=o) (add:=0) (by have:=ha.2 c hc;omega) (by have:=hb.2 c hc;omega) (by omega) (by omega) (by omega) (by decide)
 have m0:=m 0 (by decide)
 have m1:=m 1 (by decide)
 have m2:=m 2 (by decide)
 constructor
 ·unfold q5k
  have e:q2o (n+4) (n+4) k o a b [0,0,0,0] [0,0,0,255] 0=some ([0,0,0,0],betw a b k o,()):=by
   have s:∀(j:Nat) (w:LI) (c:Nat),c<3→w.length=4→q2o (n+4) (j+1) k o a b [0,0,0,0] w c=q2o (n+4) j k o a b [0,0,0,0] (w.set c (mixV (a.getD c 0) (b.getD c 0) k o 0)) ((c+1:Nat):Int):=by
    intro j w c hc hw
    show q92 (n+4) (q2o (n+4) j) k o a b [0,0,0,0] w c=_
    unfold q92
    have c1:(c:Int)<3:=by omega
    have c2:(c:Int)<4:=by omega
    simp only[c1,c2,dT,cT,yc,yd,yb,(m c (by omega)).1,y5,q0j (show c<1000000000000 by omega)]
   have s0:=s (n+3) [0,0,0,255] 0 (by decide) rfl
   have s1:=s (n+2) ([0,0,0,255].set 0 (mixV (a.getD 0 0) (b.getD 0 0) k o 0)) 1 (by decide) rfl
   have s2:=s (n+1) (([0,0,0,255].set 0 (mixV (a.getD 0 0) (b.getD 0 0) k o 0)).set 1 (mixV (a.getD 1 0) (b.getD 1 0) k o 0)) 2 (by decide) rfl
   simp only[yq]at s0
   rw[s0,s1,s2]
   rfl
  rw[e]
  rfl
 ·unfold qg1
  have e:q6o (n+4) (n+4) k o a b [0,0,0,0] [0,0,0,255] 0=some ([0,0,0,0],betw a b k o,()):=by
   have s:∀(j:Nat) (w:LI) (c:Nat),c<3→w.length=4→q6o (n+4) (j+1) k o a b [0,0,0,0] w c=q6o (n+4) j k o a b [0,0,0,0] (w.set c (mixV (a.getD c 0) (b.getD c 0) k o 0)) ((c+1:Nat):Int):=by
    intro j w c hc hw
    show qi5 (n+4) (q6o (n+4) j) k o a b [0,0,0,0] w c=_
    unfold qi5
    have c1:(c:Int)<3:=by omega
    have c2:(c:Int)<4:=by omega
    simp only[c1,c2,dT,cT,yc,yd,yb,(m c (by omega)).2.1,y5,q0j (show c<1000000000000 by omega)]
   have s0:=s (n+3) [0,0,0,255] 0 (by decide) rfl
   have s1:=s (n+2) ([0,0,0,255].set 0 (mixV (a.getD 0 0) (b.getD 0 0) k o 0)) 1 (by decide) rfl
   have s2:=s (n+1) (([0,0,0,255].set 0 (mixV (a.getD 0 0) (b.getD 0 0) k o 0)).set 1 (mixV (a.getD 1 0) (b.getD 1 0) k o 0)) 2 (by decide) rfl
   simp only[yq]at s0
   rw[s0,s1,s2]
   rfl
  rw[e]
  rfl
def palV(a b:Int)(four:Bool):LI:=
 if four=true∨b<a then colV a++(colV b++(betw (colV a) (colV b) 1 3++betw (colV a) (colV b) 2 3))else colV a++(colV b++(betw (colV a) (colV b) 1 2++[0,0,0,0]))
theorem z8r{F:Nat}(hF:10≤F){a b:Int}(ha:0≤a∧a≤65535)(hb:0≤b∧b≤65535)(four:Bool):q93 F a b four=some (palV a b four,())∧qi6 F a b four=some (palV a b four,()):=by
 have m1:=z8q hF (qrd a) (qrd b) (k:=1) (o:=3) (by decide) (by decide) (by decide)
 have m2:=z8q hF (qrd a) (qrd b) (k:=2) (o:=3) (by decide) (by decide) (by decide)
 have m3:=z8q hF (qrd a) (qrd b) (k:=1) (o:=2) (by decide) (by decide) (by decide)
 have r1:=znt hF (n:=a) (.inl (by omega))
 have r2:=znt hF (n:=b) (.inl (by omega))
 unfold q93 qi6 palV
 simp only[j43 hF,r1,r2,y5,and_self,if_true]
 cases four
 ·by_cases h:b<a
  ·simp[h,m1,m2]
  ·simp[h,m3]
 ·simp[m1,m2]
def oneW(b:LI):LI:=(yy 16).map fun i=>lv b (32+2*i) 2
theorem zzg(b:LI):(oneW b).length=16:=by simp[oneW]
theorem zrj(b:LI){i:Nat}(h:i<16):(oneW b).getD i 0=lv b (32+2*i) 2:=q64 _ h
theorem qre(b:LI):∀i,i<16→okW 2 (oneW b) i:=by
 intro i hi
 unfold okW
 rw[zrj b hi]
 exact q3y _ _ _
theorem j44{F:Nat}(hF:66≤F){b:LI}(hb:Bytes b)(hl:b.length=8):qq7 F b=some (lv b 0 16,lv b 16 16,oneW b,0,()):=by
 have h:=zrb hF hb (by omega) (a:=32) (n:=2) (m:=16) (by decide) (by decide) (by omega)
 have h0:=zrb hF hb (by omega) (a:=0) (n:=16) (m:=2) (by decide) (by decide) (by omega)
 have e:((yy 16).map fun i=>lv b (32+i*2) 2)=oneW b:=by
  unfold oneW
  refine List.map_congr_left fun i _=> ?_
  rw[Nat.mul_comm]
 have e0:((yy 2).map fun i=>lv b (0+i*16) 16)=[lv b 0 16,lv b 16 16]:=rfl
 rw[e]at h
 rw[e0]at h0
 simp only[yp,yq]at h h0
 unfold qq7
 simp only[hl,h,h0,y5,zzg]
 have e2:(y8 16 (oneW b))=oneW b:=List.take_of_length_le (by rw[zzg];omega)
 simp[q05,e2]
theorem j13{F:Nat}(hF:66≤F){b:LI}(hb:Bytes b)(hl:b.length=8):qq8 F b=some (lv b 0 16,lv b 16 16,oneW b,0,()):=by
 have loop:∀T:LI,q43 F F b T q05 0=some (b,T,oneW b,()):=by
  intro T
  refine qki 16 (fun i=>lv b (32+2*i) 2) (fun k w i=>q43 F k b T w i) (fun w=>some (b,T,w,())) ?_ ?_ _ rfl F (by omega)
  ·intro k i w hi hw
   show q6f F (q43 F k) b T w i=_
   unfold q6f
   have h1:(i:Int)<16:=by omega
   have e:=z5o hF hb (by omega) (a:=32+2*i) (n:=2) (by decide) (by omega)
   have e1:y0 .i64 (32+y0 .i64 (2*(i:Int)))=((32+2*i:Nat):Int):=by
    rw[w64 (x:=2*(i:Int)) (by omega) (by omega),w64 (by omega) (by omega)]
    omega
   simp only[yp]at e
   simp only[h1,dT,cT,e1,e,y5,yc,yd,q0j (show i<1000000000000 by omega),yb]
  ·intro k w hw
   show q6f F (q43 F k) b T w 16=_
   unfold q6f
   simp
 have f1:=z5o hF hb (by omega) (a:=0) (n:=16) (by decide) (by omega)
 have f2:=z5o hF hb (by omega) (a:=16) (n:=16) (by decide) (by omega)
 simp only[yp,yq]at f1 f2
 unfold qq8
 simp[hl,loop,f1,f2]
theorem lv16(b:LI)(a:Nat):0≤lv b a 16∧lv b a 16≤65535:=by
 have:=q3y b a 16
 omega
def zju(p w:LI):LI:=(yy 16).flatMap fun i=>(p.drop ((w.getD i 0).toNat*4)).take 4
theorem qm3(a b:Int)(four:Bool):(palV a b four).length=16:=by
 unfold palV
 split<;>rfl
theorem zrk{p:LI}(hp:p.length=16){n:Int}(hn:0≤n∧n<4):((p.drop (n.toNat*4)).take 4).length=4:=by
 simp
 omega
theorem z8s{F:Nat}(hF:66≤F){b:LI}(hb:Bytes b)(hl:b.length=8)(four:Bool):q6n F b four=some (zju (palV (lv b 0 16) (lv b 16 16) four) (oneW b),0,()):=by
 have hpl:=qm3 (lv b 0 16) (lv b 16 16) four
 have pal:=(z8r (F:=F) (by omega) (lv16 b 0) (lv16 b 16) four).1
 generalize palV (lv b 0 16) (lv b 16 16) four=p at*
 have loop:∀T:LI,q37 F F T q2n p (oneW b) 0=some (T,zju p (oneW b),()):=by
  intro T
  refine znp 16 4 (fun i=>(p.drop (((oneW b).getD i 0).toNat*4)).take 4) (fun i hi=>zrk hpl (by have:=qre b i hi;unfold okW at this;omega)) (fun k w i=>q37 F k T w p (oneW b) i) (fun w=>some (T,w,())) ?_ ?_ _ rfl F (by omega)
  ·intro k i w hi hw
   show q5f F (q37 F k) T w p (oneW b) i=_
   unfold q5f
   have h1:(i:Int)<16:=by omega
   have h2:=qre b i hi
   unfold okW at h2
   have h3:(oneW b).getD i 0<4:=by omega
   simp only[h1,dT,cT,yc,yd,yb,h2.1,h3,q0j (show i<1000000000000 by omega)]
  ·intro k w hw
   show q5f F (q37 F k) T w p (oneW b) 16=_
   unfold q5f
   simp
 unfold q6n
 rw[j44 hF hb hl]
 simp only[y5,and_self,if_true,bne_self_eq_false,cF,pal,loop]
theorem zjv{F:Nat}(hF:66≤F){b:LI}(hb:Bytes b)(hl:b.length=8)(four:Bool):q44 F b four=some (zju (palV (lv b 0 16) (lv b 16 16) four) (oneW b),0,()):=by
 have hpl:=qm3 (lv b 0 16) (lv b 16 16) four
 have pal:=(z8r (F:=F) (by omega) (lv16 b 0) (lv16 b 16) four).2
 generalize palV (lv b 0 16) (lv b 16 16) four=p at*
 have loop:∀T:LI,q38 F F T q2n (oneW b) p 0=some (T,zju p (oneW b),()):=by
  intro T
  refine znp 16 4 (fun i=>(p.drop (((oneW b).getD i 0).toNat*4)).take 4) (fun i hi=>zrk hpl (by have:=qre b i hi;unfold okW at this;omega)) (fun k w i=>q38 F k T w (oneW b) p i) (fun w=>some (T,w,())) ?_ ?_ _ rfl F (by omega)
  ·intro k i w hi hw
   show q5g F (q38 F k) T w (oneW b) p i=_
   unfold q5g
   have h1:(i:Int)<16:=by omega
   have h2:=qre b i hi
   unfold okW at h2
   have h3:(oneW b).getD i 0<4:=by omega
   simp only[h1,dT,cT,yc,yd,yb,h2.1,h3,q0j (show i<1000000000000 by omega)]
  ·intro k w hw
   show q5g F (q38 F k) T w (oneW b) p 16=_
   unfold q5g
   simp
 unfold q44
 rw[j13 hF hb hl]
 simp only[y5,and_self,if_true,bne_self_eq_false,cF,pal,loop]
theorem z8t{F:Nat}{low:Int}{w:LI}(hl:0≤low∧low<2^32){i:Nat}(hi:i<16)(hw:∀j,j<i→okW 2 w j)(hi64:∀j,-9223372036854775808≤w.getD j 0∧w.getD j 0≤9223372036854775807)(k:Nat):
  q27 F (k+1) (qdj low 32 2 w i) w i=if 0≤w.getD i 0∧w.getD i 0<2^2 then q27 F k (qdj low 32 2 w (i+1)) w ((i+1:Nat):Int)else some (.inl ()):=by
 show q7j F (q27 F k) (qdj low 32 2 w i) w i=_
 unfold q7j
 have h1:(i:Int)<16:=by omega
 simp only[h1,dT,cT,yc,yd,yb]
 by_cases hc:0≤w.getD i 0∧w.getD i 0<2^2
 ·rw[iP hc]
  have c1:¬w.getD i 0<0:=by omega
  have c2:¬3<w.getD i 0:=by omega
  have e1:y0 .i64 (32+y0 .i64 (2*(i:Int)))=((32+2*i:Nat):Int):=by
   rw[w64 (x:=2*(i:Int)) (by omega) (by omega),w64 (by omega) (by omega)]
   omega
  have e2:y0 .u64 (w.getD i 0)=w.getD i 0:=wu64 hc.1 (by omega)
  have hb:=qeq hl (m:=i) hw i (wa _)
  have e3:=z5m (x:=qdj low 32 2 w i) (v:=w.getD i 0) (m:=32+2*i) (k:=2) hb hc (by omega) (by omega)
  simp only[c1,c2,dF,cF,e1,e2,e3,yc,dT,cT,q0j (show i<1000000000000 by omega)]
  rfl
 ·rw[iN hc]
  by_cases c1:w.getD i 0<0
  ·simp only[c1,dT,cT]
  ·have c2:3<w.getD i 0:=by omega
   simp only[c1,c2,dF,cF,dT,cT]
theorem j14{F:Nat}{low:Int}{w:LI}(hl:0≤low∧low<2^32)(hi64:∀j,-9223372036854775808≤w.getD j 0∧w.getD j 0≤9223372036854775807)(hF:16<F):
  ((∀j,j<16→okW 2 w j)→q27 F F low w 0=some (.inr (qdj low 32 2 w 16,())))∧((∃m,m<16∧(∀j,j<m→okW 2 w j)∧¬okW 2 w m)→q27 F F low w 0=some (.inl ())):=by
 constructor
 ·intro hw
  have key:∀(m i k:Nat),16-i=m→i≤16→m<k→q27 F k (qdj low 32 2 w i) w i=some (.inr (qdj low 32 2 w 16,())):=by
   intro m
   induction m with
   |zero=>
    intro i k h1 h2 h3
    obtain⟨k,rfl⟩:∃k',k=k' +1:=⟨k-1,by omega⟩
    have:i=16:=by omega
    subst this
    show q7j F (q27 F k) (qdj low 32 2 w 16) w 16=_
    unfold q7j
    simp
   |succ m ih=>
    intro i k h1 h2 h3
    obtain⟨k,rfl⟩:∃k',k=k' +1:=⟨k-1,by omega⟩
    rw[z8t hl (by omega) (fun j hj=>hw j (by omega)) hi64,iP (show 0≤w.getD i 0∧w.getD i 0<2^2 from hw i (by omega))]
    exact ih (i+1) k (by omega) (by omega) (by omega)
  exact key 16 0 F (by omega) (by omega) hF
 ·rintro⟨n,hn,hw,hbad⟩
  have key:∀(m i k:Nat),n-i=m→i≤n→m<k→q27 F k (qdj low 32 2 w i) w i=some (.inl ()):=by
   intro m
   induction m with
   |zero=>
    intro i k h1 h2 h3
    obtain⟨k,rfl⟩:∃k',k=k' +1:=⟨k-1,by omega⟩
    have:i=n:=by omega
    subst this
    rw[z8t hl (by omega) (fun j hj=>hw j (by omega)) hi64,iN (show¬(0≤w.getD i 0∧w.getD i 0<2^2)from hbad)]
   |succ m ih=>
    intro i k h1 h2 h3
    obtain⟨k,rfl⟩:∃k',k=k' +1:=⟨k-1,by omega⟩
    rw[z8t hl (by omega) (fun j hj=>hw j (by omega)) hi64,iP (show 0≤w.getD i 0∧w.getD i 0<2^2 from hw i (by omega))]
    exact ih (i+1) k (by omega) (by omega) (by omega)
  exact key n 0 F (by omega) (by omega) (by omega)
theorem lowHex{a b:Int}(ha:0≤a∧a≤65535)(hb:0≤b∧b≤65535):ior .u64 (y0 .u64 a) (ishl .u64 (y0 .u64 b) 16)=a+b*2^16∧0≤a+b*2^16∧a+b*2^16<2^32:=by
 have e:=z5m (x:=a) (v:=b) (m:=16) (k:=16) (by omega) (by omega) (by decide) (by decide)
 rw[wu64 ha.1 (by omega),wu64 hb.1 (by omega)]
 exact⟨by simpa using e,by omega,by omega⟩
theorem zzh{F:Nat}(hF:66≤F){a b:Int}{w:LI}(ha:0≤a∧a≤65535)(hb:0≤b∧b≤65535)(hi64:∀j,-9223372036854775808≤w.getD j 0∧w.getD j 0≤9223372036854775807)(hw:∀j,j<16→okW 2 w j):
  qb5 F a b w=some (qdk (a+b*2^16) 32 2 w,0,()):=by
 obtain⟨t1,t2,t3⟩:=lowHex ha hb
 have j:=(j14 (F:=F) (low:=a+b*2^16) (w:=w) ⟨t2,t3⟩ hi64 (by omega)).1 hw
 have hbd:=qeq (low:=a+b*2^16) (from_:=32) (each:=2) ⟨t2,t3⟩ (m:=16) hw 16 (wa _)
 have es:=zji hF (b:=zjp) qm2 (by decide) (a:=0) (n:=64) (v:=qdj (a+b*2^16) 32 2 w 16) (by decide) (by decide) ⟨hbd.1,by omega⟩
 simp only[yq,yp]at es
 have c1:¬a<0:=by omega
 have c2:¬65535<a:=by omega
 have c3:¬b<0:=by omega
 have c4:¬65535<b:=by omega
 have ez:z3t=zjp:=rfl
 unfold qb5
 simp only[c1,c2,c3,c4,dF,cF,and_self,if_true,t1,j,y5,ez,es,qdk]
end Go.AE.Gn
namespace Go.AE.Gn
open Go
theorem zux{m:Nat}(f:Nat→LI):∀(N:Nat),(∀i,i<N→(f i).length=m)→((yy N).flatMap f).length=N*m∧∀i,i<N→(((yy N).flatMap f).drop (i*m)).take m=f i
 |0,_=>⟨by simp,fun i h=>absurd h (by omega)⟩
 |N+1,hf=>by
  obtain⟨h1,h2⟩:=zux f N fun i hi=>hf i (by omega)
  have h3:=hf N (by omega)
  rw[List.range_succ,List.flatMap_append]
  constructor
  ·rw[yo,h1,Nat.add_mul];simp[h3]
  ·intro i hi
   rcases Nat.lt_or_ge i N with h|h
   ·have him:(i+1)*m≤N*m:=Nat.mul_le_mul_right m (by omega)
    rw[Nat.add_mul,Nat.one_mul]at him
    rw[List.drop_append_of_le_length (by omega),List.take_append_of_le_length (by rw[List.length_drop];omega)]
    exact h2 i h
   ·have:i=N:=by omega
    subst this
    rw[List.drop_append,h1,Nat.sub_self,List.drop_of_length_le (by omega)]
    simp[←h3]
theorem z5s(l:LI){a c m:Nat}(hc:c<m):l.getD (a+c) 0=((l.drop a).take m).getD c 0:=by
 simp[ye,List.getElem?_take,List.getElem?_drop,hc]
def palE(p:LI)(n:Nat):LI:=(p.drop (n*4)).take 4
theorem j45{p w:LI}(hp:p.length=16)(hw:∀i,i<16→okW 2 w i){i:Nat}(hi:i<16):((zju p w).drop (i*4)).take 4=palE p (w.getD i 0).toNat:=
 (zux (fun i=>(p.drop ((w.getD i 0).toNat*4)).take 4) 16 (fun i hi=>zrk hp (by have:=hw i hi;unfold okW at this;omega))).2 i hi
theorem zjw{a b k o:Int}(hk:0≤k∧k≤o)(ho:1≤o):min a b≤mixV a b k o 0∧mixV a b k o 0≤max a b:=by
 unfold mixV
 rw[Int.add_zero]
 have e1:∀m:Int,m*(o-k)+m*k=m*o:=fun m=>by rw[←Int.mul_add];congr 1;omega
 constructor
 ·rw[Int.le_ediv_iff_mul_le (by omega),←e1]
  exact Int.add_le_add (Int.mul_le_mul_of_nonneg_right (by omega) (by omega)) (Int.mul_le_mul_of_nonneg_right (by omega) (by omega))
 ·have h:a*(o-k)+b*k≤max a b*o:=by
   rw[←e1]
   exact Int.add_le_add (Int.mul_le_mul_of_nonneg_right (by omega) (by omega)) (Int.mul_le_mul_of_nonneg_right (by omega) (by omega))
  have:=Int.ediv_le_ediv (show(0:Int)<o by omega) h
  rwa [Int.mul_ediv_cancel _ (by omega)]at this
theorem near5:((yy 32).all fun v=>q6m 5 (qkr 5 v) 32==v)=true:=by kernel_rfl
theorem near6:((yy 64).all fun v=>q6m 6 (qkr 6 v) 64==v)=true:=by kernel_rfl
structure BM where
 P:Nat
 W:Nat
 T:Nat
 H:Nat
 C:Nat
 A:Nat
 e:Nat
 o:Nat
 f:Nat
 s:Nat
 base:Nat
def bmOf(k:Nat):BM:=
 let g:=fun i=>(bctable_ModesT298.getD (k*10+i) 0).toNat
 ⟨g 0,g 1,g 2,g 3,g 4,g 5,g 6,g 7,g 8,g 9,k+1⟩
structure BM.Ok (m:BM):Prop where
 P1:1≤m.P
 P3:m.P≤3
 W6:m.W≤6
 T2:m.T≤2
 H1:m.H≤1
 C1:1≤m.C
 C7:m.C≤7
 A8:m.A≤8
 e1:m.e≤1
 o1:m.o≤1
 eo:m.e+m.o≤1
 Ce:m.C+m.e+m.o≤8
 Ae:m.A+m.e+m.o≤8
 f2:2≤m.f
 f4:m.f≤4
 s3:m.s≤3
 s0:m.s=0∨2≤m.s
 Hs:m.s=0→m.H=0
 b8:m.base≤8
 all:m.base+m.W+m.T+m.H+6*m.P*m.C+2*m.P*m.A+2*m.P*m.e+m.P*m.o+(16*m.f-m.P)+(if m.s=0 then 0 else 16*m.s-1)≤128
def BM.okB(m:BM):Bool:=decide (1≤m.P)&&(decide (m.P≤3)&&(decide (m.W≤6)&&(decide (m.T≤2)&&(decide (m.H≤1)&&(decide (1≤m.C)&&(decide (m.C≤7)&&(decide (m.A≤8)&&(decide (m.e≤1)&&(decide (m.o≤1)&&(decide (m.e+m.o≤1)&&(decide (m.C+m.e+m.o≤8)&&(decide (m.A+m.e+m.o≤8)&&(decide (2≤m.f)&&(decide (m.f≤4)&&(decide (m.s≤3)&&(decide (m.s=0∨2≤m.s)&&(decide (m.s=0→m.H=0)&&(decide (m.base≤8)&&decide (m.base+m.W+m.T+m.H+6*m.P*m.C+2*m.P*m.A+2*m.P*m.e+m.P*m.o+(16*m.f-m.P)+(if m.s=0 then 0 else 16*m.s-1)≤128)))))))))))))))))))
theorem BM.okB_ok{m:BM}(h:m.okB=true):m.Ok:=by
 simp only[BM.okB,yl,decide_eq_true_eq]at h
 obtain⟨h1,h2,h3,h4,h5,h6,h7,h8,h9,h10,h11,h12,h13,h14,h15,h16,h17,h18,h19,h20⟩:=h
 exact⟨h1,h2,h3,h4,h5,h6,h7,h8,h9,h10,h11,h12,h13,h14,h15,h16,h17,h18,h19,h20⟩
theorem j46:((yy 8).all fun k=>(bmOf k).okB)=true:=by decide+kernel
theorem bm_ok{k:Nat}(h:k<8):(bmOf k).Ok:=BM.okB_ok (List.all_eq_true.1 j46 k (by simpa using h))
def qks(m:BM):LI:=[m.P,m.W,m.T,m.H,m.C,m.A,m.e,m.o,m.f,m.s]
theorem j15:((yy 8).all fun k=>y8 10 (y9 (k*10) bctable_ModesT298)==qks (bmOf k))=true:=by decide+kernel
theorem row_is{k:Nat}(h:k<8):y8 10 (y9 (k*10) bctable_ModesT298)=qks (bmOf k):=by
 simpa using List.all_eq_true.1 j15 k (by simpa using h)
def numOf(x:Option (Int×Unit)):Int:=match x with
 |some (n,_)=>n
 |none=>0
def q4v(P:Nat)(w i:Nat):Nat:=(numOf (qnh 600 P w i)).toNat
def zmw(P:Nat)(w p:Nat):Nat:=(numOf (qfy 600 P w p)).toNat
theorem zuy:((yy 3).all fun p=>(yy 64).all fun w=>(yy 16).all fun i=>
  (ql0 600 ((p+1:Nat):Int) w i==some ((q4v (p+1) w i:Int),()))&&((qnh 600 ((p+1:Nat):Int) w i==some ((q4v (p+1) w i:Int),()))&&decide (q4v (p+1) w i<p+1)))=true:=by kernel_rfl
theorem part9{P w i:Nat}(h1:1≤P)(h3:P≤3)(hw:w<64)(hi:i<16):
  ql0 600 P w i=some ((q4v P w i:Int),())∧qnh 600 P w i=some ((q4v P w i:Int),())∧q4v P w i<P:=by
 obtain⟨p,rfl⟩:∃p,P=p+1:=⟨P-1,by omega⟩
 have:=List.all_eq_true.1 (List.all_eq_true.1 (List.all_eq_true.1 zuy p (by simp;omega)) w (by simpa using hw)) i (by simpa using hi)
 simpa using this
theorem zuz:((yy 4).all fun P=>(yy P).all fun p=>decide (p=0)||(yy 64).all fun w=>
  (qf1 600 (P:Int) w p==some ((zmw P w p:Int),()))&&(qfy 600 (P:Int) w p==some ((zmw P w p:Int),())))=true:=by kernel_rfl
theorem anch9{P w p:Nat}(h3:P≤3)(hw:w<64)(hp:1≤p)(hp2:p<P):
  qf1 600 P w p=some ((zmw P w p:Int),())∧qfy 600 P w p=some ((zmw P w p:Int),()):=by
 have:=List.all_eq_true.1 (List.all_eq_true.1 zuz P (by simp;omega)) p (by simpa using hp2)
 rcases Bool.or_eq_true_iff.1 this with h|h
 ·simp at h
  omega
 ·simpa using List.all_eq_true.1 h w (by simpa using hw)
def ancB(P w i:Nat):Bool:=(i==0)||((yy P).any fun p=>decide (1≤p)&&(zmw P w p==i))
def qin(P w i:Nat):Nat:=if ancB P w i then 1 else 0
def posF(P w f:Nat)(p2:Nat):Nat→Nat
 |0=>p2
 |i+1=>posF P w f p2 i+(f-qin P w i)
theorem zzi(P w i:Nat):qin P w i≤1:=by unfold qin;split<;>omega
theorem zv0(P w f p2:Nat):∀{i j:Nat},i≤j→posF P w f p2 i≤posF P w f p2 j:=by
 intro i j h
 induction h with
 |refl=>exact wa _
 |step h ih=>exact Nat.le_trans ih (by simp only[posF];omega)
theorem zzj(P w f p2:Nat):∀i,posF P w f p2 i=p2+posF P w f 0 i
 |0=>by simp[posF]
 |i+1=>by simp only[posF];rw[zzj P w f p2 i];omega
theorem zxc:((yy 3).all fun P=>(yy 64).all fun w=>(yy 3).all fun f=>posF (P+1) w (f+2) 0 16==16*(f+2)-(P+1))=true:=by kernel_rfl
theorem posF_16{P w f:Nat}(h1:1≤P)(h3:P≤3)(hw:w<64)(h2:2≤f)(h4:f≤4)(p2:Nat):posF P w f p2 16=p2+(16*f-P):=by
 rw[zzj]
 obtain⟨p,rfl⟩:∃p,P=p+1:=⟨P-1,by omega⟩
 obtain⟨g,rfl⟩:∃g,f=g+2:=⟨f-2,by omega⟩
 have:=List.all_eq_true.1 (List.all_eq_true.1 (List.all_eq_true.1 zxc p (by simp;omega)) w (by simpa using hw)) g (by simp;omega)
 simp only[beq_iff_eq]at this
 rw[this]
theorem rd9{b:LI}(hb:Bytes b)(hl:b.length=16){a n:Nat}(hn:n≤16)(h:a+n≤128):q17 600 n b a=some (lv b a n,((a+n:Nat):Int),()):=by
 unfold q17
 have h1:=q3y b a n
 have h2:(2:Int)^n≤2^16:=qax hn
 rw[Low_lv (by omega) hb (by omega) (by omega) (by omega)]
 simp only[y5]
 rw[w64 (by omega) (by omega),w64 (by omega) (by omega),Int.natCast_add]
theorem j47{b:LI}(hb:Bytes b)(hl:b.length=16){a n:Nat}(hn:n≤16)(h:a+n≤128):q2e 600 b a n=some (lv b a n,()):=by
 unfold q2e
 have h1:=q3y b a n
 have h2:(2:Int)^n≤2^16:=qax hn
 rw[Get_is (by omega) hb (by omega)]
 simp only[y5,yn,if_false]
 rw[zr8 (by omega) (by omega),w64 (by omega) (by omega)]
theorem za7{b:LI}(hb:Bytes b)(hl:b.length=16){a n:Nat}(hn:n≤16)(h:a+n≤128):q0p 600 b a n=some (lv b a n,b,((a+n:Nat):Int),()):=by
 unfold q0p
 rw[j47 hb hl hn h]
 simp only[y5]
 rw[w64 (by omega) (by omega),Int.natCast_add]
def colG(b:LI)(a n c i:Nat)(g:Nat→Int)(j:Nat):Int:=if j%4=c∧j/4<i then lv b (a+j/4*n) n else g j
theorem zv1{E:Nat}(b:LI)(a n c i:Nat)(g:Nat→Int)(hc:c<4):(tab (E*4) (colG b a n c i g)).set (i*4+c) (lv b (a+i*n) n)=tab (E*4) (colG b a n c (i+1) g):=by
 rw[q4u]
 refine q03 fun j hj=> ?_
 unfold colG
 by_cases h:j=i*4+c
 ·have h1:j%4=c:=by omega
  have h2:j/4=i:=by omega
  simp only[h,if_true]
  rw[h]at h1 h2
  simp only[h1,h2,true_and]
  rw[iP (by omega)]
 ·simp only[h,if_false]
  by_cases h1:j%4=c∧j/4<i
  ·rw[iP h1,iP ⟨h1.1,by omega⟩]
  ·rw[iN h1,iN (by omega)]
theorem zxd{b:LI}(hb:Bytes b)(hl:b.length=16)(x0:LI)(x1:LI)(x3:Int)(x4:Int)(x5:Int)(x6:Int)(x9:Int)(x10:Int)(x11:Int)(x12:Int)(x13:Int)(x14:Int)(x15:Int)(x16:LI)(x17:LI){C A E n c a:Nat}(g:Nat→Int)(hn:n≤16)(hc:c<4)(hE:E≤100)(ha:a+E*n≤128)(hd:n=if c=3 then A else C):
  ∀(d i k:Nat),i+d=E→d<k→q4h 600 k x0 x1 (tab (E*4) (colG b a n c i g)) x3 x4 x5 x6 ((C:Int)) ((A:Int)) x9 x10 x11 x12 x13 x14 x15 x16 x17 b (((a+i*n:Nat):Int)) ((c:Int)) ((c:Int)) ((E:Int)) ((i:Int))=some (x0,x1,tab (E*4) (colG b a n c E g),x3,x4,x5,x6,(C:Int),(A:Int),x9,x10,x11,x12,x13,x14,x15,x16,x17,b,((a+E*n:Nat):Int),(c:Int),()):=by
 intro d
 induction d with
 |zero=>
  intro i k h1 h2
  obtain⟨k,rfl⟩:∃k',k=k' +1:=⟨k-1,by omega⟩
  obtain rfl:i=E:=by omega
  unfold q4h qa7
  simp only[yt,dF,cF]
 |succ d ih=>
  intro i k h1 h2
  obtain⟨k,rfl⟩:∃k',k=k' +1:=⟨k-1,by omega⟩
  have hi:i<E:=by omega
  have hm:=mulS (n:=n) hi
  have e1:(i+1)*n=i*n+n:=Nat.succ_mul i n
  unfold q4h qa7
  have i1:(i:Int)<(E:Int):=by omega
  have i2:(E*4)/4=E:=by omega
  have i3:(0:Int)≤(c:Int):=by omega
  have i4:(c:Int)<4:=by omega
  have ed:q6y 600 (x3,x4,x5,x6,(C:Int),(A:Int),x9,x10,x11,x12,()) (c:Int)=some ((n:Int),()):=by
   unfold q6y
   by_cases h3:c=3
   ·subst h3
    simp only[if_true]at hd
    simp[hd]
   ·have:((c:Int)==3)=false:=by
     rw[beq_eq_false_iff_ne]
     omega
    simp only[h3,if_false]at hd
    simp[this,hd]
  simp only[q0g,i2,i1,i3,i4,dT,cT,yc,yd,yb,ed,y5]
  rw[rd9 hb hl hn (by omega)]
  simp only[y5]
  rw[zv1 b a n c i g hc,q0j (by omega),we,←e1]
  exact ih (i+1) k (by omega) (by omega)
def e0(b:LI)(m:BM)(p0:Nat)(j:Nat):Int:=if j%4=3 then lv b (p0+6*m.P*m.C+j/4*m.A) m.A else lv b (p0+j%4*(2*m.P*m.C)+j/4*m.C) m.C
theorem zv2{b:LI}(m:BM)(p0:Nat)(j:Nat)(hj:j<2*m.P*4):
  colG b (p0+2*m.P*m.C+2*m.P*m.C+2*m.P*m.C) m.A 3 (2*m.P) (colG b (p0+2*m.P*m.C+2*m.P*m.C) m.C 2 (2*m.P) (colG b (p0+2*m.P*m.C) m.C 1 (2*m.P) (colG b p0 m.C 0 (2*m.P) fun _=>0))) j=e0 b m p0 j:=by
 unfold colG e0
 have h:j/4<2*m.P:=by omega
 have e6:6*m.P*m.C=2*m.P*m.C+2*m.P*m.C+2*m.P*m.C:=by
  rw[←Nat.add_mul,←Nat.add_mul]
  congr 1
  omega
 have hc:j%4=0∨j%4=1∨j%4=2∨j%4=3:=by omega
 rcases hc with h4|h4|h4|h4<;>simp only[h4,h,and_self,if_true,reduceCtorEq,if_false,false_and,Nat.reduceEqDiff,Nat.zero_mul,Nat.one_mul,Nat.add_zero]
 ·congr 2
  omega
 ·congr 2
  omega
theorem zv3(b:LI)(a n c:Nat)(g:Nat→Int):colG b a n c 0 g=g:=by
 funext j
 simp[colG]
theorem qm4{b:LI}(hb:Bytes b)(hl:b.length=16)(x0:LI)(x1:LI)(x3:Int)(x4:Int)(x5:Int)(x6:Int)(x9:Int)(x10:Int)(x11:Int)(x12:Int)(x13:Int)(x14:Int)(x15:Int)(x16:LI)(x17:LI){C A E n c a:Nat}(g:Nat→Int)(hn:n≤16)(hc:c<4)(hE:E≤100)(ha:a+E*n≤128)(hd:n=if c=3 then A else C)(k:Nat):
  q2g 600 (k+1) x0 x1 (tab (E*4) g) x3 x4 x5 x6 ((C:Int)) ((A:Int)) x9 x10 x11 x12 x13 x14 x15 x16 x17 b ((a:Int)) ((c:Int))=q2g 600 k x0 x1 (tab (E*4) (colG b a n c E g)) x3 x4 x5 x6 ((C:Int)) ((A:Int)) x9 x10 x11 x12 x13 x14 x15 x16 x17 b (((a+E*n:Nat):Int)) (((c+1:Nat):Int)):=by
 have i4:(c:Int)<4:=by omega
 have i2:(E*4)/4=E:=by omega
 have h:=zxd hb hl x0 x1 x3 x4 x5 x6 x9 x10 x11 x12 x13 x14 x15 x16 x17 (C:=C) (A:=A) (c:=c) (a:=a) g hn hc hE ha hd E 0 600 (by omega) (by omega)
 simp only[zv3,Nat.zero_mul,Nat.add_zero,yq]at h
 conv=>lhs;unfold q2g qa8
 simp only[q0g,i2,i4,dT,cT,h,y5]
 rw[q0j (by omega)]
theorem zxe{b:LI}(hb:Bytes b)(hl:b.length=16)(x0:LI)(x1:LI)(x3:Int)(x4:Int)(x5:Int)(x6:Int)(x9:Int)(x10:Int)(x11:Int)(x12:Int)(x13:Int)(x14:Int)(x15:Int)(x16:LI)(x17:LI){m:BM}(ok:m.Ok){p0:Nat}(hp:p0+6*m.P*m.C+2*m.P*m.A≤128)(k:Nat):
  q2g 600 (k+5) x0 x1 (tab (2*m.P*4) fun _=>0) x3 x4 x5 x6 ((m.C:Int)) ((m.A:Int)) x9 x10 x11 x12 x13 x14 x15 x16 x17 b ((p0:Int)) ((0:Int))=some (x0,x1,tab (2*m.P*4) (e0 b m p0),x3,x4,x5,x6,(m.C:Int),(m.A:Int),x9,x10,x11,x12,x13,x14,x15,x16,x17,b,((p0+6*m.P*m.C+2*m.P*m.A:Nat):Int),()):=by
 have e6:6*m.P*m.C=2*m.P*m.C+2*m.P*m.C+2*m.P*m.C:=by
  rw[←Nat.add_mul,←Nat.add_mul]
  congr 1
  omega
 have hC:=ok.C7
 have hA:=ok.A8
 have hP:=ok.P3
 have s0:=qm4 hb hl x0 x1 x3 x4 x5 x6 x9 x10 x11 x12 x13 x14 x15 x16 x17 (C:=m.C) (A:=m.A) (E:=2*m.P) (n:=m.C) (c:=0) (a:=p0) (fun _=>0) (by omega) (by omega) (by omega) (by omega) (by simp) (k+4)
 have s1:=qm4 hb hl x0 x1 x3 x4 x5 x6 x9 x10 x11 x12 x13 x14 x15 x16 x17 (C:=m.C) (A:=m.A) (E:=2*m.P) (n:=m.C) (c:=1) (a:=p0+2*m.P*m.C) (colG b p0 m.C 0 (2*m.P) fun _=>0) (by omega) (by omega) (by omega) (by omega) (by simp) (k+3)
 have s2:=qm4 hb hl x0 x1 x3 x4 x5 x6 x9 x10 x11 x12 x13 x14 x15 x16 x17 (C:=m.C) (A:=m.A) (E:=2*m.P) (n:=m.C) (c:=2) (a:=p0+2*m.P*m.C+2*m.P*m.C) (colG b (p0+2*m.P*m.C) m.C 1 (2*m.P) (colG b p0 m.C 0 (2*m.P) fun _=>0)) (by omega) (by omega) (by omega) (by omega) (by simp) (k+2)
 have s3:=qm4 hb hl x0 x1 x3 x4 x5 x6 x9 x10 x11 x12 x13 x14 x15 x16 x17 (C:=m.C) (A:=m.A) (E:=2*m.P) (n:=m.A) (c:=3) (a:=p0+2*m.P*m.C+2*m.P*m.C+2*m.P*m.C) (colG b (p0+2*m.P*m.C+2*m.P*m.C) m.C 2 (2*m.P) (colG b (p0+2*m.P*m.C) m.C 1 (2*m.P) (colG b p0 m.C 0 (2*m.P) fun _=>0))) (by omega) (by omega) (by omega) (by omega) (by simp) (k+1)
 refine s0.trans (s1.trans (s2.trans (s3.trans ?_)))
 unfold q2g qa8
 have i4:¬(((3+1:Nat):Int)<4):=by omega
 simp only[i4,dF,cF]
 rw[q03 fun j hj=>zv2 m p0 j hj,show p0+6*m.P*m.C+2*m.P*m.A=p0+2*m.P*m.C+2*m.P*m.C+2*m.P*m.C+2*m.P*m.A by omega]
theorem zv4(x1:Int)(x2:Int)(x3:Int)(x4:Int)(x7:Int)(x8:Int)(x9:Int)(x10:Int)(x11:Int)(x12:Int)(x13:Int)(x14:LI)(x15:LI)(x16:LI)(x17:Int)(x21:Int)(x22:Int){C A E i:Nat}{ex:Nat}(bit:Int)(g q W:Nat→Int)(hi:i<E)(hE:E≤100)(hCA:C≤100∧A≤100∧ex≤100)
  (hW:∀c,c<4→q0l 600 (ior .i64 (ishl .i64 (q c) (ex:Int)) bit) (((if c=3 then A else C)+ex:Nat):Int)=some (W c,())):
  ∀(d c k:Nat),c+d=4→d<k→q06 600 k (tab (E*4) fun j=>if j/4=i∧j%4<c then W (j%4)else g j) x1 x2 x3 x4 ((C:Int)) ((A:Int)) x7 x8 x9 x10 x11 x12 x13 x14 x15 x16 x17 ((ex:Int)) bit ((i:Int)) x21 x22 (tab 4 q) ((c:Int))=some (tab (E*4) fun j=>if j/4=i then W (j%4)else g j,x1,x2,x3,x4,(C:Int),(A:Int),x7,x8,x9,x10,x11,x12,x13,x14,x15,x16,x17,(ex:Int),bit,(i:Int),x21,x22,()):=by
 intro d
 induction d with
 |zero=>
  intro c k h1 h2
  obtain⟨k,rfl⟩:∃k',k=k' +1:=⟨k-1,by omega⟩
  obtain rfl:c=4:=by omega
  unfold q06 q1h
  have i4:¬(((4:Nat):Int)<4):=by omega
  simp only[i4,dF,cF]
  rw[q03 fun j hj=>show(if j/4=i∧j%4<4 then W (j%4)else g j)=if j/4=i then W (j%4)else g j by
   have:j%4<4:=Nat.mod_lt _ (by decide)
   simp only[this,and_true]]
 |succ d ih=>
  intro c k h1 h2
  obtain⟨k,rfl⟩:∃k',k=k' +1:=⟨k-1,by omega⟩
  have hc:c<4:=by omega
  unfold q06 q1h
  have i1:(c:Int)<4:=by omega
  have i2:(E*4)/4=E:=by omega
  have i3:(i:Int)<(E:Int):=by omega
  have ed:q6y 600 (x1,x2,x3,x4,(C:Int),(A:Int),x7,x8,x9,x10,()) (c:Int)=some (((if c=3 then A else C:Nat):Int),()):=by
   unfold q6y
   by_cases h3:c=3
   ·subst h3
    simp
   ·have:((c:Int)==3)=false:=by
     rw[beq_eq_false_iff_ne]
     omega
    simp[this,h3]
  have ew:y0 .i64 (((if c=3 then A else C:Nat):Int)+(ex:Int))=(((if c=3 then A else C)+ex:Nat):Int):=by
   have:(if c=3 then A else C)≤100:=by split<;>omega
   rw[w64 (by omega) (by omega),Int.natCast_add]
  simp only[q0g,i2,i1,i3,dT,cT,yc,yd,yb,ed,y5,q0d hc,ew,hW c hc]
  rw[q0j (by omega),q4u]
  rw[q03 fun j hj=>show(if j=i*4+c then W c else if j/4=i∧j%4<c then W (j%4)else g j)=if j/4=i∧j%4<c+1 then W (j%4)else g j by
   by_cases h:j=i*4+c
   ·have h1:j/4=i:=by omega
    have h2:j%4=c:=by omega
    rw[iP h,iP (by omega),h2]
   ·rw[iN h]
    by_cases h5:j/4=i∧j%4<c
    ·rw[iP h5,iP (by omega)]
    ·rw[iN h5,iN (by omega)]]
  exact ih (c+1) k (by omega) (by omega)
def bitV(b:LI)(m:BM)(p1 i:Nat):Int:=if m.e=1 then lv b (p1+i) 1 else if m.o=1 then lv b (p1+i/2) 1 else 0
def posB(m:BM)(p1 i:Nat):Nat:=p1+(if m.e=1 then i else if m.o=1 then(i+1)/2 else 0)
def bitS(b:LI)(m:BM)(p1 i:Nat):Int:=if i=0 then 0 else bitV b m p1 (i-1)
def eF(b:LI)(m:BM)(p0 p1 j:Nat):Int:=
 if j%4=3 then(if m.A=0 then 255 else q3z (m.A+(m.e+m.o)) (2^(m.e+m.o)*e0 b m p0 j+bitV b m p1 (j/4)))
 else q3z (m.C+(m.e+m.o)) (2^(m.e+m.o)*e0 b m p0 j+bitV b m p1 (j/4))
def wG(b:LI)(m:BM)(p0 p1 i j:Nat):Int:=if j/4<i then eF b m p0 p1 j else e0 b m p0 j
theorem z8u(b:LI)(m:BM)(p1 i:Nat):0≤bitV b m p1 i∧bitV b m p1 i≤1:=by
 unfold bitV
 have h1:=q3y b (p1+i) 1
 have h2:=q3y b (p1+i/2) 1
 split
 ·omega
 ·split<;>omega
theorem ze0(b:LI){m:BM}(ok:m.Ok)(p0 j:Nat):0≤e0 b m p0 j∧e0 b m p0 j<256:=by
 unfold e0
 have hA:(2:Int)^m.A≤2^8:=qax ok.A8
 have hC:(2:Int)^m.C≤2^8:=qax (by have:=ok.C7;omega)
 split
 ·have:=q3y b (p0+6*m.P*m.C+j/4*m.A) m.A
  omega
 ·have:=q3y b (p0+j%4*(2*m.P*m.C)+j/4*m.C) m.C
  omega
theorem zv5:((yy 256).all fun n=>(yy 2).all fun v=>(ior .i64 (ishl .i64 (n:Int) 1) v==2*(n:Int)+v)&&(ior .i64 (ishl .i64 (n:Int) 0) 0==(n:Int)))=true:=by kernel_rfl
theorem orbit{n v:Int}{x:Nat}(hn:0≤n∧n<256)(hv:0≤v∧v≤1)(hx:x≤1)(h0:x=0→v=0):ior .i64 (ishl .i64 n (x:Int)) v=2^x*n+v:=by
 obtain⟨n,rfl⟩:=yh hn.1
 obtain⟨v,rfl⟩:=yh hv.1
 have:=List.all_eq_true.1 (List.all_eq_true.1 zv5 n (by simp;omega)) v (by simp;omega)
 simp only[yl,beq_iff_eq]at this
 rcases(by omega:x=0∨x=1)with rfl|rfl
 ·rw[h0 rfl]
  rw[show((0:Nat):Int)=0 from rfl,this.2]
  omega
 ·rw[show((1:Nat):Int)=1 from rfl,this.1]
  omega
theorem wide00:∃z,q0l 600 0 0=some (z,()):=by
 have:(q0l 600 0 0).isSome=true:=by kernel_rfl
 obtain⟨⟨z,⟨⟩⟩,h⟩:=Option.isSome_iff_exists.1 this
 exact⟨z,h⟩
theorem wide_end(b:LI){m:BM}(ok:m.Ok)(p0 p1 i:Nat):∃W:Nat→Int,
  (∀c,c<4→q0l 600 (ior .i64 (ishl .i64 (e0 b m p0 (i*4+c)) ((m.e+m.o:Nat):Int)) (bitV b m p1 i)) (((if c=3 then m.A else m.C)+(m.e+m.o):Nat):Int)=some (W c,()))∧
  ∀c,c<4→¬(c=3∧m.A=0)→W c=eF b m p0 p1 (i*4+c):=by
 have hv:=z8u b m p1 i
 have h0:m.e+m.o=0→bitV b m p1 i=0:=fun h=>by
  unfold bitV
  rw[iN (by omega),iN (by omega)]
 have hor:∀c,ior .i64 (ishl .i64 (e0 b m p0 (i*4+c)) ((m.e+m.o:Nat):Int)) (bitV b m p1 i)=2^(m.e+m.o)*e0 b m p0 (i*4+c)+bitV b m p1 i:=
  fun c=>orbit (ze0 b ok _ _) hv ok.eo h0
 have ok1:=ok.Ce
 have ok2:=ok.Ae
 have ok3:=ok.C1
 by_cases hz:m.A+(m.e+m.o)=0
 ·obtain⟨z,hz1⟩:=wide00
  have hA:m.A=0:=by omega
  refine⟨fun c=>if c=3 then z else eF b m p0 p1 (i*4+c),fun c hc=> ?_,fun c hc h=> ?_⟩
  ·rw[hor]
   by_cases h3:c=3
   ·subst h3
    have e1:e0 b m p0 (i*4+3)=0:=by
     have:=q3y b (p0+6*m.P*m.C+(i*4+3)/4*m.A) m.A
     unfold e0
     rw[iP (by omega)]
     rw[hA]at this⊢
     simp only[Int.pow_zero]at this
     omega
    rw[e1,h0 (by omega)]
    simp only[if_true]
    rw[hz]
    simpa using hz1
   ·rw[iN h3,qrb (by omega) (by omega)]
    unfold eF
    simp only[(mul4 i c hc).1,(mul4 i c hc).2,h3,if_false]
  ·have h3:¬c=3:=fun e=>h ⟨e,hA⟩
   simp only[h3,if_false]
 ·refine⟨fun c=>if c=3 then q3z (m.A+(m.e+m.o)) (2^(m.e+m.o)*e0 b m p0 (i*4+c)+bitV b m p1 i)else eF b m p0 p1 (i*4+c),fun c hc=> ?_,fun c hc h=> ?_⟩
  ·rw[hor]
   by_cases h3:c=3
   ·subst h3
    simp only[if_true]
    rw[qrb (by omega) (by omega)]
   ·simp only[h3,if_false]
    rw[qrb (by omega) (by omega)]
    unfold eF
    simp only[(mul4 i c hc).1,(mul4 i c hc).2,h3,if_false]
  ·by_cases h3:c=3
   ·subst h3
    unfold eF
    have hA:¬m.A=0:=fun e=>h ⟨rfl,e⟩
    simp only[(mul4 i 3 hc).1,(mul4 i 3 hc).2,if_true,hA,if_false]
   ·simp only[h3,if_false]
theorem zzk{b:LI}{m:BM}{p0 p1 i:Nat}{W:Nat→Int}(hW:∀c,c<4→¬(c=3∧m.A=0)→W c=eF b m p0 p1 (i*4+c)){E:Nat}(hA:¬m.A=0):
  (tab (E*4) fun j=>if j/4=i then W (j%4)else wG b m p0 p1 i j)=tab (E*4) (wG b m p0 p1 (i+1)):=by
 refine q03 fun j hj=> ?_
 unfold wG
 have h4:j%4<4:=Nat.mod_lt _ (by decide)
 by_cases h:j/4=i
 ·rw[iP h,iP (by omega),hW _ h4 (by omega)]
  congr 1
  omega
 ·rw[iN h]
  by_cases h5:j/4<i
  ·rw[iP h5,iP (by omega)]
  ·rw[iN h5,iN (by omega)]
theorem zrl{b:LI}{m:BM}{p0 p1 i:Nat}{W:Nat→Int}(hW:∀c,c<4→¬(c=3∧m.A=0)→W c=eF b m p0 p1 (i*4+c)){E:Nat}(hA:m.A=0):
  (tab (E*4) fun j=>if j=3+i*4 then 255 else if j/4=i then W (j%4)else wG b m p0 p1 i j)=tab (E*4) (wG b m p0 p1 (i+1)):=by
 refine q03 fun j hj=> ?_
 unfold wG
 have h4:j%4<4:=Nat.mod_lt _ (by decide)
 by_cases h3:j=3+i*4
 ·rw[iP h3,iP (by omega)]
  unfold eF
  rw[iP (by omega),iP hA]
 ·rw[iN h3]
  by_cases h:j/4=i
  ·rw[iP h,iP (by omega),hW _ h4 (by omega)]
   congr 1
   omega
  ·rw[iN h]
   by_cases h5:j/4<i
   ·rw[iP h5,iP (by omega)]
   ·rw[iN h5,iN (by omega)]
theorem zv6{b:LI}(hb:Bytes b)(hl:b.length=16)(x1:Int)(x2:Int)(x3:Int)(x4:Int)(x9:Int)(x10:Int)(x11:Int)(x12:Int)(x13:Int)(x14:LI)(x15:LI){m:BM}(ok:m.Ok)(p0 p1:Nat)(hp:p1+2*m.P*m.e+m.P*m.o≤128):
  ∀(d i k:Nat),i+d=2*m.P→d<k→q09 600 k (tab (2*m.P*4) (wG b m p0 p1 i)) x1 x2 x3 x4 ((m.C:Int)) ((m.A:Int)) ((m.e:Int)) ((m.o:Int)) x9 x10 x11 x12 x13 x14 x15 b (((posB m p1 i:Nat):Int)) (((m.e+m.o:Nat):Int)) (bitS b m p1 i) (((2*m.P:Nat):Int)) ((i:Int))=some (tab (2*m.P*4) (wG b m p0 p1 (2*m.P)),x1,x2,x3,x4,(m.C:Int),(m.A:Int),(m.e:Int),(m.o:Int),x9,x10,x11,x12,x13,x14,x15,b,((posB m p1 (2*m.P):Nat):Int),()):=by
 intro d
 induction d with
 |zero=>
  intro i k h1 h2
  obtain⟨k,rfl⟩:∃k',k=k' +1:=⟨k-1,by omega⟩
  obtain rfl:i=2*m.P:=by omega
  unfold q09 q1i
  simp only[yt,dF,cF]
 |succ d ih=>
  intro i k h1 h2
  obtain⟨k,rfl⟩:∃k',k=k' +1:=⟨k-1,by omega⟩
  have hP3:=ok.P3
  have he1:=ok.e1
  have ho1:=ok.o1
  have heo:=ok.eo
  have hC7:=ok.C7
  have hA8:=ok.A8
  have hi:i<2*m.P:=by omega
  have i1:(i:Int)<((2*m.P:Nat):Int):=by omega
  have i2:(2*m.P*4)/4=2*m.P:=by omega
  have i3:(i:Int)<((2*m.P:Nat):Int):=by omega
  have i3' :(decide ((0:Int)≤(i:Int))&&decide ((i:Int)<((2*m.P:Nat):Int)))=true:=by simp;omega
  obtain⟨W,hW1,hW2⟩:=wide_end b ok p0 p1 i
  have hrow:y8 4 (y9 (i*4) (tab (2*m.P*4) (wG b m p0 p1 i)))=tab 4 fun c=>e0 b m p0 (i*4+c):=by
   rw[qaq (by omega)]
   refine q03 fun c hc=> ?_
   unfold wG
   rw[iN (by omega)]
  have key:=fun a:Int=>zv4 x1 x2 x3 x4 ((m.e:Int)) ((m.o:Int)) x9 x10 x11 x12 x13 x14 x15 b a (((2*m.P:Nat):Int)) ((i:Int)) (C:=m.C) (A:=m.A) (E:=2*m.P) (i:=i) (ex:=m.e+m.o) (bitV b m p1 i) (wG b m p0 p1 i) (fun c=>e0 b m p0 (i*4+c)) W hi (by omega) (by omega) hW1 4 0 600 (by omega) (by omega)
  simp only[Nat.not_lt_zero,and_false,if_false,yq]at key
  have fin:∀(a bt:Int),a=((posB m p1 (i+1):Nat):Int)→bt=bitS b m p1 (i+1)→q09 600 k (tab (2*m.P*4) (wG b m p0 p1 (i+1))) x1 x2 x3 x4 ((m.C:Int)) ((m.A:Int)) ((m.e:Int)) ((m.o:Int)) x9 x10 x11 x12 x13 x14 x15 b a (((m.e+m.o:Nat):Int)) bt (((2*m.P:Nat):Int)) (((i+1:Nat):Int))=some (tab (2*m.P*4) (wG b m p0 p1 (2*m.P)),x1,x2,x3,x4,(m.C:Int),(m.A:Int),(m.e:Int),(m.o:Int),x9,x10,x11,x12,x13,x14,x15,b,((posB m p1 (2*m.P):Nat):Int),()):=by
   intro a bt e1 e2
   rw[e1,e2]
   exact ih (i+1) k (by omega) (by omega)
  have hs:bitS b m p1 (i+1)=bitV b m p1 i:=by simp[bitS]
  unfold q09 q1i
  by_cases he:m.e=1
  ·have hPe:2*m.P*m.e=2*m.P:=by rw[he,Nat.mul_one]
   have hpb:posB m p1 i+1≤128:=by
    unfold posB
    rw[iP he]
    omega
   have re:q17 600 (1:Int) b ((posB m p1 i:Nat):Int)=some (lv b (posB m p1 i) 1,((posB m p1 i+1:Nat):Int),()):=rd9 (n:=1) hb hl (by omega) hpb
   have e2:lv b (posB m p1 i) 1=bitV b m p1 i:=by
    unfold posB bitV
    rw[iP he,iP he]
   have e3:posB m p1 (i+1)=posB m p1 i+1:=by
    unfold posB
    rw[iP he,iP he]
    omega
   have he' :=beqT (show((m.e:Nat):Int)=1 by omega)
   simp only[q0g,i2,i1,i3,dT,cT,yc,yd,yb,he',re,e2,cF,y5,hrow,key]
   by_cases hA:m.A=0
   ·simp only[beqT (show((m.A:Nat):Int)=0 by omega),i3',cT,q4u]
    rw[q0j (by omega),zrl hW2 hA]
    exact fin _ _ (by rw[e3]) (hs.symm)
   ·simp only[beqF (show((m.A:Nat):Int)≠0 by omega),cF]
    rw[q0j (by omega),zzk hW2 hA]
    exact fin _ _ (by rw[e3]) (hs.symm)
  ·have he' :=beqF (show((m.e:Nat):Int)≠1 by omega)
   by_cases ho:m.o=1
   ·have ho' :=beqT (show((m.o:Nat):Int)=1 by omega)
    have hm:yu (i:Int) 2=((i%2:Nat):Int):=by rw[tmod_nonneg (by omega)];omega
    have hPo:m.P*m.o=m.P:=by rw[ho,Nat.mul_one]
    by_cases hev:i%2=0
    ·have hpb:posB m p1 i+1≤128:=by
      unfold posB
      rw[iN he,iP ho]
      omega
     have re:q17 600 (1:Int) b ((posB m p1 i:Nat):Int)=some (lv b (posB m p1 i) 1,((posB m p1 i+1:Nat):Int),()):=rd9 (n:=1) hb hl (by omega) hpb
     have e2:lv b (posB m p1 i) 1=bitV b m p1 i:=by
      unfold posB bitV
      rw[iN he,iP ho,iN he,iP ho]
      congr 2
      omega
     have e3:posB m p1 (i+1)=posB m p1 i+1:=by
      unfold posB
      rw[iN he,iP ho,iN he,iP ho]
      omega
     have hm' :=beqT (show yu (i:Int) 2=0 by omega)
     simp only[q0g,i2,i1,i3,dT,cT,yc,yd,yb,he',ho',hm',re,e2,cF,y5,hrow,key]
     by_cases hA:m.A=0
     ·simp only[beqT (show((m.A:Nat):Int)=0 by omega),i3',cT,q4u]
      rw[q0j (by omega),zrl hW2 hA]
      exact fin _ _ (by rw[e3]) (hs.symm)
     ·simp only[beqF (show((m.A:Nat):Int)≠0 by omega),cF]
      rw[q0j (by omega),zzk hW2 hA]
      exact fin _ _ (by rw[e3]) (hs.symm)
    ·have e2:bitS b m p1 i=bitV b m p1 i:=by
      unfold bitS bitV
      rw[iN (by omega),iN he,iP ho,iN he,iP ho]
      congr 2
      omega
     have e3:posB m p1 (i+1)=posB m p1 i:=by
      unfold posB
      rw[iN he,iP ho,iN he,iP ho]
      omega
     have hm' :=beqF (show yu (i:Int) 2≠0 by omega)
     simp only[q0g,i2,i1,i3,dT,cT,yc,yd,yb,he',ho',hm',e2,cF,y5,hrow,key]
     by_cases hA:m.A=0
     ·simp only[beqT (show((m.A:Nat):Int)=0 by omega),i3',cT,q4u]
      rw[q0j (by omega),zrl hW2 hA]
      exact fin _ _ (by rw[e3]) (hs.symm)
     ·simp only[beqF (show((m.A:Nat):Int)≠0 by omega),cF]
      rw[q0j (by omega),zzk hW2 hA]
      exact fin _ _ (by rw[e3]) (hs.symm)
   ·have ho' :=beqF (show((m.o:Nat):Int)≠1 by omega)
    have e2:bitS b m p1 i=bitV b m p1 i:=by
     unfold bitS bitV
     rw[iN he,iN ho,iN he,iN ho]
     split<;>rfl
    have e3:posB m p1 (i+1)=posB m p1 i:=by
     unfold posB
     rw[iN he,iN ho,iN he,iN ho]
    simp only[q0g,i2,i1,i3,dT,cT,yc,yd,yb,he',ho',e2,cF,y5,hrow,key]
    by_cases hA:m.A=0
    ·simp only[beqT (show((m.A:Nat):Int)=0 by omega),i3',cT,q4u]
     rw[q0j (by omega),zrl hW2 hA]
     exact fin _ _ (by rw[e3]) (hs.symm)
    ·simp only[beqF (show((m.A:Nat):Int)≠0 by omega),cF]
     rw[q0j (by omega),zzk hW2 hA]
     exact fin _ _ (by rw[e3]) (hs.symm)
def z32(P w i p:Nat):Bool:=(i==0)||((yy p).any fun q=>decide (1≤q)&&(zmw P w q==i))
theorem znu{P w i p:Nat}(hp:1≤p):z32 P w i (p+1)=(z32 P w i p||(zmw P w p==i)):=by
 unfold z32
 rw[List.range_succ,List.any_append]
 simp[hp,Bool.or_assoc]
theorem zv7(P w i:Nat):z32 P w i 1=(i==0):=by
 simp[z32]
theorem beqN(a i:Nat):(((a:Nat):Int)==(i:Int))=(a==i):=by
 by_cases h:a=i
 ·subst h;simp
 ·have:((a:Nat):Int)≠(i:Int):=by omega
  rw[beqF this]
  simp[h]
theorem zv8(x0:LI)(x2:Int)(x3:Int)(x4:Int)(x5:Int)(x6:Int)(x7:Int)(x8:Int)(x9:Int)(x10:Int)(x12:Int)(x13:Int)(x14:LI)(x15:LI){P w i:Nat}(h3:P≤3)(hw:w<64):
  ∀(d p k:Nat),p+d=P→1≤p→d<k→q19 600 k x0 ((P:Int)) x2 x3 x4 x5 x6 x7 x8 x9 x10 ((w:Int)) x12 x13 x14 x15 ((i:Int)) (z32 P w i p) ((p:Int))=some (z32 P w i P,()):=by
 intro d
 induction d with
 |zero=>
  intro p k h1 hp h2
  obtain⟨k,rfl⟩:∃k',k=k' +1:=⟨k-1,by omega⟩
  obtain rfl:p=P:=by omega
  unfold q19 q3k
  simp only[yt,dF,cF]
 |succ d ih=>
  intro p k h1 hp h2
  obtain⟨k,rfl⟩:∃k',k=k' +1:=⟨k-1,by omega⟩
  have i1:(p:Int)<(P:Int):=by omega
  have fin:=ih (p+1) k (by omega) (by omega) (by omega)
  rw[znu hp]at fin
  unfold q19 q3k
  simp only[i1,dT,cT]
  rw[q0j (by omega)]
  cases h:z32 P w i p
  ·rw[h,Bool.false_or]at fin
   simp only[cF]
   rw[(anch9 h3 hw hp (by omega)).1]
   simp only[y5,beqN]
   exact fin
  ·rw[h,Bool.true_or]at fin
   simp only[cT]
   exact fin
theorem lacks_is(x0:LI)(x2:Int)(x3:Int)(x4:Int)(x5:Int)(x6:Int)(x7:Int)(x8:Int)(x9:Int)(x10:Int)(x12:Int)(x13:Int)(x14:LI)(x15:LI){P w i:Nat}(h1:1≤P)(h3:P≤3)(hw:w<64):q6a 600 x0 (P:Int) x2 x3 x4 x5 x6 x7 x8 x9 x10 (w:Int) x12 x13 x14 x15 (i:Int)=some ((qin P w i:Int),()):=by
 unfold q6a
 have h:=zv8 x0 x2 x3 x4 x5 x6 x7 x8 x9 x10 x12 x13 x14 x15 (i:=i) h3 hw (P-1) 1 600 (by omega) (by omega) (by omega)
 rw[zv7,←beqN i 0]at h
 have e1:((1:Nat):Int)=1:=rfl
 have e0:((0:Nat):Int)=0:=rfl
 rw[e1,e0]at h
 rw[h]
 simp only[y5]
 unfold qin ancB
 rw[show((i==0)||((yy P).any fun p=>decide (1≤p)&&(zmw P w p==i)))=z32 P w i P from rfl]
 cases z32 P w i P<;>rfl
def qhv(b:LI)(P w f p2 j:Nat):Int:=lv b (posF P w f p2 j) (f-qin P w j)
theorem zxf{b:LI}(hb:Bytes b)(hl:b.length=16)(x0:LI)(x1:LI)(x2:LI)(x4:Int)(x5:Int)(x6:Int)(x7:Int)(x8:Int)(x9:Int)(x10:Int)(x12:Int)(x14:Int)(x15:Int)(x17:LI){P w f p2:Nat}(hP1:1≤P)(h3:P≤3)(hw:w<64)(hf:2≤f∧f≤4)(hp:posF P w f p2 16≤128):
  ∀(d i k:Nat),i+d=16→d<k→q4i 600 k x0 x1 x2 ((P:Int)) x4 x5 x6 x7 x8 x9 x10 ((f:Int)) x12 ((w:Int)) x14 x15 (tab 16 (upT i (qhv b P w f p2))) x17 b (((posF P w f p2 i:Nat):Int)) ((i:Int))=some (x0,x1,x2,(P:Int),x4,x5,x6,x7,x8,x9,x10,(f:Int),x12,(w:Int),x14,x15,tab 16 (qhv b P w f p2),x17,b,((posF P w f p2 16:Nat):Int),()):=by
 intro d
 induction d with
 |zero=>
  intro i k h1 h2
  obtain⟨k,rfl⟩:∃k',k=k' +1:=⟨k-1,by omega⟩
  obtain rfl:i=16:=by omega
  unfold q4i qa9
  have:¬(((16:Nat):Int)<16):=by omega
  simp only[this,dF,cF,qhl]
 |succ d ih=>
  intro i k h1 h2
  obtain⟨k,rfl⟩:∃k',k=k' +1:=⟨k-1,by omega⟩
  have i1:(i:Int)<16:=by omega
  have hm:=zv0 P w f p2 (show i+1≤16 by omega)
  have hle:=zzi P w i
  have en:y0 .i64 ((f:Int)-(qin P w i:Int))=((f-qin P w i:Nat):Int):=by
   rw[w64 (by omega) (by omega)]
   omega
  have e1:posF P w f p2 (i+1)=posF P w f p2 i+(f-qin P w i):=rfl
  unfold q4i qa9
  simp only[i1,dT,cT,yc,yd,yb,lacks_is _ _ _ _ _ _ _ _ _ _ _ _ _ _ hP1 h3 hw,y5,en]
  rw[rd9 hb hl (by omega) (by omega)]
  simp only[y5]
  rw[q0j (by omega),←e1,show lv b (posF P w f p2 i) (f-qin P w i)=qhv b P w f p2 i from rfl,qes]
  exact ih (i+1) k (by omega) (by omega)
def posS(s p3 i:Nat):Nat:=p3+(if i=0 then 0 else i*s-1)
def secV(b:LI)(s p3 i:Nat):Int:=if s=0 then 0 else lv b (posS s p3 i) (s-if i=0 then 1 else 0)
theorem zzl(i:Nat):yv 1 ((i+1:Nat):Int)=((if i=0 then 1 else 0:Nat):Int):=by
 by_cases h:i=0
 ·subst h;rfl
 ·rw[q3s (by omega),iN h,Int.ediv_eq_zero_of_lt (by omega) (by omega)]
  rfl
theorem zv9{s p3 i:Nat}(hs:2≤s):posS s p3 (i+1)=posS s p3 i+(s-if i=0 then 1 else 0):=by
 unfold posS
 rw[iN (by omega),Nat.succ_mul]
 by_cases h:i=0
 ·subst h
  simp
 ·rw[iN h,iN h]
  have:1*1≤i*s:=Nat.mul_le_mul (by omega) (by omega)
  omega
theorem zxg{b:LI}(hb:Bytes b)(hl:b.length=16)(x0:LI)(x1:LI)(x2:LI)(x3:Int)(x4:Int)(x5:Int)(x6:Int)(x7:Int)(x8:Int)(x9:Int)(x10:Int)(x11:Int)(x13:Int)(x14:Int)(x15:Int)(x16:LI){s p3:Nat}(hs:2≤s∧s≤3)(hp:p3+(16*s-1)≤128):
  ∀(d i k:Nat),i+d=16→d<k→q4j 600 k x0 x1 x2 x3 x4 x5 x6 x7 x8 x9 x10 x11 ((s:Int)) x13 x14 x15 x16 (tab 16 (upT i (secV b s p3))) b (((posS s p3 i:Nat):Int)) ((i:Int))=some (x0,x1,x2,x3,x4,x5,x6,x7,x8,x9,x10,x11,(s:Int),x13,x14,x15,x16,tab 16 (secV b s p3),()):=by
 intro d
 induction d with
 |zero=>
  intro i k h1 h2
  obtain⟨k,rfl⟩:∃k',k=k' +1:=⟨k-1,by omega⟩
  obtain rfl:i=16:=by omega
  unfold q4j qaa
  have:¬(((16:Nat):Int)<16):=by omega
  simp only[this,dF,cF,qhl]
 |succ d ih=>
  intro i k h1 h2
  obtain⟨k,rfl⟩:∃k',k=k' +1:=⟨k-1,by omega⟩
  have i1:(i:Int)<16:=by omega
  have hle:(if i=0 then 1 else 0:Nat)≤1:=by split<;>omega
  have e1:=zv9 (p3:=p3) (i:=i) hs.1
  have hm:posS s p3 (i+1)≤128:=by
   unfold posS
   rw[iN (by omega)]
   have:=Nat.mul_le_mul_right s (show i+1≤16 by omega)
   omega
  have hz:(!(((i+1:Nat):Int)==0))=true:=by
   rw[beqF (by omega)]
   rfl
  have ew:y0 .i64 (((if i=0 then 1 else 0:Nat):Int))=((if i=0 then 1 else 0:Nat):Int):=w64 (by omega) (by omega)
  have en:y0 .i64 ((s:Int)-((if i=0 then 1 else 0:Nat):Int))=((s-(if i=0 then 1 else 0):Nat):Int):=by
   rw[w64 (by omega) (by omega)]
   omega
  unfold q4j qaa
  simp only[i1,dT,cT,yc,yd,yb]
  rw[q0j (by omega)]
  simp only[hz,cT,zzl,ew,en]
  rw[rd9 hb hl (by omega) (by omega)]
  simp only[y5]
  have es:secV b s p3 i=lv b (posS s p3 i) (s-(if i=0 then 1 else 0)):=by
   unfold secV
   exact iN (by omega)
  rw[←e1,←es,qes]
  exact ih (i+1) k (by omega) (by omega)
def bp0(m:BM):Nat:=m.base+m.W+m.T+m.H
def bp1(m:BM):Nat:=bp0 m+6*m.P*m.C+2*m.P*m.A
def bp2(m:BM):Nat:=bp1 m+2*m.P*m.e+m.P*m.o
def wN(b:LI)(m:BM):Nat:=(lv b m.base m.W).toNat
def tN(b:LI)(m:BM):Int:=lv b (m.base+m.W) m.T
def cN(b:LI)(m:BM):Int:=lv b (m.base+m.W+m.T) m.H
def bp3(b:LI)(m:BM):Nat:=posF m.P (wN b m) m.f (bp2 m) 16
def endF(b:LI)(m:BM)(j:Nat):Int:=eF b m (bp0 m) (bp1 m) j
def firF(b:LI)(m:BM)(j:Nat):Int:=qhv b m.P (wN b m) m.f (bp2 m) j
def secF(b:LI)(m:BM)(j:Nat):Int:=secV b m.s (bp3 b m) j
theorem j48(b:LI){m:BM}(ok:m.Ok):lv b m.base m.W=(wN b m:Int)∧wN b m<64:=by
 have h:=q3y b m.base m.W
 have h2:(2:Int)^m.W≤2^6:=qax ok.W6
 unfold wN
 omega
theorem bp3_le(b:LI){m:BM}(ok:m.Ok):bp3 b m=bp2 m+(16*m.f-m.P)∧bp3 b m+(if m.s=0 then 0 else 16*m.s-1)≤128:=by
 have h:=posF_16 ok.P1 ok.P3 (j48 b ok).2 ok.f2 ok.f4 (bp2 m)
 have ha:=ok.all
 refine⟨h,?_⟩
 unfold bp3
 rw[h]
 unfold bp2 bp1 bp0
 omega
theorem sq0:q07=tab 16 fun _=>0:=by decide+kernel
theorem posB_end{m:BM}(ok:m.Ok)(p1:Nat):posB m p1 (2*m.P)=p1+2*m.P*m.e+m.P*m.o:=by
 unfold posB
 have h1:=ok.e1
 have h2:=ok.o1
 have h3:=ok.eo
 by_cases he:m.e=1
 ·have ho:m.o=0:=by omega
  rw[iP he,he,ho]
  omega
 ·rw[iN he]
  have he0:m.e=0:=by omega
  rw[he0]
  by_cases ho:m.o=1
  ·rw[iP ho,ho]
   omega
  ·have ho0:m.o=0:=by omega
   rw[iN ho,ho0]
   omega
theorem widen_is{b:LI}(hb:Bytes b)(hl:b.length=16)(x1 x2 x3 x4 x9 x10 x11 x12 x13:Int)(x14 x15:LI){m:BM}(ok:m.Ok)(p0 p1:Nat)(hp:p1+2*m.P*m.e+m.P*m.o≤128):
  q2c 600 (tab (2*m.P*4) (e0 b m p0)) x1 x2 x3 x4 (m.C:Int) (m.A:Int) (m.e:Int) (m.o:Int) x9 x10 x11 x12 x13 x14 x15 b ((p1:Nat):Int)=some (tab (2*m.P*4) (eF b m p0 p1),((p1+2*m.P*m.e+m.P*m.o:Nat):Int),()):=by
 unfold q2c
 have h1:=ok.e1
 have h2:=ok.o1
 have h3:=ok.P3
 have e1:y0 .i64 ((m.e:Int)+(m.o:Int))=((m.e+m.o:Nat):Int):=by rw[w64 (by omega) (by omega),Int.natCast_add]
 have i2:(2*m.P*4)/4=2*m.P:=by omega
 have h:=zv6 hb hl x1 x2 x3 x4 x9 x10 x11 x12 x13 x14 x15 ok p0 p1 hp (2*m.P) 0 600 (by omega) (by omega)
 have s1:tab (2*m.P*4) (wG b m p0 p1 0)=tab (2*m.P*4) (e0 b m p0):=q03 fun j hj=>iN (by omega)
 have s2:posB m p1 0=p1:=by
  unfold posB
  split
  ·rfl
  ·split<;>rfl
 have s3:bitS b m p1 0=0:=rfl
 have s4:tab (2*m.P*4) (wG b m p0 p1 (2*m.P))=tab (2*m.P*4) (eF b m p0 p1):=q03 fun j hj=>iP (by omega)
 rw[s1,s2,s3,s4,posB_end ok]at h
 simp only[q0g,i2,e1]
 rw[show(0:Int)=((0:Nat):Int)from rfl]at h⊢
 rw[h]
 rfl
theorem read9_is{b:LI}(hb:Bytes b)(hl:b.length=16){k:Nat}(hk:k<8){m:BM}(hm:bmOf k=m):
  ql4 600 b (k:Int)=some ((m.P:Int),(m.W:Int),(m.T:Int),(m.H:Int),(m.C:Int),(m.A:Int),(m.e:Int),(m.o:Int),(m.f:Int),(m.s:Int),(wN b m:Int),tN b m,cN b m,tab (2*m.P*4) (endF b m),tab 16 (firF b m),tab 16 (secF b m),()):=by
 have ok:m.Ok:=by rw[←hm];exact bm_ok hk
 have hbase:m.base=k+1:=by rw[←hm];rfl
 obtain⟨hP1,hP3,hW6,hT2,hH1,hC1,hC7,hA8,he1,ho1,heo,hCe,hAe,hf2,hf4,hs3,hs0,hHs,hb8,hall⟩:=ok
 have ok:m.Ok:=⟨hP1,hP3,hW6,hT2,hH1,hC1,hC7,hA8,he1,ho1,heo,hCe,hAe,hf2,hf4,hs3,hs0,hHs,hb8,hall⟩
 obtain⟨hw,hw64⟩:=j48 b ok
 obtain⟨h3e,h3⟩:=bp3_le b ok
 unfold ql4 qqc
 have n8:bctable_ModesT298.length/10=8:=rfl
 have i1:(k:Int)<((8:Nat):Int):=by omega
 have g0:(qks m).getD 0 0=(m.P:Int):=rfl
 have g1:(qks m).getD 1 0=(m.W:Int):=rfl
 have g2:(qks m).getD 2 0=(m.T:Int):=rfl
 have g3:(qks m).getD 3 0=(m.H:Int):=rfl
 have g4:(qks m).getD 4 0=(m.C:Int):=rfl
 have g5:(qks m).getD 5 0=(m.A:Int):=rfl
 have g6:(qks m).getD 6 0=(m.e:Int):=rfl
 have g7:(qks m).getD 7 0=(m.o:Int):=rfl
 have g8:(qks m).getD 8 0=(m.f:Int):=rfl
 have g9:(qks m).getD 9 0=(m.s:Int):=rfl
 have e2:y0 .i64 (2*(m.P:Int))=((2*m.P:Nat):Int):=by rw[w64 (by omega) (by omega)];omega
 have r1:=rd9 hb hl (a:=m.base) (n:=m.W) (by omega) (by omega)
 have r2:=rd9 hb hl (a:=m.base+m.W) (n:=m.T) (by omega) (by omega)
 have r3:=rd9 hb hl (a:=m.base+m.W+m.T) (n:=m.H) (by omega) (by omega)
 have i2:((2*m.P:Nat):Int)≤1099511627776:=by omega
 have l0:=fun x0 x1 x16 x17 x3 x4 x5 x6 x9 x10 x11 x12 x13 x14 x15=>zxe hb hl x0 x1 x3 x4 x5 x6 x9 x10 x11 x12 x13 x14 x15 x16 x17 ok (p0:=bp0 m) (by unfold bp0;omega) 595
 have l1:=fun x1 x2 x3 x4 x9 x10 x11 x12 x13 x14 x15=>widen_is hb hl x1 x2 x3 x4 x9 x10 x11 x12 x13 x14 x15 ok (bp0 m) (bp1 m) (by unfold bp1 bp0;omega)
 have l4:=zxf hb hl q07 q07 (tab (2*m.P*4) (eF b m (bp0 m) (bp1 m))) ((m.W:Int)) ((m.T:Int)) ((m.H:Int)) ((m.C:Int)) ((m.A:Int)) ((m.e:Int)) ((m.o:Int)) ((m.s:Int)) (lv b (m.base+m.W) m.T) (lv b (m.base+m.W+m.T) m.H) q07 (P:=m.P) (w:=wN b m) (f:=m.f) (p2:=bp2 m) hP1 hP3 hw64 ⟨hf2,hf4⟩ (by have:=h3;unfold bp3 at this;omega) 16 0 600 (by omega) (by omega)
 rw[q87,←sq0,show posF m.P (wN b m) m.f (bp2 m) 0=bp2 m from rfl,show((0:Nat):Int)=0 from rfl]at l4
 simp only[n8,i1,dT,cT,yc,yd,yb,y5,row_is hk,hm,g0,g1,g2,g3,g4,g5,g6,g7,g8,g9]
 rw[q0j (by omega),←hbase]
 simp only[r1,r2,r3,hw,y5,e2,i2,dT,yc,yd,cT,yb,j41]
 have a0:m.base+m.W+m.T+m.H=bp0 m:=rfl
 have a1:bp0 m+6*m.P*m.C+2*m.P*m.A=bp1 m:=rfl
 have a2:bp1 m+2*m.P*m.e+m.P*m.o=bp2 m:=rfl
 rw[a1]at l0
 rw[a2]at l1
 simp only[a0]
 have l0' :=l0 q07 q07 q07 q07 (m.P:Int) (m.W:Int) (m.T:Int) (m.H:Int) (m.e:Int) (m.o:Int) (m.f:Int) (m.s:Int) (wN b m:Int) (lv b (m.base+m.W) m.T) (lv b (m.base+m.W+m.T) m.H)
 rw[show(595+5:Nat)=600 from rfl]at l0'
 simp only[l0',y5,l1,l4]
 by_cases hs:m.s=0
 ·have:¬(0:Int)<(m.s:Int):=by omega
  simp only[this,dF,cF]
  rw[show q07=tab 16 (secF b m)from sq0.trans (q03 fun j hj=>by
   unfold secF secV
   rw[iP hs])]
  rfl
 ·have:(0:Int)<(m.s:Int):=by omega
  have l6:=zxg hb hl q07 q07 (tab (2*m.P*4) (eF b m (bp0 m) (bp1 m))) ((m.P:Int)) ((m.W:Int)) ((m.T:Int)) ((m.H:Int)) ((m.C:Int)) ((m.A:Int)) ((m.e:Int)) ((m.o:Int)) ((m.f:Int)) ((wN b m:Int)) (lv b (m.base+m.W) m.T) (lv b (m.base+m.W+m.T) m.H) (tab 16 (qhv b m.P (wN b m) m.f (bp2 m))) (s:=m.s) (p3:=bp3 b m) (by omega) (by rw[iN hs]at h3;exact h3) 16 0 600 (by omega) (by omega)
  rw[q87,←sq0,show posS m.s (bp3 b m) 0=posF m.P (wN b m) m.f (bp2 m) 16 from rfl,show((0:Nat):Int)=0 from rfl]at l6
  simp only[this,dT,cT,l6,y5]
  rfl
def wL(n:Nat):LI:=if n=2 then[0,21,43,64]else if n=3 then qea else qeb
def mx(a z p:Int)(n:Nat):Int:=mixV a z ((wL n).getD p.toNat 0) 64 32
theorem j49:((yy 5).all fun n=>decide (n<2)||((wL n).length==2^n&&((yy (2^n)).all fun p=>decide (0≤(wL n).getD p 0)&&decide ((wL n).getD p 0≤64))&&
  (qc0 600 (n:Int)==some (wL n,())&&qi3 600 (n:Int)==some (wL n,()))))=true:=by decide+kernel
theorem wL_is{n:Nat}(h:2≤n∧n≤4):(wL n).length=2^n∧(∀p,p<2^n→0≤(wL n).getD p 0∧(wL n).getD p 0≤64)∧qc0 600 (n:Int)=some (wL n,())∧qi3 600 (n:Int)=some (wL n,()):=by
 have:=List.all_eq_true.1 j49 n (by simp;omega)
 have h2:¬n<2:=by omega
 simp only[h2,dF,Bool.false_or,yl,beq_iff_eq]at this
 obtain⟨⟨h1,h3⟩,h4,h5⟩:=this
 refine⟨h1,fun p hp=> ?_,h4,h5⟩
 have:=List.all_eq_true.1 h3 p (by simpa using hp)
 simpa using this
theorem zrm{a z p:Int}{n:Nat}(ha:0≤a∧a≤255)(hz:0≤z∧z≤255)(hn:2≤n∧n≤4)(hp:0≤p∧p<2^n):0≤mx a z p n∧mx a z p n≤255:=by
 have hp2:p.toNat<2^n:=by
  have:((p.toNat:Nat):Int)<((2^n:Nat):Int):=by
   rw[Int.toNat_of_nonneg hp.1,wg]
   exact hp.2
  omega
 have hw:=(wL_is hn).2.1 _ hp2
 unfold mx mixV
 generalize (wL n).getD p.toNat 0=w at*
 have m1:a*(64-w)≤255*(64-w):=Int.mul_le_mul_of_nonneg_right ha.2 (by omega)
 have m2:z*w≤255*w:=Int.mul_le_mul_of_nonneg_right hz.2 (by omega)
 have m3:0≤a*(64-w):=Int.mul_nonneg ha.1 (by omega)
 have m4:0≤z*w:=Int.mul_nonneg hz.1 hw.1
 omega
theorem mix9{a z p:Int}{n:Nat}(ha:0≤a∧a≤255)(hz:0≤z∧z≤255)(hn:2≤n∧n≤4)(hp:0≤p∧p<2^n):
  q2z 600 a z p (n:Int)=some (mx a z p n,())∧q6g 600 a z p (n:Int)=some (mx a z p n,()):=by
 obtain⟨h1,h2,h3,h4⟩:=wL_is hn
 have hp2:p.toNat<2^n:=by
  have:((p.toNat:Nat):Int)<((2^n:Nat):Int):=by
   rw[Int.toNat_of_nonneg hp.1,wg]
   exact hp.2
  omega
 have hw:=h2 _ hp2
 have i1:p<((2^n:Nat):Int):=by rw[wg];exact hp.2
 obtain⟨m1,m2,_⟩:=zut 600 (a:=a) (b:=z) (k:=(wL n).getD p.toNat 0) (o:=64) (add:=32) (by omega) (by omega) (by omega) (by omega) (by omega) (by omega)
 unfold q2z q6g
 rw[h3,h4]
 simp only[y5,h1,hp.1,i1,dT,yd,cT,m1,m2]
 exact⟨rfl,rfl⟩
theorem q0r(b:LI){m:BM}(ok:m.Ok)(j:Nat):0≤endF b m j∧endF b m j≤255:=by
 have h1:=ok.Ce
 have h2:=ok.Ae
 have h3:=ok.C1
 unfold endF eF
 split
 ·split
  ·omega
  ·exact q79 (by omega) _
 ·exact q79 (by omega) _
theorem znv(b:LI){m:BM}(ok:m.Ok)(j:Nat):0≤firF b m j∧firF b m j<2^m.f:=by
 have h:=q3y b (posF m.P (wN b m) m.f (bp2 m) j) (m.f-qin m.P (wN b m) j)
 have h2:(2:Int)^(m.f-qin m.P (wN b m) j)≤2^m.f:=qax (by omega)
 unfold firF qhv
 omega
theorem znw(b:LI){m:BM}(ok:m.Ok)(hs:m.s≠0)(j:Nat):0≤secF b m j∧secF b m j<2^m.s:=by
 have h:=q3y b (posS m.s (bp3 b m) j) (m.s-if j=0 then 1 else 0)
 have h2:(2:Int)^(m.s-if j=0 then 1 else 0)≤2^m.s:=qax (by split<;>omega)
 unfold secF secV
 rw[iN hs]
 omega
def colP(b:LI)(m:BM)(i:Nat):Int×Nat:=if m.s≠0∧cN b m=1 then(secF b m i,m.s)else(firF b m i,m.f)
def alpP(b:LI)(m:BM)(i:Nat):Int×Nat:=if m.s≠0∧cN b m≠1 then(secF b m i,m.s)else(firF b m i,m.f)
def aF(b:LI)(m:BM)(i c:Nat):Int:=endF b m (2*q4v m.P (wN b m) i*4+c)
def z9F(b:LI)(m:BM)(i c:Nat):Int:=endF b m ((2*q4v m.P (wN b m) i+1)*4+c)
def preV(b:LI)(m:BM)(i c:Nat):Int:=
 if c=3 then mx (aF b m i 3) (z9F b m i 3) (alpP b m i).1 (alpP b m i).2 else mx (aF b m i c) (z9F b m i c) (colP b m i).1 (colP b m i).2
def z5t(t:Int)(g:Nat→Int)(c:Nat):Int:=if 0<t then(if c=t.toNat-1 then g 3 else if c=3 then g (t.toNat-1)else g c)else g c
def texV(b:LI)(m:BM)(i c:Nat):Int:=z5t (tN b m) (preV b m i) c
theorem zxh(b:LI){m:BM}(ok:m.Ok)(i:Nat):(2≤(colP b m i).2∧(colP b m i).2≤4)∧(0≤(colP b m i).1∧(colP b m i).1<2^(colP b m i).2):=by
 have h1:=ok.f2
 have h2:=ok.f4
 have h3:=ok.s3
 have h4:=ok.s0
 unfold colP
 by_cases h:m.s≠0∧cN b m=1
 ·rw[iP h]
  exact⟨by simp only;omega,znw b ok h.1 i⟩
 ·rw[iN h]
  exact⟨by simp only;omega,znv b ok i⟩
theorem zxi(b:LI){m:BM}(ok:m.Ok)(i:Nat):(2≤(alpP b m i).2∧(alpP b m i).2≤4)∧(0≤(alpP b m i).1∧(alpP b m i).1<2^(alpP b m i).2):=by
 have h1:=ok.f2
 have h2:=ok.f4
 have h3:=ok.s3
 have h4:=ok.s0
 unfold alpP
 by_cases h:m.s≠0∧cN b m≠1
 ·rw[iP h]
  exact⟨by simp only;omega,znw b ok h.1 i⟩
 ·rw[iN h]
  exact⟨by simp only;omega,znv b ok i⟩
theorem z8v(b:LI){m:BM}(ok:m.Ok)(i c:Nat):0≤preV b m i c∧preV b m i c≤255:=by
 obtain⟨h1,h2⟩:=zxh b ok i
 obtain⟨h3,h4⟩:=zxi b ok i
 unfold preV
 split
 ·exact zrm (q0r b ok _) (q0r b ok _) h3 h4
 ·exact zrm (q0r b ok _) (q0r b ok _) h1 h2
theorem zzm(b:LI){m:BM}(ok:m.Ok):0≤tN b m∧tN b m<4:=by
 have h:=q3y b (m.base+m.W) m.T
 have h2:(2:Int)^m.T≤2^2:=qax ok.T2
 unfold tN
 omega
theorem j16(b:LI){m:BM}(ok:m.Ok)(i c:Nat):0≤texV b m i c∧texV b m i c≤255:=by
 unfold texV z5t
 split
 ·split
  ·exact z8v b ok _ _
  ·split<;>exact z8v b ok _ _
 ·exact z8v b ok _ _
theorem qyg(x0:LI)(x1:Int)(x2:Int)(x3:Int)(x4:Int)(x5:Int)(x6:Int)(x7:Int)(x8:Int)(x9:Int)(x10:Int)(x11:Int)(x12:Int)(x13:Int)(x14:LI)(x15:LI)(x16:LI)(x21:Int)(x22:Int){a z g:Nat→Int}{p:Int}{n:Nat}(hg:∀c,c<3→q2z 600 (a c) (z c) p (n:Int)=some (g c,())):
  ∀(d c k:Nat),c+d=3→d<k→q0k 600 k x0 x1 x2 x3 x4 x5 x6 x7 x8 x9 x10 x11 x12 x13 x14 x15 x16 (tab 4 a) (tab 4 z) p ((n:Int)) x21 x22 (tab 4 (upT c g)) ((c:Int))=some (x0,x1,x2,x3,x4,x5,x6,x7,x8,x9,x10,x11,x12,x13,x14,x15,x16,tab 4 a,tab 4 z,x21,x22,tab 4 (upT 3 g),()):=by
 intro d
 induction d with
 |zero=>
  intro c k h1 h2
  obtain⟨k,rfl⟩:∃k',k=k' +1:=⟨k-1,by omega⟩
  obtain rfl:c=3:=by omega
  unfold q0k q3l
  have:¬(((3:Nat):Int)<3):=by omega
  simp only[this,dF,cF]
 |succ d ih=>
  intro c k h1 h2
  obtain⟨k,rfl⟩:∃k',k=k' +1:=⟨k-1,by omega⟩
  have i1:(c:Int)<3:=by omega
  have i2:(c:Int)<4:=by omega
  unfold q0k q3l
  simp only[i1,i2,dT,cT,yc,yd,yb,q0d (show c<4 by omega),hg c (by omega),y5,qes]
  rw[q0j (by omega)]
  exact ih (c+1) k (by omega) (by omega)
theorem set3(g:Nat→Int):(tab 4 (upT 3 g)).set 3 (g 3)=tab 4 g:=by
 rw[qes,qhl]
theorem j4a{t:Int}(ht:0≤t∧t<4)(g:Nat→Int)(h:0<t):
  yw (yw (tab 4 g) 3 ((tab 4 g).getD (t-1).toNat 0)) (t-1).toNat ((tab 4 g).getD 3 0)=tab 4 (z5t t g):=by
 have e:(t-1).toNat=t.toNat-1:=by omega
 rw[e,q0d (by omega),q0d (by omega),q4u,q4u]
 refine q03 fun j hj=> ?_
 unfold z5t
 rw[iP h]
theorem texel_is(b:LI){m:BM}(ok:m.Ok){i:Nat}(hi:i<16):
  q6b 600 (tab (2*m.P*4) (endF b m)) (m.P:Int) (m.W:Int) (m.T:Int) (m.H:Int) (m.C:Int) (m.A:Int) (m.e:Int) (m.o:Int) (m.f:Int) (m.s:Int) (wN b m:Int) (tN b m) (cN b m) (tab 16 (firF b m)) (tab 16 (secF b m)) (i:Int)=some (tab 4 (texV b m i),()):=by
 obtain⟨q1,_,q3⟩:=part9 ok.P1 ok.P3 (j48 b ok).2 hi
 have hP3:=ok.P3
 have ht:=zzm b ok
 have hcol:=zxh b ok i
 have halp:=zxi b ok i
 have i2:(2*m.P*4)/4=2*m.P:=by omega
 have e1:y0 .i64 (2*((q4v m.P (wN b m) i:Nat):Int))=((2*q4v m.P (wN b m) i:Nat):Int):=by rw[w64 (by omega) (by omega)];omega
 have i3:((2*q4v m.P (wN b m) i:Nat):Int)<((2*m.P:Nat):Int):=by omega
 have i4:((2*q4v m.P (wN b m) i+1:Nat):Int)<((2*m.P:Nat):Int):=by omega
 have i5:(i:Int)<16:=by omega
 have r1:y8 4 (y9 (2*q4v m.P (wN b m) i*4) (tab (2*m.P*4) (endF b m)))=tab 4 (aF b m i):=qaq (by omega)
 have r2:y8 4 (y9 ((2*q4v m.P (wN b m) i+1)*4) (tab (2*m.P*4) (endF b m)))=tab 4 (z9F b m i):=qaq (by omega)
 have fin:(bif decide ((0:Int)<tN b m)then
   (let v:Int:=(y0 .i64 (tN b m-(1:Int)))
   let b1:Bool:=((decide ((0:Int)≤v))&&(decide (v<(4:Int))))
   cond b1
    (cond b1
     (some ((yw (yw (tab 4 (preV b m i)) 3 (y7 (tab 4 (preV b m i)) (y6 v) (0:Int))) (y6 v) (y7 (tab 4 (preV b m i)) 3 (0:Int))),()))
      none)
     none)
   else some (tab 4 (preV b m i),()))=some (tab 4 (texV b m i),()):=by
  by_cases h:0<tN b m
  ·have ew:y0 .i64 (tN b m-1)=tN b m-1:=w64 (by omega) (by omega)
   have j1:(0:Int)≤tN b m-1:=by omega
   have j2:tN b m-1<4:=by omega
   simp only[h,dT,cT,ew,j1,j2,yd,j4a ht _ h]
   rfl
  ·simp only[h,dF,cF]
   rw[q03 fun j hj=>show preV b m i j=texV b m i j by
    unfold texV z5t
    rw[iN h]]
 unfold q6b
 simp only[q1,y5,q0g,i2,e1]
 rw[q0j (by omega)]
 simp only[i3,i4,i5,r1,r2,dT,cT,yc,yd,yb,q0d hi]
 by_cases hs:m.s=0
 ·have g1:¬(0:Int)<(m.s:Int):=by omega
  have hc1:colP b m i=(firF b m i,m.f):=iN (by omega)
  have ha1:alpP b m i=(firF b m i,m.f):=iN (by omega)
  rw[hc1]at hcol
  rw[ha1]at halp
  have g2:=beqF (show cN b m≠1 by
   have:=q3y b (m.base+m.W+m.T) m.H
   rw[ok.Hs hs]at this
   unfold cN
   rw[ok.Hs hs]
   omega)
  have l0:=qyg (tab (2*m.P*4) (endF b m)) ((m.P:Int)) ((m.W:Int)) ((m.T:Int)) ((m.H:Int)) ((m.C:Int)) ((m.A:Int)) ((m.e:Int)) ((m.o:Int)) ((m.f:Int)) ((m.s:Int)) ((wN b m:Int)) (tN b m) (cN b m) (tab 16 (firF b m)) (tab 16 (secF b m)) ([0,0,0,0]) (firF b m i) ((m.f:Int)) (a:=aF b m i) (z:=z9F b m i) (g:=preV b m i) (p:=firF b m i) (n:=m.f) (fun c hc=>by
   have:=(mix9 (q0r b ok (2*q4v m.P (wN b m) i*4+c)) (q0r b ok ((2*q4v m.P (wN b m) i+1)*4+c)) hcol.1 hcol.2).1
   unfold preV
   rw[iN (by omega),hc1]
   exact this) 3 0 600 (by omega) (by omega)
  have m3:=(mix9 (q0r b ok (2*q4v m.P (wN b m) i*4+3)) (q0r b ok ((2*q4v m.P (wN b m) i+1)*4+3)) halp.1 halp.2).1
  have p3:mx (aF b m i 3) (z9F b m i 3) (firF b m i) (m.f)=preV b m i 3:=by
   unfold preV
   rw[iP rfl,ha1]
  change q2z 600 (aF b m i 3) (z9F b m i 3) (firF b m i) (m.f:Int)=some (mx (aF b m i 3) (z9F b m i 3) (firF b m i) (m.f),())at m3
  rw[p3]at m3
  rw[q87]at l0
  rw[show((0:Nat):Int)=0 from rfl,show(tab 4 fun _=>0)=[0,0,0,0]from rfl]at l0
  simp only[g1,g2,dT,dF,cT,cF,l0,y5,q0d (show 3<4 by omega),m3]
  rw[set3 (preV b m i)]
  exact fin
 ·have g1:(0:Int)<(m.s:Int):=by omega
  by_cases hch:cN b m=1
  ·have g2:=beqT hch
   have hc1:colP b m i=(secF b m i,m.s):=iP ⟨hs,hch⟩
   have ha1:alpP b m i=(firF b m i,m.f):=iN (fun h=>h.2 hch)
   rw[hc1]at hcol
   rw[ha1]at halp
   have l0:=qyg (tab (2*m.P*4) (endF b m)) ((m.P:Int)) ((m.W:Int)) ((m.T:Int)) ((m.H:Int)) ((m.C:Int)) ((m.A:Int)) ((m.e:Int)) ((m.o:Int)) ((m.f:Int)) ((m.s:Int)) ((wN b m:Int)) (tN b m) (cN b m) (tab 16 (firF b m)) (tab 16 (secF b m)) ([0,0,0,0]) (firF b m i) ((m.f:Int)) (a:=aF b m i) (z:=z9F b m i) (g:=preV b m i) (p:=secF b m i) (n:=m.s) (fun c hc=>by
    have:=(mix9 (q0r b ok (2*q4v m.P (wN b m) i*4+c)) (q0r b ok ((2*q4v m.P (wN b m) i+1)*4+c)) hcol.1 hcol.2).1
    unfold preV
    rw[iN (by omega),hc1]
    exact this) 3 0 600 (by omega) (by omega)
   have m3:=(mix9 (q0r b ok (2*q4v m.P (wN b m) i*4+3)) (q0r b ok ((2*q4v m.P (wN b m) i+1)*4+3)) halp.1 halp.2).1
   have p3:mx (aF b m i 3) (z9F b m i 3) (firF b m i) (m.f)=preV b m i 3:=by
    unfold preV
    rw[iP rfl,ha1]
   change q2z 600 (aF b m i 3) (z9F b m i 3) (firF b m i) (m.f:Int)=some (mx (aF b m i 3) (z9F b m i 3) (firF b m i) (m.f),())at m3
   rw[p3]at m3
   rw[q87]at l0
   rw[show((0:Nat):Int)=0 from rfl,show(tab 4 fun _=>0)=[0,0,0,0]from rfl]at l0
   simp only[g1,g2,dT,dF,cT,cF,l0,y5,q0d (show 3<4 by omega),m3]
   rw[set3 (preV b m i)]
   exact fin
  ·have g2:=beqF hch
   have hc1:colP b m i=(firF b m i,m.f):=iN (fun h=>hch h.2)
   have ha1:alpP b m i=(secF b m i,m.s):=iP ⟨hs,hch⟩
   rw[hc1]at hcol
   rw[ha1]at halp
   have l0:=qyg (tab (2*m.P*4) (endF b m)) ((m.P:Int)) ((m.W:Int)) ((m.T:Int)) ((m.H:Int)) ((m.C:Int)) ((m.A:Int)) ((m.e:Int)) ((m.o:Int)) ((m.f:Int)) ((m.s:Int)) ((wN b m:Int)) (tN b m) (cN b m) (tab 16 (firF b m)) (tab 16 (secF b m)) ([0,0,0,0]) (secF b m i) ((m.s:Int)) (a:=aF b m i) (z:=z9F b m i) (g:=preV b m i) (p:=firF b m i) (n:=m.f) (fun c hc=>by
    have:=(mix9 (q0r b ok (2*q4v m.P (wN b m) i*4+c)) (q0r b ok ((2*q4v m.P (wN b m) i+1)*4+c)) hcol.1 hcol.2).1
    unfold preV
    rw[iN (by omega),hc1]
    exact this) 3 0 600 (by omega) (by omega)
   have m3:=(mix9 (q0r b ok (2*q4v m.P (wN b m) i*4+3)) (q0r b ok ((2*q4v m.P (wN b m) i+1)*4+3)) halp.1 halp.2).1
   have p3:mx (aF b m i 3) (z9F b m i 3) (secF b m i) (m.s)=preV b m i 3:=by
    unfold preV
    rw[iP rfl,ha1]
   change q2z 600 (aF b m i 3) (z9F b m i 3) (secF b m i) (m.s:Int)=some (mx (aF b m i 3) (z9F b m i 3) (secF b m i) (m.s),())at m3
   rw[p3]at m3
   rw[q87]at l0
   rw[show((0:Nat):Int)=0 from rfl,show(tab 4 fun _=>0)=[0,0,0,0]from rfl]at l0
   simp only[g1,g2,dT,dF,cT,cF,l0,y5,q0d (show 3<4 by omega),m3]
   rw[set3 (preV b m i)]
   exact fin
def decF(b:LI)(m:BM)(j:Nat):Int:=texV b m (j/4) (j%4)
theorem zrn(b:LI){m:BM}(ok:m.Ok)(x0:LI):
  ∀(d i k:Nat),i+d=16→d<k→q30 600 k x0 (tab 64 (upT (i*4) (decF b m))) (tab (2*m.P*4) (endF b m)) ((m.P:Int)) ((m.W:Int)) ((m.T:Int)) ((m.H:Int)) ((m.C:Int)) ((m.A:Int)) ((m.e:Int)) ((m.o:Int)) ((m.f:Int)) ((m.s:Int)) ((wN b m:Int)) (tN b m) (cN b m) (tab 16 (firF b m)) (tab 16 (secF b m)) ((i:Int))=some (x0,tab 64 (decF b m),()):=by
 intro d
 induction d with
 |zero=>
  intro i k h1 h2
  obtain⟨k,rfl⟩:∃k',k=k' +1:=⟨k-1,by omega⟩
  obtain rfl:i=16:=by omega
  unfold q30 q85
  have:¬(((16:Nat):Int)<16):=by omega
  simp only[this,dF,cF]
  rw[show 16*4=64 from rfl,qhl]
 |succ d ih=>
  intro i k h1 h2
  obtain⟨k,rfl⟩:∃k',k=k' +1:=⟨k-1,by omega⟩
  have hi:i<16:=by omega
  have i1:(i:Int)<16:=by omega
  unfold q30 q85
  simp only[i1,dT,cT,yc,yd,yb,texel_is b ok hi,y5]
  rw[q0j (by omega),zre (by omega),q03 fun j hj=>show(if j/4=i then texV b m i (j%4)else upT (i*4) (decF b m) j)=upT ((i+1)*4) (decF b m) j by
   unfold upT decF
   by_cases h:j/4=i
   ·rw[iP h,iP (by omega),h]
   ·rw[iN h]
    by_cases h2:j<i*4
    ·rw[iP h2,iP (by omega)]
    ·rw[iN h2,iN (by omega)]]
  exact ih (i+1) k (by omega) (by omega)
def q89(x:Int):Nat:=(math_bits_TrailingZeros8T292.getD x.toNat 0).toNat
theorem zxj:((yy 256).all fun x=>(math_bits_TrailingZeros8T292.getD x 0==((q89 x:Nat):Int))&&(decide (q89 x≤8)&&((yy 8).all fun i=>(decide (i<q89 x)&&((x/2^i%2)==0))||(decide (q89 x<i)||decide (i=q89 x∧x/2^i%2=1)))))=true:=by decide+kernel
theorem qkj{x:Int}(h:0≤x∧x≤255):q3j 600 x=some ((q89 x:Int),())∧q89 x≤8∧(∀i,i<q89 x→bitL x i=0)∧(q89 x<8→bitL x (q89 x)=1):=by
 obtain⟨x,rfl⟩:=yh h.1
 have:=List.all_eq_true.1 zxj x (by simp;omega)
 simp only[yl,beq_iff_eq,decide_eq_true_eq]at this
 obtain⟨h1,h2,h3⟩:=this
 have hb:∀i,bitL (x:Int) i=((x/2^i%2:Nat):Int):=fun i=>by
  unfold bitL
  rw[Int.natCast_emod,Int.natCast_ediv,wg]
  rfl
 refine⟨?_,h2,fun i hi=> ?_,fun h8=> ?_⟩
 ·unfold q3j
  have i1:(x:Int)<256:=by omega
  simp only[yc,i1,dT,yd,cT,yb,h1]
 ·have:=List.all_eq_true.1 h3 i (by simp;omega)
  simp only[Bool.or_eq_true,yl,decide_eq_true_eq,beq_iff_eq]at this
  rw[hb]
  omega
 ·have:=List.all_eq_true.1 h3 (q89 x) (by simpa using h8)
  simp only[Bool.or_eq_true,yl,decide_eq_true_eq,beq_iff_eq]at this
  rw[hb]
  omega
theorem Mode_is{b:LI}(hb:Bytes b)(hl:b.length=16):ql3 600 b=some ((q89 (b.getD 0 0):Int),()):=by
 have h:=qkj (hb.getD 0)
 unfold ql3
 rw[hl,h.1]
 rfl
theorem zva:q01=tab 64 fun _=>0:=by decide+kernel
def qa5(b:LI):LI:=if q89 (b.getD 0 0)=8 then q01 else tab 64 (decF b (bmOf (q89 (b.getD 0 0))))
theorem qz5{b:LI}(hb:Bytes b)(hl:b.length=16):q9w 600 b=some (qa5 b,0,()):=by
 have h:=qkj (hb.getD 0)
 have hn:(((b.length:Nat):Int) !=16)=false:=by rw[hl];rfl
 unfold q9w qa5
 rw[hn,Mode_is hb hl]
 simp only[cF,y5]
 by_cases h8:q89 (b.getD 0 0)=8
 ·rw[h8,iP rfl]
  rfl
 ·rw[iN h8,beqF (by omega)]
  have hk:q89 (b.getD 0 0)<8:=by omega
  simp only[cF,read9_is hb hl hk rfl,y5]
  have d:=zrn b (bm_ok hk) q01 16 0 600 (by omega) (by omega)
  rw[Nat.zero_mul,q87,←zva,show((0:Nat):Int)=0 from rfl]at d
  rw[d]
  rfl
theorem lv_one(b:LI)(a:Nat):lv b a 1=q48 b a:=by
 simp[lv,qep]
theorem z5u(b:LI){i:Nat}(h:i<8):q48 b i=bitL (b.getD 0 0) i:=by
 unfold q48
 rw[show i/8=0 by omega,show i%8=i by omega]
theorem zvb{b:LI}(hb:Bytes b)(hl:b.length=16):∀(d i k:Nat),i+d=q89 (b.getD 0 0)→d<k→q5m 600 k b (i:Int)=some (if q89 (b.getD 0 0)=8 then .inr ()else .inl ((q89 (b.getD 0 0):Int),())):=by
 obtain⟨_,h8,hz,h1⟩:=qkj (hb.getD 0)
 intro d
 induction d with
 |zero=>
  intro i k e hk
  obtain⟨k,rfl⟩:∃k',k=k' +1:=⟨k-1,by omega⟩
  obtain rfl:i=q89 (b.getD 0 0):=by omega
  unfold q5m qf8
  by_cases h:q89 (b.getD 0 0)=8
  ·rw[h]
   have:¬((8:Nat):Int)<8:=by omega
   simp only[this,dF,cF,if_true]
  ·have i1:((q89 (b.getD 0 0):Nat):Int)<8:=by omega
   have r:q2e 600 b ((q89 (b.getD 0 0):Nat):Int) (1:Int)=_:=j47 (n:=1) hb hl (by omega) (by omega)
   rw[lv_one,z5u b (by omega),h1 (by omega)]at r
   simp only[i1,dT,cT,r,y5,beqT,h,if_false]
 |succ d ih=>
  intro i k e hk
  obtain⟨k,rfl⟩:∃k',k=k' +1:=⟨k-1,by omega⟩
  unfold q5m qf8
  have i1:(i:Int)<8:=by omega
  have r:q2e 600 b (i:Int) (1:Int)=_:=j47 (n:=1) hb hl (by omega) (by omega)
  rw[lv_one,z5u b (by omega),hz i (by omega)]at r
  have z1:((0:Int)==1)=false:=rfl
  simp only[i1,dT,cT,r,y5,z1,cF]
  rw[q0j (by omega)]
  exact ih (i+1) k (by omega) (by omega)
theorem rMode_is{b:LI}(hb:Bytes b)(hl:b.length=16):qyz 600 b=some ((q89 (b.getD 0 0):Int),()):=by
 have h:=qkj (hb.getD 0)
 have hn:(((b.length:Nat):Int) !=16)=false:=by rw[hl];rfl
 unfold qyz
 rw[hn]
 simp only[cF]
 have r:q5m 600 600 b (0:Int)=_:=zvb hb hl (q89 (b.getD 0 0)) 0 600 (by omega) (by omega)
 rw[r]
 by_cases h8:q89 (b.getD 0 0)=8
 ·rw[iP h8,h8]
  rfl
 ·rw[iN h8]
  rfl
theorem rl2_all{b:LI}(hb:Bytes b)(hl:b.length=16)(x0:LI)(x1:LI)(x2:Int)(x3:Int)(x4:Int)(x5:Int)(x6:Int)(x7:Int)(x8:Int)(x9:Int)(x10:Int)(x11:Int)(x14:Int)(x15:Int)(x16:Int){E n c a:Nat}(g:Nat→Int)(hn:n≤16)(hc:c<4)(hE:E≤100)(ha:a+E*n≤128):
  ∀(d i k:Nat),i+d=E→d<k→q39 600 k x0 x1 x2 x3 x4 x5 x6 x7 x8 x9 x10 x11 b (((a+i*n:Nat):Int)) x14 x15 x16 (tab (E*4) (colG b a n c i g)) ((c:Int)) ((n:Int)) ((i:Int))=some (x0,x1,x2,x3,x4,x5,x6,x7,x8,x9,x10,x11,b,((a+E*n:Nat):Int),x14,x15,x16,tab (E*4) (colG b a n c E g),(c:Int),()):=by
 intro d
 induction d with
 |zero=>
  intro i k h1 h2
  obtain⟨k,rfl⟩:∃k',k=k' +1:=⟨k-1,by omega⟩
  obtain rfl:i=E:=by omega
  have i2:(i*4)/4=i:=by omega
  unfold q39 qab
  simp only[q0g,i2,yt,dF,cF]
 |succ d ih=>
  intro i k h1 h2
  obtain⟨k,rfl⟩:∃k',k=k' +1:=⟨k-1,by omega⟩
  have hi:i<E:=by omega
  have hm:=mulS (n:=n) hi
  have e1:(i+1)*n=i*n+n:=Nat.succ_mul i n
  unfold q39 qab
  have i1:(i:Int)<(E:Int):=by omega
  have i2:(E*4)/4=E:=by omega
  have i4:(c:Int)<4:=by omega
  simp only[q0g,i2,i1,i4,dT,cT,yc,yd,yb,y5]
  rw[za7 hb hl hn (by omega)]
  simp only[y5]
  rw[zv1 b a n c i g hc,q0j (by omega),we,←e1]
  exact ih (i+1) k (by omega) (by omega)
theorem ze1{b:LI}(hb:Bytes b)(hl:b.length=16)(x0:LI)(x1:LI)(x2:Int)(x3:Int)(x4:Int)(x5:Int)(x8:Int)(x9:Int)(x10:Int)(x11:Int)(x14:Int)(x15:Int)(x16:Int){C A E n c a:Nat}(g:Nat→Int)(hn:n≤16)(hc:c<4)(hE:E≤100)(ha:a+E*n≤128)(hd:n=if c=3 then A else C)(k:Nat):
  q2h 600 (k+1) x0 x1 x2 x3 x4 x5 ((C:Int)) ((A:Int)) x8 x9 x10 x11 b ((a:Int)) x14 x15 x16 (tab (E*4) g) ((c:Int))=q2h 600 k x0 x1 x2 x3 x4 x5 ((C:Int)) ((A:Int)) x8 x9 x10 x11 b (((a+E*n:Nat):Int)) x14 x15 x16 (tab (E*4) (colG b a n c E g)) (((c+1:Nat):Int)):=by
 have i4:(c:Int)<4:=by omega
 have h:=rl2_all hb hl x0 x1 x2 x3 x4 x5 (C:Int) (A:Int) x8 x9 x10 x11 x14 x15 x16 (c:=c) (a:=a) g hn hc hE ha E 0 600 (by omega) (by omega)
 simp only[zv3,Nat.zero_mul,Nat.add_zero,yq]at h
 conv=>lhs;unfold q2h qac
 by_cases h3:c=3
 ·rw[iP h3]at hd
  subst hd
  simp only[i4,dT,cT,beqT (show((c:Nat):Int)=3 by omega),h,y5]
  rw[q0j (by omega)]
 ·rw[iN h3]at hd
  subst hd
  simp only[i4,dT,cT,beqF (show((c:Nat):Int)≠3 by omega),cF,h,y5]
  rw[q0j (by omega)]
theorem rl0_all{b:LI}(hb:Bytes b)(hl:b.length=16)(x0:LI)(x1:LI)(x2:Int)(x3:Int)(x4:Int)(x5:Int)(x8:Int)(x9:Int)(x10:Int)(x11:Int)(x14:Int)(x15:Int)(x16:Int){m:BM}(ok:m.Ok){p0:Nat}(hp:p0+6*m.P*m.C+2*m.P*m.A≤128)(k:Nat):
  q2h 600 (k+5) x0 x1 x2 x3 x4 x5 ((m.C:Int)) ((m.A:Int)) x8 x9 x10 x11 b ((p0:Int)) x14 x15 x16 (tab (2*m.P*4) fun _=>0) ((0:Int))=some (x0,x1,x2,x3,x4,x5,(m.C:Int),(m.A:Int),x8,x9,x10,x11,b,((p0+6*m.P*m.C+2*m.P*m.A:Nat):Int),x14,x15,x16,tab (2*m.P*4) (e0 b m p0),()):=by
 have e6:6*m.P*m.C=2*m.P*m.C+2*m.P*m.C+2*m.P*m.C:=by
  rw[←Nat.add_mul,←Nat.add_mul]
  congr 1
  omega
 have hC:=ok.C7
 have hA:=ok.A8
 have hP:=ok.P3
 have s0:=ze1 hb hl x0 x1 x2 x3 x4 x5 x8 x9 x10 x11 x14 x15 x16 (C:=m.C) (A:=m.A) (E:=2*m.P) (n:=m.C) (c:=0) (a:=p0) (fun _=>0) (by omega) (by omega) (by omega) (by omega) (by simp) (k+4)
 have s1:=ze1 hb hl x0 x1 x2 x3 x4 x5 x8 x9 x10 x11 x14 x15 x16 (C:=m.C) (A:=m.A) (E:=2*m.P) (n:=m.C) (c:=1) (a:=p0+2*m.P*m.C) (colG b p0 m.C 0 (2*m.P) fun _=>0) (by omega) (by omega) (by omega) (by omega) (by simp) (k+3)
 have s2:=ze1 hb hl x0 x1 x2 x3 x4 x5 x8 x9 x10 x11 x14 x15 x16 (C:=m.C) (A:=m.A) (E:=2*m.P) (n:=m.C) (c:=2) (a:=p0+2*m.P*m.C+2*m.P*m.C) (colG b (p0+2*m.P*m.C) m.C 1 (2*m.P) (colG b p0 m.C 0 (2*m.P) fun _=>0)) (by omega) (by omega) (by omega) (by omega) (by simp) (k+2)
 have s3:=ze1 hb hl x0 x1 x2 x3 x4 x5 x8 x9 x10 x11 x14 x15 x16 (C:=m.C) (A:=m.A) (E:=2*m.P) (n:=m.A) (c:=3) (a:=p0+2*m.P*m.C+2*m.P*m.C+2*m.P*m.C) (colG b (p0+2*m.P*m.C+2*m.P*m.C) m.C 2 (2*m.P) (colG b (p0+2*m.P*m.C) m.C 1 (2*m.P) (colG b p0 m.C 0 (2*m.P) fun _=>0))) (by omega) (by omega) (by omega) (by omega) (by simp) (k+1)
 refine s0.trans (s1.trans (s2.trans (s3.trans ?_)))
 unfold q2h qac
 have i4:¬(((3+1:Nat):Int)<4):=by omega
 simp only[i4,dF,cF]
 rw[q03 fun j hj=>zv2 m p0 j hj,show p0+6*m.P*m.C+2*m.P*m.A=p0+2*m.P*m.C+2*m.P*m.C+2*m.P*m.C+2*m.P*m.A by omega]
theorem wrap2{x v:Int}(hx:0≤x∧x<1000)(hv:0≤v∧v≤1):y0 .i64 (y0 .i64 (2*x)+v)=2*x+v:=by
 rw[w64 (x:=2*x) (by omega) (by omega),w64 (by omega) (by omega)]
theorem rl6_all(x0:LI)(x1:LI)(x2:Int)(x3:Int)(x4:Int)(x5:Int)(x6:Int)(x7:Int)(x8:Int)(x9:Int)(x10:Int)(x11:Int)(x12:LI)(x13:Int)(x14:Int)(x15:Int)(x16:Int){E i:Nat}(g:Nat→Int)(v:Int)(hg:∀j,0≤g j∧g j<1000)(hv:0≤v∧v≤1)(hi:i<E)(hE:E≤100):
  ∀(d c k:Nat),c+d=4→d<k→q3a 600 k x0 x1 x2 x3 x4 x5 x6 x7 x8 x9 x10 x11 x12 x13 x14 x15 x16 (tab (E*4) fun j=>if j/4=i∧j%4<c then 2*g j+v else g j) ((i:Int)) v ((c:Int))=some (x0,x1,x2,x3,x4,x5,x6,x7,x8,x9,x10,x11,x12,x13,x14,x15,x16,tab (E*4) fun j=>if j/4=i then 2*g j+v else g j,(i:Int),()):=by
 intro d
 induction d with
 |zero=>
  intro c k h1 h2
  obtain⟨k,rfl⟩:∃k',k=k' +1:=⟨k-1,by omega⟩
  obtain rfl:c=4:=by omega
  unfold q3a qad
  have i4:¬(((4:Nat):Int)<4):=by omega
  simp only[i4,dF,cF]
  rw[q03 fun j hj=>show(if j/4=i∧j%4<4 then 2*g j+v else g j)=if j/4=i then 2*g j+v else g j by
   have:j%4<4:=Nat.mod_lt _ (by decide)
   simp only[this,and_true]]
 |succ d ih=>
  intro c k h1 h2
  obtain⟨k,rfl⟩:∃k',k=k' +1:=⟨k-1,by omega⟩
  have hc:c<4:=by omega
  have i1:(c:Int)<4:=by omega
  have i2:(E*4)/4=E:=by omega
  have i3:(i:Int)<(E:Int):=by omega
  unfold q3a qad
  simp only[q0g,i2,i1,i3,dT,cT,yc,yd,yb,q0d (show i*4+c<E*4 by omega),(mul4 i c hc).1,(mul4 i c hc).2,Nat.lt_irrefl,and_false,if_false,wrap2 (x:=g (i*4+c)) (v:=v) (by have:=hg (i*4+c);omega) hv]
  rw[q0j (by omega),q4u]
  rw[q03 fun j hj=>show(if j=i*4+c then 2*g (i*4+c)+v else if j/4=i∧j%4<c then 2*g j+v else g j)=if j/4=i∧j%4<c+1 then 2*g j+v else g j by
   by_cases h:j=i*4+c
   ·rw[iP h,iP (by omega),h]
   ·rw[iN h]
    by_cases h5:j/4=i∧j%4<c
    ·rw[iP h5,iP (by omega)]
    ·rw[iN h5,iN (by omega)]]
  exact ih (c+1) k (by omega) (by omega)
def bG(b:LI)(m:BM)(p0 p1 i j:Nat):Int:=if j/4<i then 2*e0 b m p0 j+bitV b m p1 (j/4)else e0 b m p0 j
theorem rl4_all{b:LI}(hb:Bytes b)(hl:b.length=16)(x0:LI)(x1:LI)(x2:Int)(x3:Int)(x4:Int)(x5:Int)(x6:Int)(x7:Int)(x8:Int)(x9:Int)(x10:Int)(x11:Int)(x14:Int)(x15:Int)(x16:Int){m:BM}(ok:m.Ok)(he:m.e=1)(p0 p1:Nat)(hp:p1+2*m.P≤128):
  ∀(d i k:Nat),i+d=2*m.P→d<k→q4k 600 k x0 x1 x2 x3 x4 x5 x6 x7 x8 x9 x10 x11 b (((p1+i:Nat):Int)) x14 x15 x16 (tab (2*m.P*4) (bG b m p0 p1 i)) ((i:Int))=some (x0,x1,x2,x3,x4,x5,x6,x7,x8,x9,x10,x11,b,((p1+2*m.P:Nat):Int),x14,x15,x16,tab (2*m.P*4) (bG b m p0 p1 (2*m.P)),()):=by
 intro d
 induction d with
 |zero=>
  intro i k h1 h2
  obtain⟨k,rfl⟩:∃k',k=k' +1:=⟨k-1,by omega⟩
  obtain rfl:i=2*m.P:=by omega
  have i2:(2*m.P*4)/4=2*m.P:=by omega
  unfold q4k qae
  simp only[q0g,i2,yt,dF,cF]
 |succ d ih=>
  intro i k h1 h2
  obtain⟨k,rfl⟩:∃k',k=k' +1:=⟨k-1,by omega⟩
  have hP3:=ok.P3
  have i2:(2*m.P*4)/4=2*m.P:=by omega
  have i1:(i:Int)<((2*m.P:Nat):Int):=by omega
  have r:q0p 600 b ((p1+i:Nat):Int) (1:Int)=_:=za7 (n:=1) hb hl (by omega) (by omega)
  have hv:lv b (p1+i) 1=bitV b m p1 i:=by
   unfold bitV
   rw[iP he]
  rw[hv]at r
  have hg:∀j,0≤bG b m p0 p1 i j∧bG b m p0 p1 i j<1000:=fun j=>by
   have h1:=ze0 b ok p0 j
   have h2:=z8u b m p1 (j/4)
   unfold bG
   split<;>omega
  have h6:=rl6_all x0 x1 x2 x3 x4 x5 x6 x7 x8 x9 x10 x11 b (((p1+i+1:Nat)):Int) x14 x15 x16 (E:=2*m.P) (i:=i) (bG b m p0 p1 i) (bitV b m p1 i) hg (z8u b m p1 i) (by omega) (by omega) 4 0 600 (by omega) (by omega)
  simp only[Nat.not_lt_zero,and_false,if_false,yq]at h6
  change q3a 600 600 x0 x1 x2 x3 x4 x5 x6 x7 x8 x9 x10 x11 b (((p1+i+1:Nat):Int)) x14 x15 x16 (tab (2*m.P*4) (bG b m p0 p1 i)) ((i:Int)) (bitV b m p1 i) 0=_ at h6
  unfold q4k qae
  simp only[q0g,i2,i1,dT,cT,r,y5,h6]
  rw[q0j (by omega),q03 fun j hj=>show(if j/4=i then 2*bG b m p0 p1 i j+bitV b m p1 i else bG b m p0 p1 i j)=bG b m p0 p1 (i+1) j by
   unfold bG
   by_cases h:j/4=i
   ·rw[iP h,iN (by omega),iP (by omega),h]
   ·rw[iN h]
    by_cases h2:j/4<i
    ·rw[iP h2,iP (by omega)]
    ·rw[iN h2,iN (by omega)]]
  exact ih (i+1) k (by omega) (by omega)
theorem rl10_all(x0:LI)(x1:LI)(x2:Int)(x3:Int)(x4:Int)(x5:Int)(x6:Int)(x7:Int)(x8:Int)(x9:Int)(x10:Int)(x11:Int)(x12:LI)(x13:Int)(x14:Int)(x15:Int)(x16:Int){E i:Nat}(g:Nat→Int)(v:Int)(hg:∀j,0≤g j∧g j<1000)(hv:0≤v∧v≤1)(hi:i+1<E)(hE:E≤100):
  ∀(d c k:Nat),c+d=4→d<k→q2p 600 k x0 x1 x2 x3 x4 x5 x6 x7 x8 x9 x10 x11 x12 x13 x14 x15 x16 (tab (E*4) fun j=>if(j/4=i∨j/4=i+1)∧j%4<c then 2*g j+v else g j) ((i:Int)) v ((c:Int))=some (x0,x1,x2,x3,x4,x5,x6,x7,x8,x9,x10,x11,x12,x13,x14,x15,x16,tab (E*4) fun j=>if j/4=i∨j/4=i+1 then 2*g j+v else g j,(i:Int),()):=by
 intro d
 induction d with
 |zero=>
  intro c k h1 h2
  obtain⟨k,rfl⟩:∃k',k=k' +1:=⟨k-1,by omega⟩
  obtain rfl:c=4:=by omega
  unfold q2p q94
  have i4:¬(((4:Nat):Int)<4):=by omega
  simp only[i4,dF,cF]
  rw[q03 fun j hj=>show(if(j/4=i∨j/4=i+1)∧j%4<4 then 2*g j+v else g j)=if j/4=i∨j/4=i+1 then 2*g j+v else g j by
   have:j%4<4:=Nat.mod_lt _ (by decide)
   simp only[this,and_true]]
 |succ d ih=>
  intro c k h1 h2
  obtain⟨k,rfl⟩:∃k',k=k' +1:=⟨k-1,by omega⟩
  have hc:c<4:=by omega
  have i1:(c:Int)<4:=by omega
  have i2:(E*4)/4=E:=by omega
  have i3:(i:Int)<(E:Int):=by omega
  have i4:((i+1:Nat):Int)<(E:Int):=by omega
  have e1:y0 .i64 ((i:Int)+1)=((i+1:Nat):Int):=q0j (by omega)
  have e2:y0 .i64 ((c:Int)+1)=((c+1:Nat):Int):=q0j (by omega)
  have n1:¬(i+1)*4+c=i*4+c:=by omega
  have n2:¬(((i*4+c)/4=i∨(i*4+c)/4=i+1)∧(i*4+c)%4<c):=by omega
  have n3:¬((((i+1)*4+c)/4=i∨((i+1)*4+c)/4=i+1)∧((i+1)*4+c)%4<c):=by omega
  unfold q2p q94
  simp only[q0g,i2,i1,i3,e1,e2,i4,dT,cT,yc,yd,yb,q0d (show i*4+c<E*4 by omega),q4u,q0d (show(i+1)*4+c<E*4 by omega),n1,n2,n3,if_false,wrap2 (x:=g (i*4+c)) (v:=v) (by have:=hg (i*4+c);omega) hv,wrap2 (x:=g ((i+1)*4+c)) (v:=v) (by have:=hg ((i+1)*4+c);omega) hv]
  rw[q03 fun j hj=>show(if j=(i+1)*4+c then 2*g ((i+1)*4+c)+v else if j=i*4+c then 2*g (i*4+c)+v else if(j/4=i∨j/4=i+1)∧j%4<c then 2*g j+v else g j)=if(j/4=i∨j/4=i+1)∧j%4<c+1 then 2*g j+v else g j by
   by_cases h0:j=(i+1)*4+c
   ·rw[iP h0,iP (by omega),h0]
   ·rw[iN h0]
    by_cases h:j=i*4+c
    ·rw[iP h,iP (by omega),h]
    ·rw[iN h]
     by_cases h5:(j/4=i∨j/4=i+1)∧j%4<c
     ·rw[iP h5,iP (by omega)]
     ·rw[iN h5,iN (by omega)]]
  exact ih (c+1) k (by omega) (by omega)
theorem rl8_all{b:LI}(hb:Bytes b)(hl:b.length=16)(x0:LI)(x1:LI)(x2:Int)(x3:Int)(x4:Int)(x5:Int)(x6:Int)(x7:Int)(x8:Int)(x9:Int)(x10:Int)(x11:Int)(x14:Int)(x15:Int)(x16:Int){m:BM}(ok:m.Ok)(ho:m.o=1)(p0 p1:Nat)(hp:p1+m.P≤128):
  ∀(d t k:Nat),t+d=m.P→d<k→q3b 600 k x0 x1 x2 x3 x4 x5 x6 x7 x8 x9 x10 x11 b (((p1+t:Nat):Int)) x14 x15 x16 (tab (2*m.P*4) (bG b m p0 p1 (2*t))) (((2*t:Nat):Int))=some (x0,x1,x2,x3,x4,x5,x6,x7,x8,x9,x10,x11,b,((p1+m.P:Nat):Int),x14,x15,x16,tab (2*m.P*4) (bG b m p0 p1 (2*m.P)),()):=by
 intro d
 induction d with
 |zero=>
  intro t k h1 h2
  obtain⟨k,rfl⟩:∃k',k=k' +1:=⟨k-1,by omega⟩
  obtain rfl:t=m.P:=by omega
  have i2:(2*m.P*4)/4=2*m.P:=by omega
  unfold q3b qaf
  simp only[q0g,i2,yt,dF,cF]
 |succ d ih=>
  intro t k h1 h2
  obtain⟨k,rfl⟩:∃k',k=k' +1:=⟨k-1,by omega⟩
  have hP3:=ok.P3
  have heo:=ok.eo
  have i2:(2*m.P*4)/4=2*m.P:=by omega
  have i1:((2*t:Nat):Int)<((2*m.P:Nat):Int):=by omega
  have r:q0p 600 b ((p1+t:Nat):Int) (1:Int)=_:=za7 (n:=1) hb hl (by omega) (by omega)
  have hv:lv b (p1+t) 1=bitV b m p1 (2*t):=by
   unfold bitV
   rw[iN (by omega),iP ho,show 2*t/2=t by omega]
  have hv2:bitV b m p1 (2*t+1)=bitV b m p1 (2*t):=by
   unfold bitV
   rw[iN (by omega),iP ho,iN (by omega),iP ho,show(2*t+1)/2=2*t/2 by omega]
  rw[hv]at r
  have hg:∀j,0≤bG b m p0 p1 (2*t) j∧bG b m p0 p1 (2*t) j<1000:=fun j=>by
   have h1:=ze0 b ok p0 j
   have h2:=z8u b m p1 (j/4)
   unfold bG
   split<;>omega
  have h6:=rl10_all x0 x1 x2 x3 x4 x5 x6 x7 x8 x9 x10 x11 b (((p1+t+1:Nat)):Int) x14 x15 x16 (E:=2*m.P) (i:=2*t) (bG b m p0 p1 (2*t)) (bitV b m p1 (2*t)) hg (z8u b m p1 (2*t)) (by omega) (by omega) 4 0 600 (by omega) (by omega)
  simp only[Nat.not_lt_zero,and_false,if_false,show((0:Nat):Int)=0 from rfl]at h6
  change q2p 600 600 x0 x1 x2 x3 x4 x5 x6 x7 x8 x9 x10 x11 b (((p1+t+1:Nat):Int)) x14 x15 x16 (tab (2*m.P*4) (bG b m p0 p1 (2*t))) (((2*t:Nat):Int)) (bitV b m p1 (2*t)) 0=_ at h6
  have e2:y0 .i64 (((2*t:Nat):Int)+2)=((2*(t+1):Nat):Int):=by rw[w64 (by omega) (by omega)];omega
  unfold q3b qaf
  simp only[q0g,i2,i1,dT,cT,r,y5,h6,e2]
  rw[q03 fun j hj=>show(if j/4=2*t∨j/4=2*t+1 then 2*bG b m p0 p1 (2*t) j+bitV b m p1 (2*t)else bG b m p0 p1 (2*t) j)=bG b m p0 p1 (2*(t+1)) j by
   unfold bG
   by_cases h:j/4=2*t∨j/4=2*t+1
   ·rw[iP h,iN (by omega),iP (by omega)]
    rcases h with h|h
    ·rw[h]
    ·rw[h,hv2]
   ·rw[iN h]
    by_cases h2:j/4<2*t
    ·rw[iP h2,iP (by omega)]
    ·rw[iN h2,iN (by omega)]]
  exact ih (t+1) k (by omega) (by omega)
def g1(b:LI)(m:BM)(p0 p1 j:Nat):Int:=2^(m.e+m.o)*e0 b m p0 j+bitV b m p1 (j/4)
theorem zzn(b:LI){m:BM}(ok:m.Ok)(p0 p1 j:Nat):0≤g1 b m p0 p1 j∧g1 b m p0 p1 j<1000:=by
 have h1:=ze0 b ok p0 j
 have h2:=z8u b m p1 (j/4)
 have h3:=ok.eo
 unfold g1
 rcases(by omega:m.e+m.o=0∨m.e+m.o=1)with h|h<;>rw[h]<;>omega
def vG(b:LI)(m:BM)(p0 p1 i j:Nat):Int:=if j/4<i then eF b m p0 p1 j else g1 b m p0 p1 j
theorem rl14_all(b:LI)(x0:LI)(x1:LI)(x2:Int)(x3:Int)(x4:Int)(x5:Int)(x7:Int)(x8:Int)(x9:Int)(x10:Int)(x11:Int)(x12:LI)(x13:Int)(x14:Int)(x15:Int)(x16:Int){m:BM}(ok:m.Ok)(p0 p1:Nat){i:Nat}(hi:i<2*m.P):
  ∀(d c k:Nat),c+d=3→d<k→q2q 600 k x0 x1 x2 x3 x4 x5 ((m.C:Int)) x7 x8 x9 x10 x11 x12 x13 x14 x15 x16 (tab (2*m.P*4) fun j=>if j/4=i∧j%4<c then eF b m p0 p1 j else vG b m p0 p1 i j) (((m.e+m.o:Nat):Int)) ((i:Int)) ((c:Int))=some (x0,x1,x2,x3,x4,x5,(m.C:Int),x7,x8,x9,x10,x11,x12,x13,x14,x15,x16,tab (2*m.P*4) fun j=>if j/4=i∧j%4<3 then eF b m p0 p1 j else vG b m p0 p1 i j,((m.e+m.o:Nat):Int),(i:Int),()):=by
 intro d
 induction d with
 |zero=>
  intro c k h1 h2
  obtain⟨k,rfl⟩:∃k',k=k' +1:=⟨k-1,by omega⟩
  obtain rfl:c=3:=by omega
  unfold q2q q95
  have i4:¬(((3:Nat):Int)<3):=by omega
  simp only[i4,dF,cF]
 |succ d ih=>
  intro c k h1 h2
  obtain⟨k,rfl⟩:∃k',k=k' +1:=⟨k-1,by omega⟩
  have hc:c<4:=by omega
  have hP3:=ok.P3
  have hC1:=ok.C1
  have hCe:=ok.Ce
  have hb1:=zzn b ok p0 p1 (i*4+c)
  have i1:(c:Int)<3:=by omega
  have i1' :(c:Int)<4:=by omega
  have i2:(2*m.P*4)/4=2*m.P:=by omega
  have i3:(i:Int)<((2*m.P:Nat):Int):=by omega
  have ew:y0 .i64 ((m.C:Int)+((m.e+m.o:Nat):Int))=((m.C+(m.e+m.o):Nat):Int):=by rw[w64 (by omega) (by omega)];omega
  have ev:(if(i*4+c)/4=i∧(i*4+c)%4<c then eF b m p0 p1 (i*4+c)else vG b m p0 p1 i (i*4+c))=g1 b m p0 p1 (i*4+c):=by
   rw[iN (by omega)]
   unfold vG
   rw[iN (by omega)]
  have ee:q3z (m.C+(m.e+m.o)) (g1 b m p0 p1 (i*4+c))=eF b m p0 p1 (i*4+c):=by
   unfold eF g1
   rw[iN (by omega)]
  unfold q2q q95
  simp only[q0g,i2,i1,i1',i3,dT,cT,yc,yd,yb,q0d (show i*4+c<2*m.P*4 by omega),ev,ew]
  rw[qrc (by omega) (by omega) (by omega),ee]
  simp only[y5]
  rw[q0j (by omega),q4u]
  rw[q03 fun j hj=>show(if j=i*4+c then eF b m p0 p1 (i*4+c)else if j/4=i∧j%4<c then eF b m p0 p1 j else vG b m p0 p1 i j)=if j/4=i∧j%4<c+1 then eF b m p0 p1 j else vG b m p0 p1 i j by
   by_cases h:j=i*4+c
   ·rw[iP h,iP (by omega),h]
   ·rw[iN h]
    by_cases h5:j/4=i∧j%4<c
    ·rw[iP h5,iP (by omega)]
    ·rw[iN h5,iN (by omega)]]
  exact ih (c+1) k (by omega) (by omega)
theorem rl12_all(b:LI)(x0:LI)(x1:LI)(x2:Int)(x3:Int)(x4:Int)(x5:Int)(x8:Int)(x9:Int)(x10:Int)(x11:Int)(x12:LI)(x13:Int)(x14:Int)(x15:Int)(x16:Int){m:BM}(ok:m.Ok)(p0 p1:Nat):
  ∀(d i k:Nat),i+d=2*m.P→d<k→q1r 600 k x0 x1 x2 x3 x4 x5 ((m.C:Int)) ((m.A:Int)) x8 x9 x10 x11 x12 x13 x14 x15 x16 (tab (2*m.P*4) (vG b m p0 p1 i)) (((m.e+m.o:Nat):Int)) ((i:Int))=some (x0,x1,x2,x3,x4,x5,(m.C:Int),(m.A:Int),x8,x9,x10,x11,x12,x13,x14,x15,x16,tab (2*m.P*4) (eF b m p0 p1),()):=by
 intro d
 induction d with
 |zero=>
  intro i k h1 h2
  obtain⟨k,rfl⟩:∃k',k=k' +1:=⟨k-1,by omega⟩
  obtain rfl:i=2*m.P:=by omega
  have i2:(2*m.P*4)/4=2*m.P:=by omega
  unfold q1r q96
  simp only[q0g,i2,yt,dF,cF]
  rw[q03 fun j hj=>show vG b m p0 p1 (2*m.P) j=eF b m p0 p1 j by
   unfold vG
   rw[iP (by omega)]]
 |succ d ih=>
  intro i k h1 h2
  obtain⟨k,rfl⟩:∃k',k=k' +1:=⟨k-1,by omega⟩
  have hi:i<2*m.P:=by omega
  have hP3:=ok.P3
  have hA8:=ok.A8
  have hAe:=ok.Ae
  have i2:(2*m.P*4)/4=2*m.P:=by omega
  have i3:(i:Int)<((2*m.P:Nat):Int):=by omega
  have h14:=rl14_all b x0 x1 x2 x3 x4 x5 (m.A:Int) x8 x9 x10 x11 x12 x13 x14 x15 x16 ok p0 p1 hi 3 0 600 (by omega) (by omega)
  simp only[Nat.not_lt_zero,and_false,if_false,yq]at h14
  change q2q 600 600 x0 x1 x2 x3 x4 x5 ((m.C:Int)) ((m.A:Int)) x8 x9 x10 x11 x12 x13 x14 x15 x16 (tab (2*m.P*4) (vG b m p0 p1 i)) (((m.e+m.o:Nat):Int)) ((i:Int)) 0=_ at h14
  unfold q1r q96
  simp only[q0g,i2,i3,dT,cT,yc,yd,yb,y5,h14]
  by_cases hA:m.A=0
  ·simp only[beqT (show((m.A:Nat):Int)=0 by omega),cT,q4u]
   rw[q0j (by omega),q03 fun j hj=>show(if j=3+i*4 then 255 else if j/4=i∧j%4<3 then eF b m p0 p1 j else vG b m p0 p1 i j)=vG b m p0 p1 (i+1) j by
    unfold vG
    by_cases h3:j=3+i*4
    ·rw[iP h3,iP (by omega)]
     unfold eF
     rw[iP (by omega),iP hA]
    ·rw[iN h3]
     by_cases h:j/4=i∧j%4<3
     ·rw[iP h,iP (by omega)]
     ·rw[iN h]
      by_cases h2:j/4<i
      ·rw[iP h2,iP (by omega)]
      ·rw[iN h2,iN (by omega)]]
   exact ih (i+1) k (by omega) (by omega)
  ·have hb1:=zzn b ok p0 p1 (3+i*4)
   have ew:y0 .i64 ((m.A:Int)+((m.e+m.o:Nat):Int))=((m.A+(m.e+m.o):Nat):Int):=by rw[w64 (by omega) (by omega)];omega
   have ev:(if(3+i*4)/4=i∧(3+i*4)%4<3 then eF b m p0 p1 (3+i*4)else vG b m p0 p1 i (3+i*4))=g1 b m p0 p1 (3+i*4):=by
    rw[iN (by omega)]
    unfold vG
    rw[iN (by omega)]
   have ee:q3z (m.A+(m.e+m.o)) (g1 b m p0 p1 (3+i*4))=eF b m p0 p1 (3+i*4):=by
    unfold eF g1
    rw[iP (by omega),iN hA]
   simp only[beqF (show((m.A:Nat):Int)≠0 by omega),cF,q0d (show 3+i*4<2*m.P*4 by omega),ev,ew]
   rw[qrc (by omega) (by omega) (by omega),ee]
   simp only[y5]
   rw[q0j (by omega),q4u,q03 fun j hj=>show(if j=3+i*4 then eF b m p0 p1 (3+i*4)else if j/4=i∧j%4<3 then eF b m p0 p1 j else vG b m p0 p1 i j)=vG b m p0 p1 (i+1) j by
    unfold vG
    by_cases h3:j=3+i*4
    ·rw[iP h3,iP (by omega),h3]
    ·rw[iN h3]
     by_cases h:j/4=i∧j%4<3
     ·rw[iP h,iP (by omega)]
     ·rw[iN h]
      by_cases h2:j/4<i
      ·rw[iP h2,iP (by omega)]
      ·rw[iN h2,iN (by omega)]]
   exact ih (i+1) k (by omega) (by omega)
theorem rl18_all(x0:LI)(x1:LI)(x3:Int)(x4:Int)(x5:Int)(x6:Int)(x7:Int)(x8:Int)(x9:Int)(x10:Int)(x11:Int)(x12:LI)(x13:Int)(x15:Int)(x16:Int)(x17:LI)(x18:LI)(x19:LI){P w i:Nat}(h3:P≤3)(hw:w<64):
  ∀(d p k:Nat),p+d=P→1≤p→d<k→q1s 600 k x0 x1 ((P:Int)) x3 x4 x5 x6 x7 x8 x9 x10 x11 x12 x13 ((w:Int)) x15 x16 x17 x18 x19 ((i:Int)) (if z32 P w i p then 1 else 0) ((p:Int))=some (x0,x1,(P:Int),x3,x4,x5,x6,x7,x8,x9,x10,x11,x12,x13,(w:Int),x15,x16,x17,x18,x19,(i:Int),if z32 P w i P then 1 else 0,()):=by
 intro d
 induction d with
 |zero=>
  intro p k h1 hp h2
  obtain⟨k,rfl⟩:∃k',k=k' +1:=⟨k-1,by omega⟩
  obtain rfl:p=P:=by omega
  unfold q1s q97
  simp only[yt,dF,cF]
 |succ d ih=>
  intro p k h1 hp h2
  obtain⟨k,rfl⟩:∃k',k=k' +1:=⟨k-1,by omega⟩
  have i1:(p:Int)<(P:Int):=by omega
  have fin:=ih (p+1) k (by omega) (by omega) (by omega)
  rw[znu hp]at fin
  unfold q1s q97
  simp only[i1,dT,cT]
  rw[q0j (by omega),(anch9 h3 hw hp (by omega)).2]
  simp only[y5,beqN]
  cases h:(zmw P w p==i)
  ·rw[h,Bool.or_false]at fin
   simp only[cF]
   exact fin
  ·rw[h,Bool.or_true]at fin
   simp only[cT]
   exact fin
theorem j4b(P w i:Nat):(if z32 P w i P then(1:Int)else 0)=(qin P w i:Int):=by
 unfold qin ancB
 rw[show((i==0)||((yy P).any fun p=>decide (1≤p)&&(zmw P w p==i)))=z32 P w i P from rfl]
 cases z32 P w i P<;>rfl
theorem rl16_all{b:LI}(hb:Bytes b)(hl:b.length=16)(x0:LI)(x1:LI)(x3:Int)(x4:Int)(x5:Int)(x6:Int)(x7:Int)(x8:Int)(x9:Int)(x11:Int)(x15:Int)(x16:Int)(x17:LI)(x19:LI){P w f p2:Nat}(hP1:1≤P)(h3:P≤3)(hw:w<64)(hf:2≤f∧f≤4)(hp:posF P w f p2 16≤128):
  ∀(d i k:Nat),i+d=16→d<k→q1t 600 k x0 x1 ((P:Int)) x3 x4 x5 x6 x7 x8 x9 ((f:Int)) x11 b (((posF P w f p2 i:Nat):Int)) ((w:Int)) x15 x16 x17 (tab 16 (upT i (qhv b P w f p2))) x19 ((i:Int))=some (x0,x1,(P:Int),x3,x4,x5,x6,x7,x8,x9,(f:Int),x11,b,((posF P w f p2 16:Nat):Int),(w:Int),x15,x16,x17,tab 16 (qhv b P w f p2),x19,()):=by
 intro d
 induction d with
 |zero=>
  intro i k h1 h2
  obtain⟨k,rfl⟩:∃k',k=k' +1:=⟨k-1,by omega⟩
  obtain rfl:i=16:=by omega
  unfold q1t q98
  have:¬(((16:Nat):Int)<16):=by omega
  simp only[this,dF,cF,qhl]
 |succ d ih=>
  intro i k h1 h2
  obtain⟨k,rfl⟩:∃k',k=k' +1:=⟨k-1,by omega⟩
  have i1:(i:Int)<16:=by omega
  have hm:=zv0 P w f p2 (show i+1≤16 by omega)
  have hle:=zzi P w i
  have en:y0 .i64 ((f:Int)-(qin P w i:Int))=((f-qin P w i:Nat):Int):=by
   rw[w64 (by omega) (by omega)]
   omega
  have e1:posF P w f p2 (i+1)=posF P w f p2 i+(f-qin P w i):=rfl
  have r:=za7 hb hl (a:=posF P w f p2 i) (n:=f-qin P w i) (by omega) (by omega)
  rw[←e1,show lv b (posF P w f p2 i) (f-qin P w i)=qhv b P w f p2 i from rfl]at r
  have h18:=rl18_all x0 x1 x3 x4 x5 x6 x7 x8 x9 ((f:Int)) x11 b (((posF P w f p2 i:Nat):Int)) x15 x16 x17 (tab 16 (upT i (qhv b P w f p2))) x19 (i:=i) h3 hw (P-1) 1 600 (by omega) (by omega) (by omega)
  rw[zv7,j4b]at h18
  have fin:=ih (i+1) k (by omega) (by omega)
  unfold q1t q98
  by_cases h0:i=0
  ·subst h0
   have h18' :q1s 600 600 x0 x1 ((P:Int)) x3 x4 x5 x6 x7 x8 x9 ((f:Int)) x11 b (((posF P w f p2 0:Nat):Int)) ((w:Int)) x15 x16 x17 (tab 16 (upT 0 (qhv b P w f p2))) x19 (((0:Nat):Int)) 1 1=some (x0,x1,(P:Int),x3,x4,x5,x6,x7,x8,x9,(f:Int),x11,b,((posF P w f p2 0:Nat):Int),(w:Int),x15,x16,x17,tab 16 (upT 0 (qhv b P w f p2)),x19,((0:Nat):Int),(qin P w 0:Int),()):=h18
   simp only[i1,dT,cT,beqT (show((0:Nat):Int)=0 from rfl),yc,yd,yb,h18',y5,en,r]
   rw[q0j (by omega),qes]
   exact fin
  ·have h18' :q1s 600 600 x0 x1 ((P:Int)) x3 x4 x5 x6 x7 x8 x9 ((f:Int)) x11 b (((posF P w f p2 i:Nat):Int)) ((w:Int)) x15 x16 x17 (tab 16 (upT i (qhv b P w f p2))) x19 (((i:Nat):Int)) 0 1=some (x0,x1,(P:Int),x3,x4,x5,x6,x7,x8,x9,(f:Int),x11,b,((posF P w f p2 i:Nat):Int),(w:Int),x15,x16,x17,tab 16 (upT i (qhv b P w f p2)),x19,((i:Nat):Int),(qin P w i:Int),()):=by
    have hz:(i==0)=false:=by simp[h0]
    rw[hz]at h18
    exact h18
   simp only[i1,dT,cT,beqF (show((i:Nat):Int)≠0 by omega),cF,yc,yd,yb,h18',y5,en,r]
   rw[q0j (by omega),qes]
   exact fin
theorem j4c(x0:LI)(x1:LI)(x2:Int)(x3:Int)(x4:Int)(x5:Int)(x6:Int)(x7:Int)(x8:Int)(x9:Int)(x10:Int)(x12:LI)(x13:Int)(x14:Int)(x15:Int)(x16:Int)(x17:LI)(x18:LI)(x19:LI)(k:Nat):q10 600 (k+1) x0 x1 x2 x3 x4 x5 x6 x7 x8 x9 x10 (((0:Nat):Int)) x12 x13 x14 x15 x16 x17 x18 x19 0=some (x0,x1,x2,x3,x4,x5,x6,x7,x8,x9,x10,((0:Nat):Int),x14,x15,x16,x17,x18,x19,()):=by
 unfold q10 q6h
 have:¬(0:Int)<((0:Nat):Int):=by omega
 simp only[this,dF,cF]
 cases decide ((0:Int)<16)<;>rfl
theorem rl20_all{b:LI}(hb:Bytes b)(hl:b.length=16)(x0:LI)(x1:LI)(x2:Int)(x3:Int)(x4:Int)(x5:Int)(x6:Int)(x7:Int)(x8:Int)(x9:Int)(x10:Int)(x14:Int)(x15:Int)(x16:Int)(x17:LI)(x18:LI){s p3:Nat}(hs:2≤s∧s≤3)(hp:p3+(16*s-1)≤128):
  ∀(d i k:Nat),i+d=16→d<k→q10 600 k x0 x1 x2 x3 x4 x5 x6 x7 x8 x9 x10 ((s:Int)) b (((posS s p3 i:Nat):Int)) x14 x15 x16 x17 x18 (tab 16 (upT i (secV b s p3))) ((i:Int))=some (x0,x1,x2,x3,x4,x5,x6,x7,x8,x9,x10,(s:Int),x14,x15,x16,x17,x18,tab 16 (secV b s p3),()):=by
 intro d
 induction d with
 |zero=>
  intro i k h1 h2
  obtain⟨k,rfl⟩:∃k',k=k' +1:=⟨k-1,by omega⟩
  obtain rfl:i=16:=by omega
  unfold q10 q6h
  have:¬(((16:Nat):Int)<16):=by omega
  simp only[this,dF,cF,qhl]
 |succ d ih=>
  intro i k h1 h2
  obtain⟨k,rfl⟩:∃k',k=k' +1:=⟨k-1,by omega⟩
  have i1:(i:Int)<16:=by omega
  have hle:(if i=0 then 1 else 0:Nat)≤1:=by split<;>omega
  have e1:=zv9 (p3:=p3) (i:=i) hs.1
  have hm:posS s p3 (i+1)≤128:=by
   unfold posS
   rw[iN (by omega)]
   have:=Nat.mul_le_mul_right s (show i+1≤16 by omega)
   omega
  have es:secV b s p3 i=lv b (posS s p3 i) (s-(if i=0 then 1 else 0)):=by
   unfold secV
   exact iN (by omega)
  have r:=za7 hb hl (a:=posS s p3 i) (n:=s-(if i=0 then 1 else 0)) (by omega) (by omega)
  rw[←e1,←es]at r
  have is:(0:Int)<(s:Int):=by omega
  have fin:=ih (i+1) k (by omega) (by omega)
  unfold q10 q6h
  by_cases h0:i=0
  ·subst h0
   have ew:y0 .i64 ((s:Int)-1)=((s-1:Nat):Int):=by rw[w64 (by omega) (by omega)];omega
   rw[iP rfl]at r
   simp only[i1,is,dT,cT,beqT (show((0:Nat):Int)=0 from rfl),yc,yd,yb,ew,r,y5]
   rw[q0j (by omega),qes]
   exact fin
  ·have ew:y0 .i64 ((s:Int)-0)=((s-0:Nat):Int):=by rw[w64 (by omega) (by omega)];omega
   rw[iN h0]at r
   simp only[i1,is,dT,cT,beqF (show((i:Nat):Int)≠0 by omega),cF,yc,yd,yb,ew,r,y5]
   rw[q0j (by omega),qes]
   exact fin
theorem zro(x0:LI)(x2:Int)(x3:Int)(x4:Int)(x5:Int)(x6:Int)(x7:Int)(x8:Int)(x9:Int)(x10:Int)(x11:Int)(x12:Int)(x13:Int)(x14:Int)(x15:LI)(x16:LI)(x17:LI)(x23:Int)(x24:Int){a z g q:Nat→Int}{p:Int}{n i:Nat}(hi:i<16)(hg:∀c,c<3→q6g 600 (a c) (z c) p (n:Int)=some (g c,())):
  ∀(d c k:Nat),c+d=3→d<k→q11 600 k x0 (tab 64 fun j=>if j/4=i∧j%4<c then g (j%4)else q j) x2 x3 x4 x5 x6 x7 x8 x9 x10 x11 x12 x13 x14 x15 x16 x17 ((i:Int)) (tab 4 a) (tab 4 z) p ((n:Int)) x23 x24 ((c:Int))=some (x0,tab 64 fun j=>if j/4=i∧j%4<3 then g (j%4)else q j,x2,x3,x4,x5,x6,x7,x8,x9,x10,x11,x12,x13,x14,x15,x16,x17,(i:Int),tab 4 a,tab 4 z,x23,x24,()):=by
 intro d
 induction d with
 |zero=>
  intro c k h1 h2
  obtain⟨k,rfl⟩:∃k',k=k' +1:=⟨k-1,by omega⟩
  obtain rfl:c=3:=by omega
  unfold q11 q99
  have:¬(((3:Nat):Int)<3):=by omega
  simp only[this,dF,cF]
 |succ d ih=>
  intro c k h1 h2
  obtain⟨k,rfl⟩:∃k',k=k' +1:=⟨k-1,by omega⟩
  have i1:(c:Int)<3:=by omega
  have i2:(c:Int)<4:=by omega
  have i3:(i:Int)<16:=by omega
  unfold q11 q99
  simp only[i1,i2,i3,dT,cT,yc,yd,yb,q0d (show c<4 by omega),hg c (by omega),y5,q4u]
  rw[q0j (by omega),q03 fun j hj=>show(if j=i*4+c then g c else if j/4=i∧j%4<c then g (j%4)else q j)=if j/4=i∧j%4<c+1 then g (j%4)else q j by
   by_cases h:j=i*4+c
   ·rw[iP h,iP (by omega),show j%4=c by omega]
   ·rw[iN h]
    by_cases h5:j/4=i∧j%4<c
    ·rw[iP h5,iP (by omega)]
    ·rw[iN h5,iN (by omega)]]
  exact ih (c+1) k (by omega) (by omega)
theorem out3{q:Nat→Int}(g:Nat→Int){i:Nat}(hi:i<16):(tab 64 fun j=>if j/4=i∧j%4<3 then g (j%4)else q j).set (3+i*4) (g 3)=tab 64 fun j=>if j/4=i then g (j%4)else q j:=by
 rw[q4u]
 refine q03 fun j hj=> ?_
 by_cases h3:j=3+i*4
 ·rw[iP h3,iP (by omega),show j%4=3 by omega]
 ·rw[iN h3]
  by_cases h:j/4=i∧j%4<3
  ·rw[iP h,iP h.1]
  ·rw[iN h,iN (by omega)]
theorem zrp{q:Nat→Int}(g:Nat→Int){i:Nat}(hi:i<16){t:Int}(ht:0≤t∧t<4)(h:0<t):
  yw (yw (tab 64 fun j=>if j/4=i then g (j%4)else q j) (3+i*4) (y7 (tab 64 fun j=>if j/4=i then g (j%4)else q j) (i*4+(t-1).toNat) 0)) (i*4+(t-1).toNat) (y7 (tab 64 fun j=>if j/4=i then g (j%4)else q j) (3+i*4) 0)
   =tab 64 fun j=>if j/4=i then z5t t g (j%4)else q j:=by
 have e:(t-1).toNat=t.toNat-1:=by omega
 have ht3:t.toNat-1<3:=by omega
 rw[e,q0d (by omega),q0d (by omega),q4u,q4u]
 refine q03 fun j hj=> ?_
 rw[show(i*4+(t.toNat-1))%4=t.toNat-1 by omega,show(3+i*4)%4=3 by omega,show(i*4+(t.toNat-1))/4=i by omega,show(3+i*4)/4=i by omega,iP rfl,iP rfl]
 unfold z5t
 rw[iP h]
 by_cases h1:j/4=i
 ·rw[iP h1,iP h1]
  by_cases h2:j=i*4+(t.toNat-1)
  ·rw[iP h2,iP (by omega)]
  ·rw[iN h2]
   by_cases h3:j=3+i*4
   ·rw[iP h3,iN (by omega),iP (by omega)]
   ·rw[iN h3,iN (by omega),iN (by omega)]
 ·rw[iN h1,iN h1,iN (by omega),iN (by omega)]
theorem qz6(b:LI)(m:BM){i:Nat}(hi:i<16):(tab 64 fun j=>if j/4=i then texV b m i (j%4)else upT (i*4) (decF b m) j)=tab 64 (upT ((i+1)*4) (decF b m)):=by
 refine q03 fun j hj=> ?_
 unfold upT decF
 by_cases h:j/4=i
 ·rw[iP h,iP (by omega),h]
 ·rw[iN h]
  by_cases h2:j<i*4
  ·rw[iP h2,iP (by omega)]
  ·rw[iN h2,iN (by omega)]
theorem rl22_all(b:LI){m:BM}(ok:m.Ok)(x0:LI):
  ∀(d i k:Nat),i+d=16→d<k→q1u 600 k x0 (tab 64 (upT (i*4) (decF b m))) ((m.P:Int)) ((m.W:Int)) ((m.T:Int)) ((m.H:Int)) ((m.C:Int)) ((m.A:Int)) ((m.e:Int)) ((m.o:Int)) ((m.f:Int)) ((m.s:Int)) ((wN b m:Int)) (tN b m) (cN b m) (tab (2*m.P*4) (endF b m)) (tab 16 (firF b m)) (tab 16 (secF b m)) ((i:Int))=some (x0,tab 64 (decF b m),()):=by
 intro d
 induction d with
 |zero=>
  intro i k h1 h2
  obtain⟨k,rfl⟩:∃k',k=k' +1:=⟨k-1,by omega⟩
  obtain rfl:i=16:=by omega
  unfold q1u q9a
  have:¬(((16:Nat):Int)<16):=by omega
  simp only[this,dF,cF]
  rw[show 16*4=64 from rfl,qhl]
 |succ d ih=>
  intro i k h1 h2
  obtain⟨k,rfl⟩:∃k',k=k' +1:=⟨k-1,by omega⟩
  have hi:i<16:=by omega
  have fin:=ih (i+1) k (by omega) (by omega)
  obtain⟨_,q2,q3⟩:=part9 ok.P1 ok.P3 (j48 b ok).2 hi
  have hP3:=ok.P3
  have ht:=zzm b ok
  have hcol:=zxh b ok i
  have halp:=zxi b ok i
  have i2:(2*m.P*4)/4=2*m.P:=by omega
  have e1:y0 .i64 (2*((q4v m.P (wN b m) i:Nat):Int))=((2*q4v m.P (wN b m) i:Nat):Int):=by rw[w64 (by omega) (by omega)];omega
  have e2:y0 .i64 (((2*q4v m.P (wN b m) i:Nat):Int)+1)=((2*q4v m.P (wN b m) i+1:Nat):Int):=q0j (by omega)
  have i3:((2*q4v m.P (wN b m) i:Nat):Int)<((2*m.P:Nat):Int):=by omega
  have i4:((2*q4v m.P (wN b m) i+1:Nat):Int)<((2*m.P:Nat):Int):=by omega
  have i5:(i:Int)<16:=by omega
  have r1:y8 4 (y9 (2*q4v m.P (wN b m) i*4) (tab (2*m.P*4) (endF b m)))=tab 4 (aF b m i):=qaq (by omega)
  have r2:y8 4 (y9 ((2*q4v m.P (wN b m) i+1)*4) (tab (2*m.P*4) (endF b m)))=tab 4 (z9F b m i):=qaq (by omega)
  unfold q1u q9a
  simp only[q2,y5,q0g,i2,e1,e2,i3,i4,i5,r1,r2,dT,cT,yc,yd,yb,q0d hi]
  by_cases hs:m.s=0
  ·have g1:¬(0:Int)<(m.s:Int):=by omega
   have hc1:colP b m i=(firF b m i,m.f):=iN (by omega)
   have ha1:alpP b m i=(firF b m i,m.f):=iN (by omega)
   rw[hc1]at hcol
   rw[ha1]at halp
   have g2:=beqF (show cN b m≠1 by
    have:=q3y b (m.base+m.W+m.T) m.H
    rw[ok.Hs hs]at this
    unfold cN
    rw[ok.Hs hs]
    omega)
   have h24:=zro x0 ((m.P:Int)) ((m.W:Int)) ((m.T:Int)) ((m.H:Int)) ((m.C:Int)) ((m.A:Int)) ((m.e:Int)) ((m.o:Int)) ((m.f:Int)) ((m.s:Int)) ((wN b m:Int)) (tN b m) (cN b m) (tab (2*m.P*4) (endF b m)) (tab 16 (firF b m)) (tab 16 (secF b m)) (firF b m i) ((m.f:Int)) (a:=aF b m i) (z:=z9F b m i) (g:=preV b m i) (q:=upT (i*4) (decF b m)) (p:=firF b m i) (n:=m.f) hi (fun c hc=>by
    have:=(mix9 (q0r b ok (2*q4v m.P (wN b m) i*4+c)) (q0r b ok ((2*q4v m.P (wN b m) i+1)*4+c)) hcol.1 hcol.2).2
    unfold preV
    rw[iN (by omega),hc1]
    exact this) 3 0 600 (by omega) (by omega)
   have m3:=(mix9 (q0r b ok (2*q4v m.P (wN b m) i*4+3)) (q0r b ok ((2*q4v m.P (wN b m) i+1)*4+3)) halp.1 halp.2).2
   have p3:mx (aF b m i 3) (z9F b m i 3) (firF b m i) (m.f)=preV b m i 3:=by
    unfold preV
    rw[iP rfl,ha1]
   change q6g 600 (aF b m i 3) (z9F b m i 3) (firF b m i) (m.f:Int)=some (mx (aF b m i 3) (z9F b m i 3) (firF b m i) (m.f),())at m3
   rw[p3]at m3
   simp only[Nat.not_lt_zero,and_false,if_false,show((0:Nat):Int)=0 from rfl]at h24
   change q11 600 600 x0 (tab 64 (upT (i*4) (decF b m))) ((m.P:Int)) ((m.W:Int)) ((m.T:Int)) ((m.H:Int)) ((m.C:Int)) ((m.A:Int)) ((m.e:Int)) ((m.o:Int)) ((m.f:Int)) ((m.s:Int)) ((wN b m:Int)) (tN b m) (cN b m) (tab (2*m.P*4) (endF b m)) (tab 16 (firF b m)) (tab 16 (secF b m)) ((i:Int)) (tab 4 (aF b m i)) (tab 4 (z9F b m i)) (firF b m i) ((m.f:Int)) (firF b m i) ((m.f:Int)) 0=_ at h24
   simp only[g1,g2,i5,dT,dF,cT,cF,yc,yd,h24,y5,q0d (show 3<4 by omega),m3,yb,out3 (preV b m i) hi]
   by_cases h:0<tN b m
   ·have ew:y0 .i64 (tN b m-1)=tN b m-1:=w64 (by omega) (by omega)
    have j1:(0:Int)≤tN b m-1:=by omega
    have j2:tN b m-1<4:=by omega
    simp only[h,dT,cT,ew,j1,j2,yd]
    rw[zrp (preV b m i) hi ht h,q0j (by omega),show(tab 64 fun j=>if j/4=i then z5t (tN b m) (preV b m i) (j%4)else upT (i*4) (decF b m) j)=tab 64 (upT ((i+1)*4) (decF b m))from qz6 b m hi]
    exact fin
   ·simp only[h,dF,cF]
    rw[q0j (by omega),q03 fun j hj=>show(if j/4=i then preV b m i (j%4)else upT (i*4) (decF b m) j)=if j/4=i then texV b m i (j%4)else upT (i*4) (decF b m) j by
     unfold texV z5t
     rw[iN h],qz6 b m hi]
    exact fin
  ·have g1:(0:Int)<(m.s:Int):=by omega
   by_cases hch:cN b m=1
   ·have g2:=beqT hch
    have hc1:colP b m i=(secF b m i,m.s):=iP ⟨hs,hch⟩
    have ha1:alpP b m i=(firF b m i,m.f):=iN (fun h=>h.2 hch)
    rw[hc1]at hcol
    rw[ha1]at halp
    have h24:=zro x0 ((m.P:Int)) ((m.W:Int)) ((m.T:Int)) ((m.H:Int)) ((m.C:Int)) ((m.A:Int)) ((m.e:Int)) ((m.o:Int)) ((m.f:Int)) ((m.s:Int)) ((wN b m:Int)) (tN b m) (cN b m) (tab (2*m.P*4) (endF b m)) (tab 16 (firF b m)) (tab 16 (secF b m)) (firF b m i) ((m.f:Int)) (a:=aF b m i) (z:=z9F b m i) (g:=preV b m i) (q:=upT (i*4) (decF b m)) (p:=secF b m i) (n:=m.s) hi (fun c hc=>by
     have:=(mix9 (q0r b ok (2*q4v m.P (wN b m) i*4+c)) (q0r b ok ((2*q4v m.P (wN b m) i+1)*4+c)) hcol.1 hcol.2).2
     unfold preV
     rw[iN (by omega),hc1]
     exact this) 3 0 600 (by omega) (by omega)
    have m3:=(mix9 (q0r b ok (2*q4v m.P (wN b m) i*4+3)) (q0r b ok ((2*q4v m.P (wN b m) i+1)*4+3)) halp.1 halp.2).2
    have p3:mx (aF b m i 3) (z9F b m i 3) (firF b m i) (m.f)=preV b m i 3:=by
     unfold preV
     rw[iP rfl,ha1]
    change q6g 600 (aF b m i 3) (z9F b m i 3) (firF b m i) (m.f:Int)=some (mx (aF b m i 3) (z9F b m i 3) (firF b m i) (m.f),())at m3
    rw[p3]at m3
    simp only[Nat.not_lt_zero,and_false,if_false,show((0:Nat):Int)=0 from rfl]at h24
    change q11 600 600 x0 (tab 64 (upT (i*4) (decF b m))) ((m.P:Int)) ((m.W:Int)) ((m.T:Int)) ((m.H:Int)) ((m.C:Int)) ((m.A:Int)) ((m.e:Int)) ((m.o:Int)) ((m.f:Int)) ((m.s:Int)) ((wN b m:Int)) (tN b m) (cN b m) (tab (2*m.P*4) (endF b m)) (tab 16 (firF b m)) (tab 16 (secF b m)) ((i:Int)) (tab 4 (aF b m i)) (tab 4 (z9F b m i)) (secF b m i) ((m.s:Int)) (firF b m i) ((m.f:Int)) 0=_ at h24
    simp only[g1,g2,i5,dT,dF,cT,cF,yc,yd,h24,y5,q0d (show 3<4 by omega),m3,yb,out3 (preV b m i) hi]
    by_cases h:0<tN b m
    ·have ew:y0 .i64 (tN b m-1)=tN b m-1:=w64 (by omega) (by omega)
     have j1:(0:Int)≤tN b m-1:=by omega
     have j2:tN b m-1<4:=by omega
     simp only[h,dT,cT,ew,j1,j2,yd]
     rw[zrp (preV b m i) hi ht h,q0j (by omega),show(tab 64 fun j=>if j/4=i then z5t (tN b m) (preV b m i) (j%4)else upT (i*4) (decF b m) j)=tab 64 (upT ((i+1)*4) (decF b m))from qz6 b m hi]
     exact fin
    ·simp only[h,dF,cF]
     rw[q0j (by omega),q03 fun j hj=>show(if j/4=i then preV b m i (j%4)else upT (i*4) (decF b m) j)=if j/4=i then texV b m i (j%4)else upT (i*4) (decF b m) j by
      unfold texV z5t
      rw[iN h],qz6 b m hi]
     exact fin
   ·have g2:=beqF hch
    have hc1:colP b m i=(firF b m i,m.f):=iN (fun h=>hch h.2)
    have ha1:alpP b m i=(secF b m i,m.s):=iP ⟨hs,hch⟩
    rw[hc1]at hcol
    rw[ha1]at halp
    have h24:=zro x0 ((m.P:Int)) ((m.W:Int)) ((m.T:Int)) ((m.H:Int)) ((m.C:Int)) ((m.A:Int)) ((m.e:Int)) ((m.o:Int)) ((m.f:Int)) ((m.s:Int)) ((wN b m:Int)) (tN b m) (cN b m) (tab (2*m.P*4) (endF b m)) (tab 16 (firF b m)) (tab 16 (secF b m)) (secF b m i) ((m.s:Int)) (a:=aF b m i) (z:=z9F b m i) (g:=preV b m i) (q:=upT (i*4) (decF b m)) (p:=firF b m i) (n:=m.f) hi (fun c hc=>by
     have:=(mix9 (q0r b ok (2*q4v m.P (wN b m) i*4+c)) (q0r b ok ((2*q4v m.P (wN b m) i+1)*4+c)) hcol.1 hcol.2).2
     unfold preV
     rw[iN (by omega),hc1]
     exact this) 3 0 600 (by omega) (by omega)
    have m3:=(mix9 (q0r b ok (2*q4v m.P (wN b m) i*4+3)) (q0r b ok ((2*q4v m.P (wN b m) i+1)*4+3)) halp.1 halp.2).2
    have p3:mx (aF b m i 3) (z9F b m i 3) (secF b m i) (m.s)=preV b m i 3:=by
     unfold preV
     rw[iP rfl,ha1]
    change q6g 600 (aF b m i 3) (z9F b m i 3) (secF b m i) (m.s:Int)=some (mx (aF b m i 3) (z9F b m i 3) (secF b m i) (m.s),())at m3
    rw[p3]at m3
    simp only[Nat.not_lt_zero,and_false,if_false,show((0:Nat):Int)=0 from rfl]at h24
    change q11 600 600 x0 (tab 64 (upT (i*4) (decF b m))) ((m.P:Int)) ((m.W:Int)) ((m.T:Int)) ((m.H:Int)) ((m.C:Int)) ((m.A:Int)) ((m.e:Int)) ((m.o:Int)) ((m.f:Int)) ((m.s:Int)) ((wN b m:Int)) (tN b m) (cN b m) (tab (2*m.P*4) (endF b m)) (tab 16 (firF b m)) (tab 16 (secF b m)) ((i:Int)) (tab 4 (aF b m i)) (tab 4 (z9F b m i)) (firF b m i) ((m.f:Int)) (secF b m i) ((m.s:Int)) 0=_ at h24
    simp only[g1,g2,i5,dT,dF,cT,cF,yc,yd,h24,y5,q0d (show 3<4 by omega),m3,yb,out3 (preV b m i) hi]
    by_cases h:0<tN b m
    ·have ew:y0 .i64 (tN b m-1)=tN b m-1:=w64 (by omega) (by omega)
     have j1:(0:Int)≤tN b m-1:=by omega
     have j2:tN b m-1<4:=by omega
     simp only[h,dT,cT,ew,j1,j2,yd]
     rw[zrp (preV b m i) hi ht h,q0j (by omega),show(tab 64 fun j=>if j/4=i then z5t (tN b m) (preV b m i) (j%4)else upT (i*4) (decF b m) j)=tab 64 (upT ((i+1)*4) (decF b m))from qz6 b m hi]
     exact fin
    ·simp only[h,dF,cF]
     rw[q0j (by omega),q03 fun j hj=>show(if j/4=i then preV b m i (j%4)else upT (i*4) (decF b m) j)=if j/4=i then texV b m i (j%4)else upT (i*4) (decF b m) j by
      unfold texV z5t
      rw[iN h],qz6 b m hi]
     exact fin
def g1' (b:LI)(m:BM)(j:Nat):Int:=g1 b m (bp0 m) (bp1 m) j
theorem j17{b:LI}(hb:Bytes b)(hl:b.length=16):qg3 600 b=some (qa5 b,0,()):=by
 have hmd:=qkj (hb.getD 0)
 have hn:(((b.length:Nat):Int) !=16)=false:=by rw[hl];rfl
 unfold qg3 qa5
 rw[hn,rMode_is hb hl]
 simp only[cF,y5]
 by_cases h8:q89 (b.getD 0 0)=8
 ·rw[h8,iP rfl]
  rfl
 rw[iN h8,beqF (by omega)]
 have hk:q89 (b.getD 0 0)<8:=by omega
 generalize q89 (b.getD 0 0)=k at hk
 have ok:=bm_ok hk
 have hbase:(bmOf k).base=k+1:=rfl
 have hrow:=row_is hk
 generalize bmOf k=m at ok hbase hrow
 obtain⟨hP1,hP3,hW6,hT2,hH1,hC1,hC7,hA8,he1,ho1,heo,hCe,hAe,hf2,hf4,hs3,hs0,hHs,hb8,hall⟩:=ok
 have ok:m.Ok:=⟨hP1,hP3,hW6,hT2,hH1,hC1,hC7,hA8,he1,ho1,heo,hCe,hAe,hf2,hf4,hs3,hs0,hHs,hb8,hall⟩
 obtain⟨hw,hw64⟩:=j48 b ok
 obtain⟨h3e,h3⟩:=bp3_le b ok
 have n8:bctable_ModesT298.length/10=8:=rfl
 have i1:(k:Int)<((8:Nat):Int):=by omega
 have g0:(qks m).getD 0 0=(m.P:Int):=rfl
 have g1:(qks m).getD 1 0=(m.W:Int):=rfl
 have g2:(qks m).getD 2 0=(m.T:Int):=rfl
 have g3:(qks m).getD 3 0=(m.H:Int):=rfl
 have g4:(qks m).getD 4 0=(m.C:Int):=rfl
 have g5:(qks m).getD 5 0=(m.A:Int):=rfl
 have g6:(qks m).getD 6 0=(m.e:Int):=rfl
 have g7:(qks m).getD 7 0=(m.o:Int):=rfl
 have g8:(qks m).getD 8 0=(m.f:Int):=rfl
 have g9:(qks m).getD 9 0=(m.s:Int):=rfl
 have e2:y0 .i64 (2*(m.P:Int))=((2*m.P:Nat):Int):=by rw[w64 (by omega) (by omega)];omega
 have r1:=za7 hb hl (a:=m.base) (n:=m.W) (by omega) (by omega)
 have r2:=za7 hb hl (a:=m.base+m.W) (n:=m.T) (by omega) (by omega)
 have r3:=za7 hb hl (a:=m.base+m.W+m.T) (n:=m.H) (by omega) (by omega)
 rw[hw]at r1
 rw[show lv b (m.base+m.W) m.T=tN b m from rfl]at r2
 rw[show lv b (m.base+m.W+m.T) m.H=cN b m from rfl,show m.base+m.W+m.T+m.H=bp0 m from rfl]at r3
 have i2:((2*m.P:Nat):Int)≤1099511627776:=by omega
 have l0:=rl0_all hb hl q01 q01 ((m.P:Int)) ((m.W:Int)) ((m.T:Int)) ((m.H:Int)) ((m.e:Int)) ((m.o:Int)) ((m.f:Int)) ((m.s:Int)) ((wN b m:Int)) (tN b m) (cN b m) ok (p0:=bp0 m) (by unfold bp0;omega) 595
 rw[show(595+5:Nat)=600 from rfl,show bp0 m+6*m.P*m.C+2*m.P*m.A=bp1 m from rfl]at l0
 have l12:=rl12_all b q01 q01 ((m.P:Int)) ((m.W:Int)) ((m.T:Int)) ((m.H:Int)) ((m.e:Int)) ((m.o:Int)) ((m.f:Int)) ((m.s:Int)) b (((bp2 m:Nat):Int)) ((wN b m:Int)) (tN b m) (cN b m) ok (bp0 m) (bp1 m) (2*m.P) 0 600 (by omega) (by omega)
 rw[show tab (2*m.P*4) (vG b m (bp0 m) (bp1 m) 0)=tab (2*m.P*4) (g1' b m)from q03 fun j hj=>iN (by omega),show((0:Nat):Int)=0 from rfl,show tab (2*m.P*4) (eF b m (bp0 m) (bp1 m))=tab (2*m.P*4) (endF b m)from rfl]at l12
 have l16:=rl16_all hb hl q01 q01 ((m.W:Int)) ((m.T:Int)) ((m.H:Int)) ((m.C:Int)) ((m.A:Int)) ((m.e:Int)) ((m.o:Int)) ((m.s:Int)) (tN b m) (cN b m) (tab (2*m.P*4) (endF b m)) q07 (P:=m.P) (w:=wN b m) (f:=m.f) (p2:=bp2 m) hP1 hP3 hw64 ⟨hf2,hf4⟩ (by have:=h3;unfold bp3 at this;omega) 16 0 600 (by omega) (by omega)
 rw[q87,←sq0,show posF m.P (wN b m) m.f (bp2 m) 0=bp2 m from rfl,show((0:Nat):Int)=0 from rfl,show tab 16 (qhv b m.P (wN b m) m.f (bp2 m))=tab 16 (firF b m)from rfl]at l16
 have l20:q10 600 600 q01 q01 ((m.P:Int)) ((m.W:Int)) ((m.T:Int)) ((m.H:Int)) ((m.C:Int)) ((m.A:Int)) ((m.e:Int)) ((m.o:Int)) ((m.f:Int)) ((m.s:Int)) b (((posF m.P (wN b m) m.f (bp2 m) 16:Nat):Int)) ((wN b m:Int)) (tN b m) (cN b m) (tab (2*m.P*4) (endF b m)) (tab 16 (firF b m)) q07 0=some (q01,q01,(m.P:Int),(m.W:Int),(m.T:Int),(m.H:Int),(m.C:Int),(m.A:Int),(m.e:Int),(m.o:Int),(m.f:Int),(m.s:Int),(wN b m:Int),tN b m,cN b m,tab (2*m.P*4) (endF b m),tab 16 (firF b m),tab 16 (secF b m),()):=by
  by_cases hs:m.s=0
  ·have q:q07=tab 16 (secF b m):=sq0.trans (q03 fun j hj=>by
    unfold secF secV
    rw[iP hs])
   rw[←q,hs]
   exact j4c q01 q01 ((m.P:Int)) ((m.W:Int)) ((m.T:Int)) ((m.H:Int)) ((m.C:Int)) ((m.A:Int)) ((m.e:Int)) ((m.o:Int)) ((m.f:Int)) b (((posF m.P (wN b m) m.f (bp2 m) 16:Nat):Int)) ((wN b m:Int)) (tN b m) (cN b m) (tab (2*m.P*4) (endF b m)) (tab 16 (firF b m)) q07 599
  ·have l:=rl20_all hb hl q01 q01 ((m.P:Int)) ((m.W:Int)) ((m.T:Int)) ((m.H:Int)) ((m.C:Int)) ((m.A:Int)) ((m.e:Int)) ((m.o:Int)) ((m.f:Int)) ((wN b m:Int)) (tN b m) (cN b m) (tab (2*m.P*4) (endF b m)) (tab 16 (firF b m)) (s:=m.s) (p3:=bp3 b m) (by omega) (by rw[iN hs]at h3;exact h3) 16 0 600 (by omega) (by omega)
   rw[q87,←sq0,show posS m.s (bp3 b m) 0=posF m.P (wN b m) m.f (bp2 m) 16 from rfl,show((0:Nat):Int)=0 from rfl]at l
   exact l
 have l22:=rl22_all b ok q01 16 0 600 (by omega) (by omega)
 rw[Nat.zero_mul,q87,←zva,show((0:Nat):Int)=0 from rfl]at l22
 unfold z2e
 simp only[cF,n8,i1,dT,cT,yc,yd,yb,y5,hrow,g0,g1,g2,g3,g4,g5,g6,g7,g8,g9]
 rw[q0j (by omega),←hbase]
 simp only[r1,r2,r3,y5,e2,i2,dT,yc,yd,cT,yb,j41,l0]
 by_cases he:m.e=1
 ·have ho:m.o=0:=by omega
  have l4:=rl4_all hb hl q01 q01 ((m.P:Int)) ((m.W:Int)) ((m.T:Int)) ((m.H:Int)) ((m.C:Int)) ((m.A:Int)) ((m.e:Int)) ((m.o:Int)) ((m.f:Int)) ((m.s:Int)) ((wN b m:Int)) (tN b m) (cN b m) ok he (bp0 m) (bp1 m) (by have:=h3;unfold bp2 at h3e;rw[he,Nat.mul_one]at h3e;omega) (2*m.P) 0 600 (by omega) (by omega)
  rw[show tab (2*m.P*4) (bG b m (bp0 m) (bp1 m) 0)=tab (2*m.P*4) (e0 b m (bp0 m))from q03 fun j hj=>iN (by omega),show((0:Nat):Int)=0 from rfl,Nat.add_zero,
   show tab (2*m.P*4) (bG b m (bp0 m) (bp1 m) (2*m.P))=tab (2*m.P*4) (g1' b m)from q03 fun j hj=>by
    unfold bG g1' Gn.g1
    rw[iP (by omega),he,ho]
    rfl,show bp1 m+2*m.P=bp2 m by unfold bp2;rw[he,ho];omega]at l4
  rw[show((m.e+m.o:Nat):Int)=1 by omega]at l12
  simp only[beqT (show((m.e:Nat):Int)=1 by omega),beqF (show((m.o:Nat):Int)≠1 by omega),cT,cF,l4,l12,l16,l20,l22,y5]
 ·by_cases ho:m.o=1
  ·have he0:m.e=0:=by omega
   have l8:=rl8_all hb hl q01 q01 ((m.P:Int)) ((m.W:Int)) ((m.T:Int)) ((m.H:Int)) ((m.C:Int)) ((m.A:Int)) ((m.e:Int)) ((m.o:Int)) ((m.f:Int)) ((m.s:Int)) ((wN b m:Int)) (tN b m) (cN b m) ok ho (bp0 m) (bp1 m) (by have:=h3;unfold bp2 at h3e;rw[ho,Nat.mul_one]at h3e;omega) m.P 0 600 (by omega) (by omega)
   rw[Nat.mul_zero,show tab (2*m.P*4) (bG b m (bp0 m) (bp1 m) 0)=tab (2*m.P*4) (e0 b m (bp0 m))from q03 fun j hj=>iN (by omega),show((0:Nat):Int)=0 from rfl,Nat.add_zero,
    show tab (2*m.P*4) (bG b m (bp0 m) (bp1 m) (2*m.P))=tab (2*m.P*4) (g1' b m)from q03 fun j hj=>by
     unfold bG g1' Gn.g1
     rw[iP (by omega),he0,ho]
     rfl,show bp1 m+m.P=bp2 m by unfold bp2;rw[he0,ho];omega]at l8
   rw[show((m.e+m.o:Nat):Int)=1 by omega]at l12
   simp only[beqF (show((m.e:Nat):Int)≠1 by omega),beqT (show((m.o:Nat):Int)=1 by omega),cT,cF,l8,l12,l16,l20,l22,y5]
  ·have he0:m.e=0:=by omega
   have ho0:m.o=0:=by omega
   have hg:tab (2*m.P*4) (e0 b m (bp0 m))=tab (2*m.P*4) (g1' b m):=q03 fun j hj=>by
    unfold g1' Gn.g1 bitV
    rw[iN he,iN ho,he0,ho0]
    omega
   rw[show((m.e+m.o:Nat):Int)=0 by omega,←hg,show bp2 m=bp1 m by unfold bp2;rw[he0,ho0];omega]at l12
   rw[show bp2 m=bp1 m by unfold bp2;rw[he0,ho0];omega]at l16 l20
   simp only[beqF (show((m.e:Nat):Int)≠1 by omega),beqF (show((m.o:Nat):Int)≠1 by omega),cT,cF,l12,l16,l20,l22,y5]
theorem j4d:((yy 256).all fun x=>decide ((math_bits_TrailingZeros8T292.getD x 0).toNat≤8))=true:=by decide+kernel
theorem j18(b:LI){j:Nat}(hj:j<64):0≤(qa5 b).getD j 0∧(qa5 b).getD j 0≤255:=by
 unfold qa5
 split
 ·rw[zva,q0d hj]
  omega
 ·rename_i h
  rw[q0d hj]
  by_cases hk:q89 (b.getD 0 0)<8
  ·exact j16 b (bm_ok hk) _ _
  ·exfalso
   have:∀x:Int,q89 x≤8:=fun x=>by
    unfold q89
    by_cases h2:x.toNat<256
    ·have:=List.all_eq_true.1 j4d x.toNat (by simpa using h2)
     simpa using this
    ·have h3:math_bits_TrailingZeros8T292.length=256:=by decide+kernel
     rw[ye,w9 (by omega)]
     decide
   have:=this (b.getD 0 0)
   omega
theorem j4e{b c:LI}(hb:Bytes b)(hc:Bytes c)(hl:b.length=16)(hcl:c.length=16){k:Nat}(hk:q89 (b.getD 0 0)=k)(h8:k<8)(h:∀q,q≤k→q48 c q=q48 b q):q89 (c.getD 0 0)=k:=by
 obtain⟨_,b8,bz,b1⟩:=qkj (hb.getD 0)
 obtain⟨_,c8,cz,c1⟩:=qkj (hc.getD 0)
 rw[hk]at b8 bz b1
 generalize q89 (c.getD 0 0)=q at c8 cz c1
 have g:∀q,q≤k→bitL (c.getD 0 0) q=bitL (b.getD 0 0) q:=fun q hq=>by
  have:=h q hq
  rw[z5u c (by omega),z5u b (by omega)]at this
  exact this
 by_cases h1:q<k
 ·have e1:=c1 (by omega)
  rw[g q (by omega),bz q h1]at e1
  omega
 ·by_cases h2:k<q
  ·have e1:=cz k h2
   rw[g k (by omega),b1 h8]at e1
   omega
  ·omega
def endV(ends more:LI)(j:Nat):Int:=2*(ends.getD j 0%128)+more.getD (j/4) 0%2
theorem qpi(ends more:LI)(j:Nat):0≤endV ends more j∧endV ends more j≤255:=by
 unfold endV
 omega
theorem and127(x:Int):iand .i64 x 127=x%128:=z5n (b:=7) (by omega)
theorem and1(x:Int):iand .i64 x 1=x%2:=z5n (b:=1) (by omega)
theorem j4f(x y:Int):ior .i64 (ishl .i64 (iand .i64 x 127) 1) (iand .i64 y 1)=2*(x%128)+y%2:=by
 rw[and127,and1]
 have:=orbit (n:=x%128) (v:=y%2) (x:=1) (by omega) (by omega) (by omega) (by omega)
 rw[show((1:Nat):Int)=1 from rfl]at this
 rw[this]
 omega
theorem zero8:q9b=tab 8 fun _=>0:=by decide+kernel
theorem zxk(ends more x1 x4:LI)(x5:Int){i:Nat}(hi:i<2):∀(d c k:Nat),c+d=4→d<k→
  q3c 600 k more x1 (tab 8 (upR i c (endV ends more))) (i:Int) x4 x5 (tab 4 fun c=>ends.getD (i*4+c) 0) (c:Int)=some (more,x1,tab 8 (upR (i+1) 0 (endV ends more)),x4,x5,()):=by
 intro d
 induction d with
 |zero=>
  intro c k h1 h2
  obtain⟨k,rfl⟩:∃k',k=k' +1:=⟨k-1,by omega⟩
  obtain rfl:c=4:=by omega
  unfold q3c qag
  have:¬(((4:Nat):Int)<4):=by omega
  simp only[this,dF,cF,zrf]
 |succ d ih=>
  intro c k h1 h2
  obtain⟨k,rfl⟩:∃k',k=k' +1:=⟨k-1,by omega⟩
  have hc:c<4:=by omega
  have i1:(c:Int)<4:=by omega
  have i2:(i:Int)<2:=by omega
  have e:2*(ends.getD (i*4+c) 0%128)+more.getD i 0%2=endV ends more (i*4+c):=by
   unfold endV
   rw[(mul4 i c hc).1]
  unfold q3c qag
  simp only[i1,i2,dT,cT,yc,yd,yb,q0d hc,j4f,e,zxa]
  rw[q0j (by omega)]
  exact ih (c+1) k (by omega) (by omega)
theorem row8(ends:LI)(hl:ends.length=8){i:Nat}(hi:i<2):y8 4 (y9 (i*4) ends)=tab 4 fun c=>ends.getD (i*4+c) 0:=by
 conv=>lhs;rw[qye hl]
 exact qaq (by omega)
theorem zxl(ends more x1:LI)(hl:ends.length=8):∀(d i k:Nat),i+d=2→d<k→
  q4l 600 k more x1 (tab 8 (upR i 0 (endV ends more))) ends (i:Int)=some (x1,tab 8 (endV ends more),()):=by
 intro d
 induction d with
 |zero=>
  intro i k h1 h2
  obtain⟨k,rfl⟩:∃k',k=k' +1:=⟨k-1,by omega⟩
  obtain rfl:i=2:=by omega
  unfold q4l qah
  have:¬(((2:Nat):Int)<2):=by omega
  simp only[this,dF,cF,zxb (i:=2) (endV ends more) (show 8≤2*4 by omega)]
 |succ d ih=>
  intro i k h1 h2
  obtain⟨k,rfl⟩:∃k',k=k' +1:=⟨k-1,by omega⟩
  have hi:i<2:=by omega
  have i2:(i:Int)<2:=by omega
  have l2:q3c 600 600 more x1 (tab 8 (upR i 0 (endV ends more))) (i:Int) ends (i:Int) (tab 4 fun c=>ends.getD (i*4+c) 0) (0:Int)=_:=zxk ends more x1 ends (i:Int) hi 4 0 600 (by omega) (by omega)
  unfold q4l qah
  simp only[i2,dT,cT,yc,yd,yb,row8 ends hl hi,l2,y5]
  rw[q0j (by omega)]
  exact ih (i+1) k (by omega) (by omega)
theorem Ends_is(ends more:LI)(hl:ends.length=8):qg4 600 ends more=some (tab 8 (endV ends more),()):=by
 unfold qg4
 have h:=zxl ends more q9b hl 2 0 600 (by omega) (by omega)
 rw[zrg,←zero8,show((0:Nat):Int)=0 from rfl]at h
 rw[h]
 rfl
def qyh(a z:Nat→Int)(j:Nat):Int:=mx (a (j%4)) (z (j%4)) ((j/4:Nat):Int) 4
theorem zxm{a z:Nat→Int}(ha:∀c,0≤a c∧a c≤255)(hz:∀c,0≤z c∧z c≤255)(x2:LI)(x5:Int){i:Nat}(hi:i<16):∀(d c k:Nat),c+d=4→d<k→
  q4m 600 k (tab 4 a) (tab 4 z) x2 (tab 64 (upR i c (qyh a z))) (i:Int) x5 (c:Int)=some (tab 4 a,tab 4 z,x2,tab 64 (upR (i+1) 0 (qyh a z)),x5,())∧
  qc8 600 k (tab 4 a) (tab 4 z) x2 (tab 64 (upR i c (qyh a z))) (i:Int) (c:Int)=some (tab 4 a,tab 4 z,x2,tab 64 (upR (i+1) 0 (qyh a z)),(i:Int),()):=by
 intro d
 induction d with
 |zero=>
  intro c k h1 h2
  obtain⟨k,rfl⟩:∃k',k=k' +1:=⟨k-1,by omega⟩
  obtain rfl:c=4:=by omega
  unfold q4m qai qc8 qmd
  have:¬(((4:Nat):Int)<4):=by omega
  simp only[this,dF,cF,zrf,and_self]
 |succ d ih=>
  intro c k h1 h2
  obtain⟨k,rfl⟩:∃k',k=k' +1:=⟨k-1,by omega⟩
  have hc:c<4:=by omega
  have i1:(c:Int)<4:=by omega
  have i2:(i:Int)<16:=by omega
  obtain⟨m1,m2⟩:=mix9 (p:=(i:Int)) (n:=4) (ha c) (hz c) (by omega) (by omega)
  rw[show((4:Nat):Int)=4 from rfl]at m1 m2
  have e:mx (a c) (z c) (i:Int) 4=qyh a z (i*4+c):=by
   unfold qyh
   rw[(mul4 i c hc).1,(mul4 i c hc).2]
  unfold q4m qai qc8 qmd
  simp only[i1,i2,dT,cT,yc,yd,yb,q0d hc,m1,m2,y5,e,zxa]
  rw[q0j (by omega)]
  exact ih (c+1) k (by omega) (by omega)
theorem zxn{a z:Nat→Int}(ha:∀c,0≤a c∧a c≤255)(hz:∀c,0≤z c∧z c≤255)(x2:LI):∀(d i k:Nat),i+d=16→d<k→
  q4n 600 k (tab 4 a) (tab 4 z) x2 (tab 64 (upR i 0 (qyh a z))) (i:Int)=some (x2,tab 64 (qyh a z),())∧
  qc9 600 k (tab 4 a) (tab 4 z) x2 (tab 64 (upR i 0 (qyh a z))) (i:Int)=some (x2,tab 64 (qyh a z),()):=by
 intro d
 induction d with
 |zero=>
  intro i k h1 h2
  obtain⟨k,rfl⟩:∃k',k=k' +1:=⟨k-1,by omega⟩
  obtain rfl:i=16:=by omega
  unfold q4n qaj qc9 qme
  have:¬(((16:Nat):Int)<16):=by omega
  simp only[this,dF,cF,zxb (i:=16) (qyh a z) (show 64≤16*4 by omega),and_self]
 |succ d ih=>
  intro i k h1 h2
  obtain⟨k,rfl⟩:∃k',k=k' +1:=⟨k-1,by omega⟩
  have hi:i<16:=by omega
  have i2:(i:Int)<16:=by omega
  obtain⟨l1,l2⟩:=zxm ha hz x2 (i:Int) hi 4 0 600 (by omega) (by omega)
  rw[show((0:Nat):Int)=0 from rfl]at l1 l2
  unfold q4n qaj qc9 qme
  simp only[i2,dT,cT,l1,l2,y5]
  rw[q0j (by omega)]
  exact ih (i+1) k (by omega) (by omega)
theorem Ramp9_is{a z:Nat→Int}(ha:∀c,0≤a c∧a c≤255)(hz:∀c,0≤z c∧z c≤255):qb6 600 (tab 4 a) (tab 4 z)=some (tab 64 (qyh a z),())∧znl 600 (tab 4 a) (tab 4 z)=some (tab 64 (qyh a z),()):=by
 unfold qb6 znl
 obtain⟨h1,h2⟩:=zxn ha hz q01 16 0 600 (by omega) (by omega)
 rw[zrg,←zva,show((0:Nat):Int)=0 from rfl]at h1 h2
 rw[h1,h2]
 exact⟨rfl,rfl⟩
end Go.AE.Gn

/- A part of the proof, put together of my texts: Z15d, Z15e, Z15f, Z15g, Z15h, Z15i. -/
import Derived.Test.YtdnccegimipapaaGreatRowBcfitLessP8
set_option linter.unusedSimpArgs false
set_option linter.unusedVariables false
set_option linter.unusedSectionVars false
open List renaming getD → y7, take → y8, drop → y9, getD_eq_getElem?_getD → ye, getElem?_eq_getElem → yj, getElem?_append_left → yg, getElem?_append_right → yz, length_append → yo
open Int renaming natCast_nonneg → yc, toNat_natCast → yb, cast_ofNat_Int → yp, natCast_zero → yq, tdiv → yv, tmod → yu
open Bool renaming and_self → yd
open Option renaming bind_some → y5, getD_some → wc
open Go.IntKind renaming wrap → y0
namespace Go.AE.Gn
open Go Go.AE
theorem jdu{l:LI}{N:Nat}{m:Int}(hl:l.length=N)(hm:m≤9000000000000000000)(h:∀j,j<N→0≤l.getD j 0∧l.getD j 0≤m)(j:Nat): -9223372036854775808≤l.getD j 0∧l.getD j 0≤9223372036854775807:=by
 by_cases hj:j<N
 ·have:=h j hj
  omega
 ·rw[qnz (l:=l) (by omega)]
  decide
def zog(t:LI):LI:=tab 16 fun i=>(q76 4 (t.getD (i*4+3) 0) 16:Int)
theorem j3z(t:LI):∀j,j<16→okW 4 (zog t) j:=fun j hj=>by
 have:=qh4 (b:=4) (t.getD (j*4+3) 0)
 rw[show(2:Nat)^4=16 from rfl]at this
 unfold okW zog
 rw[q0g hj]
 omega
def zcd(t:LI):LI:=qa7 0 0 4 (zog t)
theorem ja6(t:LI):Okb 8 (zcd t):=⟨q4t _ _ _ _,q90 _ _ _ _⟩
theorem j40{t:LI}(ht:Rg 255 t):∀(d i k:Nat),i+d=16→d<k→
  q6l 600 k (tab 16 (upT i fun i=>(q76 4 (t.getD (i*4+3) 0) 16:Int))) t (i:Int)=some (zog t,()):=by
 intro d
 induction d with
 |zero=>
  intro i k h1 h2
  obtain⟨k,rfl⟩:∃k',k=k' +1:=⟨k-1,by omega⟩
  obtain rfl:i=16:=by omega
  rw[qio]
  rfl
 |succ d ih=>
  intro i k h1 h2
  obtain⟨k,rfl⟩:∃k',k=k' +1:=⟨k-1,by omega⟩
  show qea 600 (q6l 600 k) _ t i=_
  unfold qea
  have h3:(i:Int)<16:=by omega
  have hb:=ht (i*4+3)
  have e:y7 (y8 4 (y9 (i*4) t)) 3 0=t.getD (i*4+3) 0:=q2l (p:=t) (i:=i) (c:=3) (by decide)
  have nr:q8h 600 (t.getD (i*4+3) 0) 4=some ((q76 4 (t.getD (i*4+3) 0) 16:Int),()):=zo3 (F:=600) (b:=4) (by decide) (by decide) (by omega)
  simp only[h3,dT,cT,yc,yd,yb,e,nr,y5,q08 (show i<1000000000000 by omega)]
  have nx:=ih (i+1) k (by omega) (by omega)
  rw[←qfx]at nx
  exact nx
theorem fours_of{t w c:LI}(h1:q6l 600 600 q21 t 0=some (w,()))(h2:q1v 600 w=some (c,0,())):ql6 600 t=some (c,()):=by
 unfold ql6
 simp only[h1,h2,y5]
theorem ja7{t:LI}(ht:Rg 255 t):ql6 600 t=some (zcd t,()):=by
 have h0:=j40 ht 16 0 600 (by decide) (by decide)
 rw[q9a]at h0
 refine fours_of h0 ?_
 have hw:=j3z t
 have j1:=(qr6 (F:=600) (by decide) (low:=0) (from_:=0) (each:=4) (w:=zog t) (by decide) (by decide) (by decide) (jdu (m:=15) (q0f _ _) (by decide) fun j hj=>by have:=hw j hj;unfold okW at this;omega)).1 hw
 simp only[yp,yq]at j1
 unfold q1v zcd
 simp only[and_self,if_true,j1,y5]
theorem j41(t:LI){i:Nat}(hi:i<16):(zap (zcd t)).getD i 0=q51 4 (q76 4 (t.getD (i*4+3) 0) 16:Int):=by
 have e1:lv (zcd t) (0+4*i) 4=(zog t).getD i 0:=qrd (low:=0) (by decide) (by decide) (by decide) (j3z t) hi
 rw[Nat.zero_add,zog,q0g hi]at e1
 unfold zap
 rw[q6n _ hi,e1]
def rI(r l:LI)(i:Nat):Nat:=q3d (fun j=>(r.getD j 0-l.getD i 0)*(r.getD j 0-l.getD i 0)) 8
theorem rI_lt(r l:LI)(i:Nat):rI r l i<8:=qm6 _ (by decide)
def rT(r l:LI)(i:Nat):Int:=(r.getD (rI r l i) 0-l.getD i 0)*(r.getD (rI r l i) 0-l.getD i 0)
def rW(r l:LI):LI:=tab 16 fun i=>(rI r l i:Int)
def rS(r l:LI):Int:=sumN (rT r l) 16
def rB(A B:Int)(l:LI):LI:=qa7 (A+B*2^8) 16 3 (rW (q6g A B) l)
theorem rW_ok(r l:LI):∀j,j<16→okW 3 (rW r l) j:=fun j hj=>by
 unfold okW rW
 rw[q0g hj]
 have:=rI_lt r l j
 omega
theorem rB_okb(A B:Int)(l:LI):Okb 8 (rB A B l):=⟨q4t _ _ _ _,q90 _ _ _ _⟩
abbrev B8(x:Int):Prop:=0≤x∧x≤255
theorem zh3{r l:LI}(hr:Rg 255 r)(hl:Rg 255 l)(i:Nat):0≤rT r l i∧rT r l i≤255*255:=
 q6v (by have:=hr (rI r l i);have:=hl i;omega)
theorem rS_bound{r l:LI}(hr:Rg 255 r)(hl:Rg 255 l):0≤rS r l∧rS r l≤1100000:=by
 have:=q77 (n:=16) fun i _=>zh3 hr hl i
 unfold rS
 omega
theorem j6h{r l:LI}(hr:Rg 255 r)(h8:r.length=8)(hl:Rg 255 l)(A B less:Int)(best:LI):∀(d i k:Nat),i+d=16→d<k→
  q4d 600 k A B less best r (tab 16 (upT i fun i=>(rI r l i:Int))) (sumN (rT r l) i) l (i:Int)=some (A,B,less,best,rW r l,rS r l,()):=by
 intro d
 induction d with
 |zero=>
  intro i k h1 h2
  obtain⟨k,rfl⟩:∃k',k=k' +1:=⟨k-1,by omega⟩
  obtain rfl:i=16:=by omega
  rw[qio]
  rfl
 |succ d ih=>
  intro i k h1 h2
  obtain⟨k,rfl⟩:∃k',k=k' +1:=⟨k-1,by omega⟩
  show qay 600 (q4d 600 k) A B less best r _ _ l i=_
  unfold qay
  have h3:(i:Int)<16:=by omega
  have nr:q1k 600 r (l.getD i 0)=some ((rI r l i:Int),()):=nearR_is h8 hr (hl i)
  have hlt:=rI_lt r l i
  have hlt' :((rI r l i:Nat):Int)<8:=by omega
  have gs:((tab 16 (upT i fun i=>(rI r l i:Int))).set i (rI r l i:Int)).getD i 0=(rI r l i:Int):=by
   rw[z0a _ _ _ _ (by rw[q0f];omega),iP rfl]
  have b1:=hr (rI r l i)
  have b2:=hl i
  have b3:=q77 (n:=i) fun j _=>zh3 hr hl j
  have b4:=zh3 hr hl i
  have b5:(255*255:Int)*(i:Int)≤255*255*16:=Int.mul_le_mul_of_nonneg_left (by omega) (by decide)
  have e1:y0 .i64 (r.getD (rI r l i) 0-l.getD i 0)=r.getD (rI r l i) 0-l.getD i 0:=w64 (by omega) (by omega)
  have e2:y0 .i64 ((r.getD (rI r l i) 0-l.getD i 0)*(r.getD (rI r l i) 0-l.getD i 0))=rT r l i:=w64 (by unfold rT at b4;omega) (by unfold rT at b4;omega)
  have e3:y0 .i64 (sumN (rT r l) i+rT r l i)=sumN (rT r l) (i+1):=by
   rw[w64 (by omega) (by omega)]
   rfl
  simp only[h3,dT,cT,yc,yd,yb,nr,y5,gs,hlt',e1,e2,e3,q08 (show i<1000000000000 by omega)]
  have nx:=ih (i+1) k (by omega) (by omega)
  rw[←qfx]at nx
  exact nx
theorem joinR{a b:Int}(ha:B8 a)(hb:B8 b){w:LI}(hl:w.length=16)(hw:∀j,j<16→okW 3 w j):q26 600 a b w=some (qa7 (a+b*2^8) 16 3 w,0,()):=by
 obtain⟨t1,t2,t3,t4⟩:=jco ha hb
 have j1:=(qr6 (F:=600) (by decide) (low:=a+b*2^8) (from_:=16) (each:=3) (w:=w) ⟨t2,t3⟩ (by decide) (by decide) (jdu (m:=7) hl (by decide) fun j hj=>by have:=hw j hj;unfold okW at this;omega)).1 hw
 simp only[yp]at j1
 have c1:¬a<0:=by have:=ha.1;omega
 have c2:¬255<a:=by have:=ha.2;omega
 have c3:¬b<0:=by have:=hb.1;omega
 have c4:¬255<b:=by have:=hb.2;omega
 unfold q26
 simp only[c1,c2,c3,c4,dF,cF,and_self,if_true,t1,j1,y5]
theorem jdv(a b:Int):(q6g a b).length=8:=by
 unfold q6g
 rw[j2q]
 unfold j59
 split<;>rfl
def errC(l b:LI):Int:=sumN (fun i=>((qci b).getD i 0-l.getD i 0)*((qci b).getD i 0-l.getD i 0)) 16
def RI(l:LI)(less:Int)(best:LI):Prop:=0≤less∧Okb 8 best∧errC l best=less
theorem rB_tells{A B:Int}(ha:B8 A)(hb:B8 B)(l:LI){i:Nat}(hi:i<16):(qci (rB A B l)).getD i 0=(q6g A B).getD (rI (q6g A B) l i) 0:=by
 have hl:0≤A+B*2^8∧A+B*2^8<2^16:=by have:=ha;have:=hb;omega
 have ok:=rW_ok (q6g A B) l
 have e0:(rB A B l).getD 0 0=A:=by
  rw[←j65 (b:=rB A B l) (q4t _ _ _ _) 0]
  exact qrc hl (by decide) (by decide) ok (by decide) (by have:=ha;omega) fun q hq=>by
   have:=q81 (x:=A) (v:=B) (m:=8) (by have:=ha;omega) q
   rw[Nat.mul_zero,Nat.zero_add,this,iP (by omega)]
 have e1:(rB A B l).getD 1 0=B:=by
  rw[←j65 (b:=rB A B l) (q4t _ _ _ _) 1]
  exact qrc hl (by decide) (by decide) ok (by decide) (by have:=hb;omega) fun q hq=>by
   have:=q81 (x:=A) (v:=B) (m:=8) (by have:=ha;omega) (8*1+q)
   rw[this,iN (by omega),show 8*1+q-8=q by omega]
 have e2:(qfw (rB A B l)).getD i 0=(rI (q6g A B) l i:Int):=by
  rw[j2p _ hi]
  have:=qrd hl (by decide) (by decide) ok hi
  unfold rB
  rw[this]
  unfold rW
  rw[q0g hi]
 unfold qci
 rw[q6n _ hi,e0,e1,e2,yb]
theorem rB_err{A B:Int}(ha:B8 A)(hb:B8 B)(l:LI):errC l (rB A B l)=rS (q6g A B) l:=by
 unfold errC rS
 refine z0g fun i hi=> ?_
 rw[rB_tells ha hb l hi]
 rfl
theorem tryR_of{A B less n:Int}{r l best w c:LI}{x y:Int}(h1:q27 600 x 255=some (A,()))(h2:q27 600 y 255=some (B,()))(h3:qfe 600 A B=some (r,()))
  (h4:q4d 600 600 A B less best r q21 0 l 0=some (A,B,less,best,w,n,())) (h5:q26 600 A B w=some (c,0,())):
  q1c 600 x y l less best=some (if less<0∨n<less then(n,c,())else(less,best,())):=by
 unfold q1c
 simp only[h1,h2,h3,h4,h5,y5]
 by_cases g1:less<0
 ·simp only[g1,dT,cT,true_or,if_true]
 ·by_cases g2:n<less
  ·simp only[g1,g2,dT,dF,cT,cF,or_true,if_true]
  ·simp only[g1,g2,dF,cF,or_self,if_false]
theorem tryR_is{l:LI}(hl:Rg 255 l)(x y less:Int)(best:LI):q1c 600 x y l less best=some (if less<0∨rS (q6g (qhv x) (qhv y)) l<less then(rS (q6g (qhv x) (qhv y)) l,rB (qhv x) (qhv y) l,())else(less,best,())):=by
 have h0:=j6h (zgy (q4u x) (q4u y)) (jdv _ _) hl (qhv x) (qhv y) less best 16 0 600 (by decide) (by decide)
 rw[q9a]at h0
 exact tryR_of rfl rfl (jcm (F:=600) (by decide) (q4u x) (q4u y)) h0 (joinR (q4u x) (q4u y) (q0f _ _) (rW_ok _ _))
theorem qm7{l:LI}(hl:Rg 255 l)(x y:Int){less:Int}{best:LI}(h:less<0∨RI l less best):∃less' best',q1c 600 x y l less best=some (less',best',())∧RI l less' best' ∧(0≤less→less' ≤less)∧less' ≤rS (q6g (qhv x) (qhv y)) l:=by
 have hb:=rS_bound (zgy (q4u x) (q4u y)) hl
 have e:=tryR_is hl x y less best
 by_cases g:less<0∨rS (q6g (qhv x) (qhv y)) l<less
 ·rw[iP g]at e
  exact⟨_,_,e,⟨hb.1,rB_okb _ _ _,rB_err (q4u x) (q4u y) l⟩,fun h0=>by omega,Int.le_refl _⟩
 ·rw[iN g]at e
  exact⟨_,_,e,h.resolve_left (by omega),fun _=>Int.le_refl _,by omega⟩
def minT(l:LI):Nat→Int
 |0=>255
 |n+1=>min (minT l n) (l.getD n 0)
def maxT(l:LI):Nat→Int
 |0=>0
 |n+1=>max (maxT l n) (l.getD n 0)
theorem j6i(l:LI):∀{n i:Nat},i<n→minT l n≤l.getD i 0
 |0,i,h=>by omega
 |n+1,i,h=>by
  show min (minT l n) (l.getD n 0)≤_
  by_cases hi:i=n
  ·subst hi;omega
  ·have:=j6i l (n:=n) (i:=i) (by omega)
   omega
theorem j6j(l:LI):∀{n i:Nat},i<n→l.getD i 0≤maxT l n
 |0,i,h=>by omega
 |n+1,i,h=>by
  show _≤max (maxT l n) (l.getD n 0)
  by_cases hi:i=n
  ·subst hi;omega
  ·have:=j6j l (n:=n) (i:=i) (by omega)
   omega
theorem jdw(l:LI):∀n,minT l n=255∨∃i,i<n∧l.getD i 0=minT l n
 |0=> .inl rfl
 |n+1=>by
  show min (minT l n) (l.getD n 0)=255∨∃i,i<n+1∧l.getD i 0=min (minT l n) (l.getD n 0)
  rcases jdw l n with h|⟨i,h1,h2⟩
  ·by_cases g:minT l n≤l.getD n 0
   ·exact .inl (by omega)
   ·exact .inr ⟨n,by omega,by omega⟩
  ·by_cases g:minT l n≤l.getD n 0
   ·exact .inr ⟨i,by omega,by omega⟩
   ·exact .inr ⟨n,by omega,by omega⟩
theorem jdx(l:LI):∀n,maxT l n=0∨∃i,i<n∧l.getD i 0=maxT l n
 |0=> .inl rfl
 |n+1=>by
  show max (maxT l n) (l.getD n 0)=0∨∃i,i<n+1∧l.getD i 0=max (maxT l n) (l.getD n 0)
  rcases jdx l n with h|⟨i,h1,h2⟩
  ·by_cases g:l.getD n 0≤maxT l n
   ·exact .inl (by omega)
   ·exact .inr ⟨n,by omega,by omega⟩
  ·by_cases g:l.getD n 0≤maxT l n
   ·exact .inr ⟨i,by omega,by omega⟩
   ·exact .inr ⟨n,by omega,by omega⟩
theorem j6k{t:LI}(tl:t.length=64){c:Nat}(hc:c<4)(eff:Int):∀(d i k:Nat),i+d=16→d<k→
  q7s 600 k (c:Int) eff t (tab 16 (upT i fun i=>t.getD (i*4+c) 0)) (minT (colT t c) i) (maxT (colT t c) i) t (i:Int)=some ((c:Int),eff,t,colT t c,minT (colT t c) 16,maxT (colT t c) 16,()):=by
 intro d
 induction d with
 |zero=>
  intro i k h1 h2
  obtain⟨k,rfl⟩:∃k',k=k' +1:=⟨k-1,by omega⟩
  obtain rfl:i=16:=by omega
  rw[qio]
  rfl
 |succ d ih=>
  intro i k h1 h2
  obtain⟨k,rfl⟩:∃k',k=k' +1:=⟨k-1,by omega⟩
  show qgs 600 (q7s 600 k) c eff t _ _ _ t i=_
  unfold qgs
  have h3:(i:Int)<16:=by omega
  have h4:(c:Int)<4:=by omega
  have e:y7 (y8 4 (y9 (i*4) t)) c 0=t.getD (i*4+c) 0:=q2l (p:=t) (i:=i) hc
  have e2:(colT t c).getD i 0=t.getD (i*4+c) 0:=q0g (by omega)
  simp only[h3,h4,dT,cT,yc,yd,yb,e,q08 (show i<1000000000000 by omega)]
  have nx:=ih (i+1) k (by omega) (by omega)
  rw[←qfx]at nx
  rw[show minT (colT t c) (i+1)=min (minT (colT t c) i) ((colT t c).getD i 0)from rfl,show maxT (colT t c) (i+1)=max (maxT (colT t c) i) ((colT t c).getD i 0)from rfl,e2]at nx
  exact nx
theorem zso{t:LI}{c:Nat}(hc:c<4):∀(d i k:Nat) (w:LI),i+d=16→d<k→w.length=64→Rg 255 w→Rg 255 t→
  ∃w',q4c 600 k (c:Int) w t (i:Int)=some (w',())∧w'.length=64∧Rg 255 w' :=by
 intro d
 induction d with
 |zero=>
  intro i k w h1 h2 h3 h4 h5
  obtain⟨k,rfl⟩:∃k',k=k' +1:=⟨k-1,by omega⟩
  obtain rfl:i=16:=by omega
  exact⟨w,rfl,h3,h4⟩
 |succ d ih=>
  intro i k w h1 h2 h3 h4 h5
  obtain⟨k,rfl⟩:∃k',k=k' +1:=⟨k-1,by omega⟩
  have g3:(i:Int)<16:=by omega
  have g4:(c:Int)<4:=by omega
  have e:y7 (y8 4 (y9 (i*4) t)) c 0=t.getD (i*4+c) 0:=q2l (p:=t) (i:=i) hc
  obtain⟨w',q1,q2,q3⟩:=ih (i+1) k (w.set (i*4) (t.getD (i*4+c) 0)) (by omega) (by omega) (by rw[List.length_set];exact h3) (fun j=>by
   rw[z0a _ _ _ _ (by omega)]
   split
   ·exact h5 _
   ·exact h4 j) h5
  refine⟨w',?_,q2,q3⟩
  show qaw 600 (q4c 600 k) c w t i=_
  unfold qaw
  simp only[g3,g4,dT,cT,yc,yd,yb,e,q08 (show i<1000000000000 by omega)]
  exact q1
theorem ja8{t w b:LI}{c:Int}(h1:q4c 600 600 c q12 t 0=some (w,()))(h2:qaq 600 4 w=some (b,0,()))(h3:b.length=8):qax 600 t c=some (b.getD 0 0,()):=by
 unfold qax
 simp only[h1,h2,h3,y5]
 rfl
theorem ja9{t:LI}(ht:Rg 255 t){c:Nat}(hc:c<4):∃v,qax 600 t (c:Int)=some (v,())∧B8 v:=by
 have z:q12=tab 64 fun _=>0:=rfl
 obtain⟨w,h1,h2,h3⟩:=zso (t:=t) hc 16 0 600 q12 (by decide) (by decide) rfl (by rw[z];exact qj1 (by decide) fun _ _=>by decide) ht
 have hk4:Fmt 4:=⟨by decide,by decide⟩
 have h4:qaq 600 4 w=some (qip 4 (scT 4 w),0,()):=zb3 hk4 h2 h3 (zb2 h2 h3)
 have ok:=z7o (scT 4 w) hk4
 refine⟨_,ja8 h1 h4 ok.2,ok.1.getD 0⟩
theorem zb7{l:LI}(h:Rg 255 l):∀n,B8 (minT l n)
 |0=>(show B8 255 from⟨by decide,by decide⟩)
 |n+1=>by
  have h1:=zb7 h n
  have h2:=h n
  show 0≤min (minT l n) (l.getD n 0)∧min (minT l n) (l.getD n 0)≤255
  have:=h1.1;have:=h1.2
  omega
theorem zb8{l:LI}(h:Rg 255 l):∀n,B8 (maxT l n)
 |0=>(show B8 0 from⟨by decide,by decide⟩)
 |n+1=>by
  have h1:=zb8 h n
  have h2:=h n
  show 0≤max (maxT l n) (l.getD n 0)∧max (maxT l n) (l.getD n 0)≤255
  have:=h1.1;have:=h1.2
  omega
theorem jaa{l:LI}(hl:Rg 255 l)(lo hi:Int){less:Int}{best:LI}(h:RI l less best):∃r,(∃b n,r=(b,())∧RI l n b∧n≤less)∧q6b 600 600 lo hi best l less 1=some r:=by
 have:=ztj (N:=4) (by decide) (fun q (s:LI×Int) i=>q6b 600 q lo hi s.1 l s.2 i) (fun _ s=>RI l s.2 s.1∧s.2≤less) (fun r=>∃b n,r=(b,())∧RI l n b∧n≤less)
  (fun q i s hi' hs=>by
   obtain⟨s1,s2⟩:=hs
   by_cases h3:(i:Int)≤3
   ·obtain⟨a1,b1,e1,r1,m1,_⟩:=qm7 hl (y0 .i64 (hi-i)) (y0 .i64 (lo+i)) (.inr s1)
    obtain⟨a2,b2,e2,r2,m2,_⟩:=qm7 hl (y0 .i64 (lo+i)) (y0 .i64 (hi-i)) (.inr r1)
    obtain⟨a3,b3,e3,r3,m3,_⟩:=qm7 hl (y0 .i64 (hi-i)) lo (.inr r2)
    obtain⟨a4,b4,e4,r4,m4,_⟩:=qm7 hl hi (y0 .i64 (lo+i)) (.inr r3)
    have m1:=m1 s1.1
    have m2:=m2 r1.1
    have m3:=m3 r2.1
    have m4:=m4 r3.1
    refine⟨(b4,a4),⟨r4,by show a4≤less;omega⟩,?_⟩
    show qgt 600 (q6b 600 q) lo hi s.1 l s.2 i=_
    unfold qgt
    simp only[h3,dT,cT,e1,e2,e3,e4,y5,q08 (show i<1000000000000 by omega)]
   ·omega)
  (fun q s hs=>⟨_,⟨_,_,rfl,hs.1,hs.2⟩,rfl⟩) 1 (by decide) (s:=(best,less)) ⟨h,Int.le_refl _⟩ 600 (by decide)
 exact this
theorem ramp_of{t l b1 b2 b3:LI}{c eff lo hi v n1 n2 n3:Int}(h0:q7s 600 600 c eff t q21 255 0 t 0=some (c,eff,t,l,lo,hi,()))(hv:qax 600 t c=some (v,()))
  (h1:q1c 600 v v l (-1) []=some (n1,b1,())) (h2:q1c 600 hi lo l n1 b1=some (n2,b2,())) (h3:q1c 600 lo hi l n2 b2=some (n3,b3,())):
  q5z 600 t c eff=if eff=2 then(q6b 600 600 lo hi b3 l n3 1).bind fun r=>some (r.1,())else some (b3,()):=by
 unfold q5z
 simp only[h0,hv,h1,h2,h3,y5]
 by_cases g:eff=2
 ·rw[iP g,beqT g]
  rfl
 ·rw[iN g,beqF g]
  rfl
theorem z7p{t:LI}(tl:t.length=64)(ht:Rg 255 t){c:Nat}(hc:c<4)(eff:Int):∃b,q5z 600 t (c:Int) eff=some (b,())∧Okb 8 b∧0≤errC (colT t c) b∧errC (colT t c) b≤rS (q6g (maxT (colT t c) 16) (minT (colT t c) 16)) (colT t c):=by
 have hl:Rg 255 (colT t c):=zaz ht c
 have h0:=j6k tl hc eff 16 0 600 (by decide) (by decide)
 rw[q9a]at h0
 obtain⟨v,hv,_⟩:=ja9 ht hc
 obtain⟨n1,b1,e1,r1,_,_⟩:=qm7 hl v v (less:= -1) (best:=[]) (.inl (by decide))
 obtain⟨n2,b2,e2,r2,m2,q2⟩:=qm7 hl (maxT (colT t c) 16) (minT (colT t c) 16) (.inr r1)
 obtain⟨n3,b3,e3,r3,m3,_⟩:=qm7 hl (minT (colT t c) 16) (maxT (colT t c) 16) (.inr r2)
 rw[j3m (zb8 hl 16),j3m (zb7 hl 16)]at q2
 have m3:=m3 r2.1
 have e:=ramp_of h0 hv e1 e2 e3
 by_cases g:eff=2
 ·rw[iP g]at e
  obtain⟨r,⟨b,n,rfl,hb,hn⟩,e4⟩:=jaa hl (minT (colT t c) 16) (maxT (colT t c) 16) r3
  rw[e4]at e
  refine⟨b,e,hb.2.1,?_,?_⟩
  ·rw[hb.2.2];exact hb.1
  ·rw[hb.2.2];omega
 ·rw[iN g]at e
  refine⟨b3,e,r3.2.1,?_,?_⟩
  ·rw[r3.2.2];exact r3.1
  ·rw[r3.2.2];omega
def ztv(x:Int):Int:=max 0 (min x 127)
theorem qi0(x:Int):0≤ztv x∧ztv x≤127:=by unfold ztv;omega
def eV(bit:Nat)(v:Int):Int:=ztv ((v+1-bit)/2)
def dE(bit:Nat)(v:Int):Int:=(2*eV bit v+bit-v)*(2*eV bit v+bit-v)
def nE(x:LI)(bit c:Nat):Int:=sumN (fun c=>dE bit (x.getD c 0)) c
theorem zh4{bit:Nat}(hb:bit<2){v:Int}(hv:B8 v):0≤dE bit v∧dE bit v≤300*300:=by
 have:=qi0 ((v+1-bit)/2)
 have:=hv
 exact q6v (x:=2*eV bit v+bit-v) (m:=300) (by unfold eV;omega)
theorem zzp{x:LI}(hx:Rg 255 x){bit:Nat}(hb:bit<2){c:Nat}(hc:c≤4):0≤nE x bit c∧nE x bit c≤360000:=by
 have:=q77 (n:=c) fun j _=>zh4 hb (hx j)
 unfold nE
 omega
def nT(x:LI)(bit c:Nat)(j:Nat):Int:=if j<bit then nE x j 4 else if j=bit then nE x bit c else 0
theorem nT_set{x:LI}{bit c:Nat}(hb:bit<2):(tab 2 (nT x bit c)).set bit (nE x bit (c+1))=tab 2 (nT x bit (c+1)):=by
 rw[q5g]
 refine q02 fun j hj=> ?_
 unfold nT
 by_cases h:j=bit
 ·subst h;rw[iP rfl,iN (by omega),iP rfl]
 ·rw[iN h,iN h,iN h]
theorem nT_next{x:LI}{bit:Nat}:tab 2 (nT x bit 4)=tab 2 (nT x (bit+1) 0):=q02 fun j hj=>by
 unfold nT
 by_cases h:j<bit
 ·rw[iP h,iP (by omega)]
 ·rw[iN h]
  by_cases h2:j=bit
  ·subst h2;rw[iP rfl,iP (by omega)]
  ·rw[iN h2,iN (by omega)]
   by_cases h3:j=bit+1
   ·rw[iP h3];rfl
   ·rw[iN h3]
def eT(x:LI)(j:Nat):Int:=eV (j/4) (x.getD (j%4) 0)
theorem jab{x:LI}(hx:Rg 255 x)(x1:LI)(x5:Int){bit:Nat}(hb:bit<2):∀(d c k:Nat),c+d=4→d<k→
  qcs 600 k x x1 (tab 8 (upR bit c (eT x))) (tab 2 (nT x bit c)) (bit:Int) x5 x (c:Int)=some (x,x1,tab 8 (upR bit 4 (eT x)),tab 2 (nT x bit 4),x5,()):=by
 intro d
 induction d with
 |zero=>
  intro c k h1 h2
  obtain⟨k,rfl⟩:∃k',k=k' +1:=⟨k-1,by omega⟩
  obtain rfl:c=4:=by omega
  rfl
 |succ d ih=>
  intro c k h1 h2
  obtain⟨k,rfl⟩:∃k',k=k' +1:=⟨k-1,by omega⟩
  show qjv 600 (qcs 600 k) x x1 _ _ bit x5 x c=_
  unfold qjv
  have h4:(c:Int)<4:=by omega
  have h2' :(bit:Int)<2:=by omega
  have hv:=hx c
  have eb:=qi0 ((x.getD c 0+1-bit)/2)
  have w1:y0 .i64 (x.getD c 0+1)=x.getD c 0+1:=w64 (by omega) (by omega)
  have w2:y0 .i64 (x.getD c 0+1-bit)=x.getD c 0+1-bit:=w64 (by omega) (by omega)
  have w3:y0 .i64 (yv (x.getD c 0+1-bit) 2)=(x.getD c 0+1-bit)/2:=by
   rw[q2h (by omega),w64 (by omega) (by omega)]
  have cl:q27 600 ((x.getD c 0+1-bit)/2) 127=some (eV bit (x.getD c 0),()):=rfl
  have ge:eT x (bit*4+c)=eV bit (x.getD c 0):=by
   unfold eT
   rw[(mul4 bit c (by omega)).1,(mul4 bit c (by omega)).2]
  have s1:(tab 8 (upR bit c (eT x))).set (bit*4+c) (eV bit (x.getD c 0))=tab 8 (upR bit (c+1) (eT x)):=by rw[←ge,j5e]
  have g1:(tab 8 (upR bit (c+1) (eT x))).getD (bit*4+c) 0=eV bit (x.getD c 0):=by
   rw[q0g (by omega)]
   unfold upR
   rw[iP (by omega),ge]
  have w4:y0 .i64 (2*eV bit (x.getD c 0))=2*eV bit (x.getD c 0):=w64 (by unfold eV;omega) (by unfold eV;omega)
  have w5:y0 .i64 (2*eV bit (x.getD c 0)+bit)=2*eV bit (x.getD c 0)+bit:=w64 (by unfold eV;omega) (by unfold eV;omega)
  have w6:y0 .i64 (2*eV bit (x.getD c 0)+bit-x.getD c 0)=2*eV bit (x.getD c 0)+bit-x.getD c 0:=w64 (by unfold eV;omega) (by unfold eV;omega)
  have db:=zh4 hb hv
  have w7:y0 .i64 ((2*eV bit (x.getD c 0)+bit-x.getD c 0)*(2*eV bit (x.getD c 0)+bit-x.getD c 0))=dE bit (x.getD c 0):=w64 (by unfold dE at db;omega) (by unfold dE at db;omega)
  have g2:(tab 2 (nT x bit c)).getD bit 0=nE x bit c:=by
   rw[q0g hb]
   unfold nT
   rw[iN (by omega),iP rfl]
  have nb:=zzp hx hb (show c≤4 by omega)
  have w8:y0 .i64 (nE x bit c+dE bit (x.getD c 0))=nE x bit (c+1):=by
   rw[w64 (by omega) (by omega)]
   rfl
  simp only[h4,h2',dT,cT,yc,yd,yb,w1,w2,w3,cl,y5,s1,g1,w4,w5,w6,w7,g2,w8,nT_set hb,q08 (show c<1000000000000 by omega)]
  exact ih (c+1) k (by omega) (by omega)
theorem jac{x:LI}(hx:Rg 255 x)(x1:LI):∀(d b k:Nat),b+d=2→d<k→
  q9y 600 k x x1 (tab 8 (upR b 0 (eT x))) (tab 2 (nT x b 0)) (b:Int)=some (x1,tab 8 (eT x),tab 2 (fun j=>nE x j 4),()):=by
 intro d
 induction d with
 |zero=>
  intro b k h1 h2
  obtain⟨k,rfl⟩:∃k',k=k' +1:=⟨k-1,by omega⟩
  obtain rfl:b=2:=by omega
  rw[j5f _ (by omega),q02 (g:=nT x 2 0) (f:=fun j=>nE x j 4) fun j hj=>by unfold nT;rw[iP hj]]
  rfl
 |succ d ih=>
  intro b k h1 h2
  obtain⟨k,rfl⟩:∃k',k=k' +1:=⟨k-1,by omega⟩
  show qjw 600 (q9y 600 k) x x1 _ _ b=_
  unfold qjw
  have h3:(b:Int)<2:=by omega
  have e:=jab hx x1 b (show b<2 by omega) 4 0 600 (by omega) (by omega)
  rw[show((0:Nat):Int)=0 from rfl]at e
  simp only[h3,dT,cT,e,y5,q08 (show b<1000000000000 by omega)]
  rw[zyy,nT_next]
  exact ih (b+1) k (by omega) (by omega)
def endB(x:LI):Nat:=if nE x 1 4<nE x 0 4 then 1 else 0
theorem zzq(x:LI):endB x<2:=by unfold endB;split<;>omega
def endL(x:LI):LI:=tab 4 fun c=>eV (endB x) (x.getD c 0)
theorem z0n(x:LI):(endL x).length=4:=q0f _ _
theorem zzr(x:LI):Rg 127 (endL x):=qj1 (by decide) fun c _=>qi0 _
theorem end_of{x l:LI}{a b:Int}(h:q9y 600 600 x [(0:Int),(0:Int),(0:Int),(0:Int)] q1h [(0:Int),(0:Int)] 0=some ([(0:Int),(0:Int),(0:Int),(0:Int)],l,[a,b],())):
  qhl 600 x=some (if b<a then(y8 4 (y9 4 l),1,())else(y8 4 l,0,())):=by
 unfold qhl
 simp only[h,y5]
 show cond (decide (b<a)) _ _=_
 by_cases g:b<a
 ·rw[iP g];simp only[g,dT,cT]
 ·rw[iN g];simp only[g,dF,cF]
theorem j8m{x:LI}(hx:Rg 255 x):qhl 600 x=some (endL x,(endB x:Int),()):=by
 have h:=jac hx [(0:Int),(0:Int),(0:Int),(0:Int)] 2 0 600 (by decide) (by decide)
 have z2:tab 2 (nT x 0 0)=[(0:Int),(0:Int)]:=rfl
 rw[zyz,z2]at h
 have e:=end_of (l:=tab 8 (eT x)) (a:=nE x 0 4) (b:=nE x 1 4) h
 have p0:=qca (N:=8) (i:=0) (m:=4) (g:=eT x) (by omega)
 have p1:=qca (N:=8) (i:=1) (m:=4) (g:=eT x) (by omega)
 rw[Nat.zero_mul,List.drop_zero]at p0
 rw[Nat.one_mul]at p1
 rw[e,p0,p1]
 unfold endL endB
 have q0:tab 4 (fun c=>eT x (0+c))=tab 4 fun c=>eV 0 (x.getD c 0):=q02 fun c hc=>by unfold eT;rw[show(0+c)/4=0 by omega,show(0+c)%4=c by omega]
 have q1:tab 4 (fun c=>eT x (4+c))=tab 4 fun c=>eV 1 (x.getD c 0):=q02 fun c hc=>by unfold eT;rw[show(4+c)/4=1 by omega,show(4+c)%4=c by omega]
 rw[q0,q1]
 split<;>rfl
theorem jdy{x:LI}(hx:Rg 255 x){p:Nat}(hp:p<2)(h:∀c,c<4→x.getD c 0%2=(p:Int)):∀c,c<4→2*(endL x).getD c 0+(endB x:Int)=x.getD c 0:=by
 have ex:∀c,c<4→2*eV p (x.getD c 0)+p-x.getD c 0=0:=fun c hc=>by
  have:=hx c
  have:=h c hc
  unfold eV ztv
  omega
 have np:nE x p 4=0:=by
  unfold nE
  refine(qm5 fun c hc=>(zh4 hp (hx c)).1).2 fun c hc=> ?_
  unfold dE
  rw[ex c hc]
  rfl
 have other:p=1→0<nE x 0 4:=fun e=>by
  have nb:=zzp hx (bit:=0) (by decide) (c:=4) (by decide)
  have hne:nE x 0 4≠0:=fun h0=>by
   have:=(qm5 (n:=4) fun c hc=>(zh4 (bit:=0) (by decide) (hx c)).1).1 h0 0 (by decide)
   unfold dE at this
   rw[sq_zero]at this
   have h1:=h 0 (by decide)
   omega
  omega
 have eb:endB x=p:=by
  unfold endB
  by_cases e:p=1
  ·subst e
   rw[iP (by have:=other rfl;omega)]
  ·have e:p=0:=by omega
   subst e
   rw[iN (by have:=zzp hx (bit:=1) (by decide) (c:=4) (by decide);omega)]
 intro c hc
 unfold endL
 rw[q0g hc,eb]
 have:=ex c hc
 omega
structure SixOk (ends more:LI):Prop where
 el:ends.length=8
 er:Rg 127 ends
 ml:more.length=2
 mr:Rg 1 more
def sixR(ends more:LI):LI:=tab 64 (qzo (endV ends more) fun c=>endV ends more (4+c))
theorem sixR_len(ends more:LI):(sixR ends more).length=64:=q0f _ _
theorem jdz(ends more:LI):Rg 255 (sixR ends more):=qj1 (by decide) fun j hj=>zz6 (n:=4) (qr7 _ _ _) (qr7 _ _ _) (by decide) (by omega)
def sixI(t r:LI)(i:Nat):Nat:=q3d (fun j=>farV 4 (rowP t i) (rowP r j)) 16
theorem j6l(t r:LI)(i:Nat):sixI t r i<16:=qm6 _ (by decide)
def sixW(t r:LI):LI:=tab 16 fun i=>(sixI t r i:Int)
theorem jad{t r:LI}(hr:Rg 255 r)(h64:r.length=64)(ht:Rg 255 t)(a b:LI):∀(d i k:Nat),i+d=16→d<k→
  q9z 600 k a b r (tab 16 (upT i fun i=>(sixI t r i:Int))) t (i:Int)=some (a,b,sixW t r,()):=by
 intro d
 induction d with
 |zero=>
  intro i k h1 h2
  obtain⟨k,rfl⟩:∃k',k=k' +1:=⟨k-1,by omega⟩
  obtain rfl:i=16:=by omega
  rw[qio]
  rfl
 |succ d ih=>
  intro i k h1 h2
  obtain⟨k,rfl⟩:∃k',k=k' +1:=⟨k-1,by omega⟩
  show qjx 600 (q9z 600 k) a b r _ t i=_
  unfold qjx
  have h3:(i:Int)<16:=by omega
  have nr:q19 600 r (y8 4 (y9 (i*4) t))=some ((sixI t r i:Int),()):=nearS_is h64 hr (q5t (by decide) ht i)
  simp only[h3,dT,cT,yc,yd,yb,nr,y5,q08 (show i<1000000000000 by omega)]
  have nx:=ih (i+1) k (by omega) (by omega)
  rw[←qfx]at nx
  exact nx
def j42(w:LI):LI:=tab 16 fun i=>15-w.getD i 0
theorem jae{w:LI}(hw:∀i,i<16→0≤w.getD i 0∧w.getD i 0<16)(a b:LI):∀(d i k:Nat),i+d=16→d<k→
  q7f 600 k a b (tab 16 fun j=>if j<i then 15-w.getD j 0 else w.getD j 0) w (i:Int)=some (a,b,j42 w,()):=by
 intro d
 induction d with
 |zero=>
  intro i k h1 h2
  obtain⟨k,rfl⟩:∃k',k=k' +1:=⟨k-1,by omega⟩
  obtain rfl:i=16:=by omega
  rw[q02 (g:=fun j=>if j<16 then 15-w.getD j 0 else w.getD j 0) (f:=fun j=>15-w.getD j 0) fun j hj=>iP hj]
  rfl
 |succ d ih=>
  intro i k h1 h2
  obtain⟨k,rfl⟩:∃k',k=k' +1:=⟨k-1,by omega⟩
  show qjy 600 (q7f 600 k) a b _ w i=_
  unfold qjy
  have h3:(i:Int)<16:=by omega
  have hi:=hw i (by omega)
  have w1:y0 .i64 (15-w.getD i 0)=15-w.getD i 0:=w64 (by omega) (by omega)
  have s1:(tab 16 fun j=>if j<i then 15-w.getD j 0 else w.getD j 0).set i (15-w.getD i 0)=tab 16 fun j=>if j<i+1 then 15-w.getD j 0 else w.getD j 0:=by
   rw[q5g]
   refine q02 fun j hj=> ?_
   by_cases h:j=i
   ·subst h;rw[iP rfl,iP (by omega)]
   ·rw[iN h]
    by_cases h' :j<i
    ·rw[iP h',iP (by omega)]
    ·rw[iN h',iN (by omega)]
  simp only[h3,dT,cT,yc,yd,yb,w1,s1,q08 (show i<1000000000000 by omega)]
  exact ih (i+1) k (by omega) (by omega)
theorem okU_of{ends more w:LI}(h:SixOk ends more)(hw:∀i,i<16→0≤w.getD i 0∧w.getD i 0<16)(h0:w.getD 0 0<8):okU ends more w 26=true:=by
 unfold okU
 rw[List.all_eq_true]
 intro t ht
 have ht:=List.mem_range.1 ht
 have key:0≤sV ends more w t∧sV ends more w t<2^sN t:=by
  unfold sV sN
  by_cases h8:t<8
  ·rw[iP h8,iP h8]
   have hr:=h.er (t%2*4+t/2)
   omega
  rw[iN h8,iN h8]
  by_cases h10:t<10
  ·rw[iP h10,iP h10]
   have hr:=h.mr (t-8)
   omega
  rw[iN h10,iN h10]
  have hi:=hw (t-10) (by omega)
  by_cases ht10:t=10
  ·subst ht10
   rw[iP rfl]
   exact⟨(hw 0 (by decide)).1,h0⟩
  ·rw[iN ht10]
   omega
 simpa[okS,okV]using key
theorem je0{m:Int}(hm:m≤9000000000000000000){l:LI}(h:Rg m l):∀x∈l,IntKind.i64.has x:=by
 intro x hx
 obtain⟨i,hi,rfl⟩:=List.getElem_of_mem hx
 have hr:=h i
 rw[ye,yj hi]at hr
 simp only[wc]at hr
 exact j8d (by omega)
theorem j8n{ends more w:LI}(h:SixOk ends more)(hw:∀i,i<16→0≤w.getD i 0∧w.getD i 0<16)(wl:w.length=16)(h0:w.getD 0 0<8):q52 600 ends more w=some (sL ends more w 26,0,()):=by
 have h1:=j85 (ends:=ends) (more:=more) (which:=w) (je0 (by decide) h.er) (je0 (by decide) h.mr) (je0 (m:=16) (by decide) fun j=>by
  by_cases hj:j<16
  ·have:=hw j hj
   omega
  ·rw[qnz (l:=w) (by omega)]
   decide)
 rw[h1,iP (okU_of h hw h0)]
theorem j43{ends more w:LI}(h:SixOk ends more)(hw:∀i,i<16→0≤w.getD i 0∧w.getD i 0<16)(h0:w.getD 0 0<8):qbn (sL ends more w 26)=tab 64 fun j=>mx (endV ends more (j%4)) (endV ends more (4+j%4)) (w.getD (j/4) 0) 4:=by
 have h1:=jda (okU_of h hw h0)
 have h2:=z0c (b:=sL ends more w 26) (q4e _ _ _ qbo 26) (ztr _ _ _)
 rw[h1]at h2
 exact((Prod.mk.inj (Option.some.inj h2)).1).symm
theorem sL_okb(ends more w:LI):Okb 16 (sL ends more w 26):=⟨q4e _ _ _ qbo 26,ztr _ _ _⟩
def zb9(e:LI):LI:=y8 4 (y9 4 e)++y8 4 e
theorem zoh{e:LI}(hl:e.length=8){j:Nat}(hj:j<8):(zb9 e).getD j 0=e.getD (if j<4 then 4+j else j-4) 0:=by
 have l1:(y8 4 (y9 4 e)).length=4:=by simp[hl]
 unfold zb9
 by_cases h:j<4
 ·rw[iP h,ye,yg (by omega),←ye]
  exact(z7b e h).symm
 ·rw[iN h,ye,yz (by omega),l1,←ye]
  have:=z7b e (a:=0) (c:=j-4) (m:=4) (by omega)
  rw[List.drop_zero,Nat.zero_add]at this
  exact this.symm
theorem swap_ok{ends:LI}{m0 m1:Int}(h:SixOk ends [m0,m1]):SixOk (zb9 ends) [m1,m0]:=by
 refine⟨by simp[zb9,h.el],fun j=> ?_,rfl,fun j=> ?_⟩
 ·by_cases hj:j<8
  ·rw[zoh h.el hj]
   exact h.er _
  ·rw[qnz (l:=zb9 ends) (by simp[zb9,h.el];omega)]
   decide
 ·have h0:=h.mr 0
  have h1:=h.mr 1
  rcases j with _|_|j
  ·exact h1
  ·exact h0
  ·rw[qnz (by simp)]
   decide
theorem six_of{t ends r w:LI}{m0 m1:Int}(el:ends.length=8)(h1:qhf 600 ends [m0,m1]=some (tab 8 (endV ends [m0,m1]),()))(h2:qcp 600 (y8 4 (tab 8 (endV ends [m0,m1]))) (y8 4 (y9 4 (tab 8 (endV ends [m0,m1]))))=some (r,()))
  (h3:q9z 600 600 ends [m0,m1] r q21 t 0=some (ends,[m0,m1],w,())) {c w' :LI}
  (h4:8≤w.getD 0 0→q7f 600 600 (zb9 ends) [m1,m0] w w 0=some (zb9 ends,[m1,m0],w',())∧q52 600 (zb9 ends) [m1,m0] w' =some (c,0,())) (h5:¬8≤w.getD 0 0→q52 600 ends [m0,m1] w=some (c,0,())):
  qeb 600 t ends [m0,m1]=some (c,()):=by
 have d8:∀(x:LI),x.length=4→y9 8 (((y8 0 ends)++x)++y9 4 ends)=[]:=fun x hx=>by simp[hx,el]
 have t4:∀(x:LI),x.length=4→y8 4 (((y8 0 ends)++x)++y9 4 ends)=x:=fun x hx=>by simp[←hx]
 have l1:(y8 4 (y9 4 ends)).length=4:=by simp[el]
 unfold qeb
 simp only[h1,h2,h3,y5]
 by_cases g:8≤w.getD 0 0
 ·obtain⟨a,b⟩:=h4 g
  simp only[g,dT,cT,d8 _ l1,t4 _ l1,List.append_nil]
  show(q7f 600 600 (zb9 ends) [m1,m0] w w 0).bind _=_
  rw[a]
  simp only[y5,b]
 ·simp only[g,dF,cF,h5 g,y5]
theorem mem2{l:LI}(h:l.length=2):l=[l.getD 0 0,l.getD 1 0]:=by
 match l,h with
 |[a,b],_=>rfl
theorem j8o{t:LI}(ht:Rg 255 t){ends more:LI}(h:SixOk ends more):∃b,qeb 600 t ends more=some (b,())∧Okb 16 b∧∀j,j<64→(qbn b).getD j 0=(sixR ends more).getD (sixI t (sixR ends more) (j/4)*4+j%4) 0:=by
 obtain⟨m0,m1,rfl⟩:∃m0 m1,more=[m0,m1]:=⟨_,_,mem2 h.ml⟩
 have h1:=Ends_is ends [m0,m1] h.el
 obtain⟨r1,r2⟩:=rows8 ends [m0,m1]
 have h2:qcp 600 (y8 4 (tab 8 (endV ends [m0,m1]))) (y8 4 (y9 4 (tab 8 (endV ends [m0,m1]))))=some (sixR ends [m0,m1],()):=by
  rw[r1,r2]
  exact(Ramp9_is (fun c=>qr7 _ _ _) (fun c=>qr7 _ _ _)).1
 have h3:=jad (jdz ends [m0,m1]) (sixR_len _ _) ht ends [m0,m1] 16 0 600 (by decide) (by decide)
 rw[q9a]at h3
 have wi:∀i,i<16→(sixW t (sixR ends [m0,m1])).getD i 0=(sixI t (sixR ends [m0,m1]) i:Int):=fun i hi=>q0g hi
 have wb:∀i,i<16→0≤(sixW t (sixR ends [m0,m1])).getD i 0∧(sixW t (sixR ends [m0,m1])).getD i 0<16:=fun i hi=>by
  rw[wi i hi]
  have:=j6l t (sixR ends [m0,m1]) i
  omega
 have rr:∀j,j<64→(sixR ends [m0,m1]).getD (sixI t (sixR ends [m0,m1]) (j/4)*4+j%4) 0=mx (endV ends [m0,m1] (j%4)) (endV ends [m0,m1] (4+j%4)) (sixI t (sixR ends [m0,m1]) (j/4):Int) 4:=fun j hj=>by
  have hlt:=j6l t (sixR ends [m0,m1]) (j/4)
  generalize sixI t (sixR ends [m0,m1]) (j/4)=q at hlt⊢
  unfold sixR
  rw[q0g (by omega)]
  unfold qzo
  rw[show(q*4+j%4)%4=j%4 by omega,show(q*4+j%4)/4=q by omega]
 by_cases g:8≤(sixW t (sixR ends [m0,m1])).getD 0 0
 ·have so:=swap_ok h
  have tb:∀i,i<16→0≤(j42 (sixW t (sixR ends [m0,m1]))).getD i 0∧(j42 (sixW t (sixR ends [m0,m1]))).getD i 0<16:=fun i hi=>by
   unfold j42
   rw[q0g hi]
   have:=wb i hi
   omega
  have t0:(j42 (sixW t (sixR ends [m0,m1]))).getD 0 0<8:=by
   unfold j42
   rw[q0g (by decide)]
   omega
  have h4:=jae wb (zb9 ends) [m1,m0] 16 0 600 (by decide) (by decide)
  rw[q02 (g:=fun j=>if j<0 then 15-(sixW t (sixR ends [m0,m1])).getD j 0 else(sixW t (sixR ends [m0,m1])).getD j 0) (f:=fun j=>(sixW t (sixR ends [m0,m1])).getD j 0) fun j hj=>iN (by omega),←qzl (show(sixW t (sixR ends [m0,m1])).length=16 from q0f _ _)]at h4
  refine⟨_,six_of h.el h1 h2 h3 (fun _=>⟨h4,j8n so tb (q0f _ _) t0⟩) (fun n=>absurd g n),sL_okb _ _ _,fun j hj=> ?_⟩
  rw[j43 so tb t0,q0g hj,rr j hj]
  have hlt:=j6l t (sixR ends [m0,m1]) (j/4)
  have e1:(j42 (sixW t (sixR ends [m0,m1]))).getD (j/4) 0=((15-sixI t (sixR ends [m0,m1]) (j/4):Nat):Int):=by
   unfold j42
   rw[q0g (by omega),wi _ (by omega)]
   omega
  have e2:endV (zb9 ends) [m1,m0] (j%4)=endV ends [m0,m1] (4+j%4):=by
   unfold endV
   rw[zoh h.el (by omega),iP (by omega),show j%4/4=0 by omega,show(4+j%4)/4=1 by omega]
   rfl
  have e3:endV (zb9 ends) [m1,m0] (4+j%4)=endV ends [m0,m1] (j%4):=by
   unfold endV
   rw[zoh h.el (by omega),iN (by omega),show j%4/4=0 by omega,show(4+j%4)/4=1 by omega,show 4+j%4-4=j%4 by omega]
   rfl
  rw[e1,e2,e3,←mx_turn _ _ hlt]
 ·refine⟨_,six_of (w' :=[]) h.el h1 h2 h3 (fun n=>absurd n g) (fun _=>j8n h wb (q0f _ _) (by omega)),sL_okb _ _ _,fun j hj=> ?_⟩
  rw[j43 h wb (by omega),q0g hj,rr j hj,wi _ (by omega)]
theorem je1{ends more:LI}(h:SixOk ends more)(i:Nat){v:Int}(hv:0≤v∧v≤127):SixOk (ends.set i v) more:=
 ⟨by rw[List.length_set];exact h.el,fun j=>by
  by_cases hi:i<ends.length
  ·rw[z0a _ _ _ _ hi]
   split
   ·exact hv
   ·exact h.er j
  ·rw[List.set_eq_of_length_le (by omega)]
   exact h.er j,h.ml,h.mr⟩
theorem six_more{ends more:LI}(h:SixOk ends more)(i:Nat){v:Int}(hv:0≤v∧v≤1):SixOk ends (more.set i v):=
 ⟨h.el,h.er,by rw[List.length_set];exact h.ml,fun j=>by
  by_cases hi:i<more.length
  ·rw[z0a _ _ _ _ hi]
   split
   ·exact hv
   ·exact h.mr j
  ·rw[List.set_eq_of_length_le (by omega)]
   exact h.mr j⟩
section
variable {t:LI} (tl:t.length=64) (tr:Rg 255 t)
include tl tr
abbrev S6:=LI×Int×LI×LI
def z1d(t:LI)(n:Int)(s:S6):Prop:=InvB 6 t s.1 s.2.1∧s.2.1≤n∧SixOk s.2.2.1 s.2.2.2
theorem show6{n:Int}{b:LI}{m:Int}(hI:InvB 6 t b m)(hm:m≤n){ends more:LI}(h:SixOk ends more):∃c f b' n',qeb 600 t ends more=some (c,())∧q0p 600 b 6 t m c=some (f,6,t,b',n',())∧InvB 6 t b' n' ∧n' ≤n∧n' ≤m∧n' ≤qbp 6 c t∧
  ∀j,j<64→(qbn c).getD j 0=(sixR ends more).getD (sixI t (sixR ends more) (j/4)*4+j%4) 0:=by
 obtain⟨c,e1,ok,hd⟩:=j8o tr h
 obtain⟨f,b',n',e2,i1,m1,m2⟩:=z0m fmt6 tl tr hI (show Okb (q29 6) c from ok)
 exact⟨c,f,b',n',e1,e2,i1,by omega,m1,m2,hd⟩
theorem j6m{n:Int}{s:S6}(hs:z1d t n s)(eff x7 x9 x11:Int)(x10:Bool){kk:Nat}(hkk:kk<8):∃r,(∃s',z1d t n s' ∧r=(s'.1,(6:Int),t,s'.2.1,eff,s'.2.2.1,s'.2.2.2,x7,x9,x10,x11,()))∧
  q1q 600 600 s.1 6 t s.2.1 eff s.2.2.1 s.2.2.2 x7 (kk:Int) x9 x10 x11 [(1:Int),(-(1:Int))] 0=some r:=by
 refine qcj (N:=2) (by decide) (fun q (s:S6) i=>q1q 600 q s.1 6 t s.2.1 eff s.2.2.1 s.2.2.2 x7 (kk:Int) x9 x10 x11 [(1:Int),(-(1:Int))] i) (fun _ s=>z1d t n s)
  (fun r=>∃s',z1d t n s' ∧r=(s'.1,(6:Int),t,s'.2.1,eff,s'.2.2.1,s'.2.2.2,x7,x9,x10,x11,())) (fun q i s hi hs=> ?_) (fun q s hs=>⟨_,⟨s,hs,rfl⟩,rfl⟩) hs
 have h3:(i:Int)<2:=by omega
 obtain⟨i1,i2,i3⟩:=hs
 have d1:y0 .i64 (yv (kk:Int) 4)=((kk/4:Nat):Int):=by
  rw[q2h (by omega),w64 (by omega) (by omega)]
  omega
 have d2:yu (kk:Int) 4=((kk%4:Nat):Int):=by
  rw[tmod_nonneg (by omega)]
  omega
 have d3:((kk/4:Nat):Int)<2:=by omega
 have d4:((kk%4:Nat):Int)<4:=by omega
 have d5:kk/4*4+kk%4=kk:=by omega
 obtain⟨c,f,b',n',e1,e2,j1,j2,_⟩:=show6 tl tr i1 i2 (je1 i3 kk (qi0 (y0 .i64 (y7 s.2.2.1 kk 0+y7 [(1:Int),(-(1:Int))] i 0))))
 have cl:q27 600 (y0 .i64 (y7 s.2.2.1 kk 0+y7 [(1:Int),(-(1:Int))] i 0)) 127=some (ztv (y0 .i64 (y7 s.2.2.1 kk 0+y7 [(1:Int),(-(1:Int))] i 0)),()):=rfl
 show∃s',z1d t n s' ∧q5n 600 (q1q 600 q) s.1 6 t s.2.1 eff s.2.2.1 s.2.2.2 x7 (kk:Int) x9 x10 x11 [(1:Int),(-(1:Int))] (i:Int)=_
 unfold q5n
 simp only[h3,d1,d2,d3,d4,d5,dT,cT,yc,yd,yb,cl,e1,e2,y5,q08 (show i<1000000000000 by omega)]
 cases f
 ·exact⟨(b',n',s.2.2.1,s.2.2.2),⟨j1,j2,i3⟩,rfl⟩
 ·exact⟨(b',n',_,s.2.2.2),⟨j1,j2,je1 i3 kk (qi0 _)⟩,rfl⟩
theorem j6n{n:Int}{s:S6}(hs:z1d t n s)(eff x7 x8:Int)(x9:Bool):∃r,(∃s',z1d t n s' ∧r=(s'.1,(6:Int),t,s'.2.1,eff,s'.2.2.1,s'.2.2.2,x7,x8,x9,()))∧
  q1r 600 600 s.1 6 t s.2.1 eff s.2.2.1 s.2.2.2 x7 x8 x9 0=some r:=by
 refine qcj (N:=8) (by decide) (fun q (s:S6) i=>q1r 600 q s.1 6 t s.2.1 eff s.2.2.1 s.2.2.2 x7 x8 x9 i) (fun _ s=>z1d t n s)
  (fun r=>∃s',z1d t n s' ∧r=(s'.1,(6:Int),t,s'.2.1,eff,s'.2.2.1,s'.2.2.2,x7,x8,x9,())) (fun q i s hi hs=> ?_) (fun q s hs=>⟨_,⟨s,hs,rfl⟩,rfl⟩) hs
 have h3:(i:Int)<8:=by omega
 obtain⟨r,⟨s',hs',rfl⟩,e⟩:=j6m tl tr hs eff x7 x8 i x9 hi
 refine⟨s',hs',?_⟩
 show q5o 600 (q1r 600 q) s.1 6 t s.2.1 eff s.2.2.1 s.2.2.2 x7 x8 x9 (i:Int)=_
 unfold q5o
 simp only[h3,dT,cT,e,y5,q08 (show i<1000000000000 by omega)]
theorem j6o{n:Int}{s:S6}(hs:z1d t n s)(eff x7 x8:Int)(x9:Bool):∃r,(∃s',z1d t n s' ∧r=(s'.1,(6:Int),t,s'.2.1,eff,s'.2.2.1,s'.2.2.2,x7,x8,x9,()))∧
  q1s 600 600 s.1 6 t s.2.1 eff s.2.2.1 s.2.2.2 x7 x8 x9 0=some r:=by
 refine qcj (N:=2) (by decide) (fun q (s:S6) i=>q1s 600 q s.1 6 t s.2.1 eff s.2.2.1 s.2.2.2 x7 x8 x9 i) (fun _ s=>z1d t n s)
  (fun r=>∃s',z1d t n s' ∧r=(s'.1,(6:Int),t,s'.2.1,eff,s'.2.2.1,s'.2.2.2,x7,x8,x9,())) (fun q i s hi hs=> ?_) (fun q s hs=>⟨_,⟨s,hs,rfl⟩,rfl⟩) hs
 have h3:(i:Int)<2:=by omega
 obtain⟨i1,i2,i3⟩:=hs
 have mb:=i3.mr i
 have w1:y0 .i64 (1-y7 s.2.2.2 i 0)=1-y7 s.2.2.2 i 0:=w64 (by omega) (by omega)
 have s6:=six_more i3 i (v:=1-y7 s.2.2.2 i 0) (by omega)
 obtain⟨c,f,b',n',e1,e2,j1,j2,_⟩:=show6 tl tr i1 i2 s6
 show∃s',z1d t n s' ∧q5p 600 (q1s 600 q) s.1 6 t s.2.1 eff s.2.2.1 s.2.2.2 x7 x8 x9 (i:Int)=_
 unfold q5p
 simp only[h3,w1,dT,cT,yc,yd,yb,e1,e2,y5,q08 (show i<1000000000000 by omega)]
 cases f
 ·exact⟨(b',n',s.2.2.1,s.2.2.2),⟨j1,j2,i3⟩,rfl⟩
 ·exact⟨(b',n',s.2.2.1,s.2.2.2.set i (1-y7 s.2.2.2 i 0)),⟨j1,j2,s6⟩,rfl⟩
theorem j6p{n:Int}{s:S6}(hs:z1d t n s)(eff:Int):∃b' n',q0t 600 600 s.1 6 t s.2.1 eff s.2.2.1 s.2.2.2 0=some (b',(6:Int),t,n',())∧InvB 6 t b' n' ∧n' ≤n:=by
 have h:∃r,(∃b' n',r=(b',(6:Int),t,n',())∧InvB 6 t b' n' ∧n' ≤n)∧q0t 600 600 s.1 6 t s.2.1 eff s.2.2.1 s.2.2.2 0=some r:=by
  by_cases he:eff=2
  ·subst he
   refine qcj (N:=3) (by decide) (fun q (s:S6) i=>q0t 600 q s.1 6 t s.2.1 2 s.2.2.1 s.2.2.2 i) (fun _ s=>z1d t n s)
    (fun r=>∃b' n',r=(b',(6:Int),t,n',())∧InvB 6 t b' n' ∧n' ≤n) (fun q i s hi hs=> ?_) (fun q s hs=>⟨_,⟨_,_,rfl,hs.1,hs.2.1⟩,rfl⟩) hs
   have h3:(i:Int)<3:=by omega
   obtain⟨r,⟨s',hs',rfl⟩,e⟩:=j6n tl tr hs 2 i 2 true
   obtain⟨r2,⟨s2,hs2,rfl⟩,e2⟩:=j6o tl tr hs' 2 i 2 true
   refine⟨s2,hs2,?_⟩
   show q2e 600 (q0t 600 q) s.1 6 t s.2.1 2 s.2.2.1 s.2.2.2 (i:Int)=_
   unfold q2e
   simp only[h3,dT,cT,beq_self_eq_true,y5,e,e2,q08 (show i<1000000000000 by omega)]
  ·refine⟨_,⟨s.1,s.2.1,rfl,hs.1,hs.2.1⟩,?_⟩
   show q2e 600 (q0t 600 599) s.1 6 t s.2.1 eff s.2.2.1 s.2.2.2 0=_
   unfold q2e
   simp only[beqF he,cF,show decide ((0:Int)<3)=true from rfl,cT]
 obtain⟨r,⟨b',n',rfl,h1,h2⟩,e⟩:=h
 exact⟨b',n',e,h1,h2⟩
theorem ends8{a z:LI}(ha:a.length=4)(hz:z.length=4):((y8 4 (((y8 0 q1h)++a)++(y9 4 q1h)))++z)++(y9 8 (((y8 0 q1h)++a)++(y9 4 q1h)))=a++z:=by
 match a,z,ha,hz with
 |[a0,a1,a2,a3],[z0,z1,z2,z3],_,_=>rfl
theorem modes_of{b p q e1 e2 c b' b2:LI}{n n' n2 eff m1 m2:Int}{f:Bool}(h1:q7e 600 t 4=some (p,q,()))(h2:qhl 600 p=some (e1,m1,()))(h3:qhl 600 q=some (e2,m2,()))(l1:e1.length=4)(l2:e2.length=4)
  (h4:qeb 600 t (e1++e2) [m1,m2]=some (c,())) (h5:q0p 600 b 6 t n c=some (f,6,t,b',n',())) (h6:q0t 600 600 b' 6 t n' eff (e1++e2) [m1,m2] 0=some (b2,(6:Int),t,n2,())):
  q6c 600 b 6 t n eff=some (6,t,b2,n2,()):=by
 unfold q6c
 simp only[h1,h2,h3,y5,ends8 tl tr l1 l2,h4,h5,h6]
theorem je2{b:LI}{n:Int}(hI:InvB 6 t b n)(eff:Int):∃b' n' i j c,q6c 600 b 6 t n eff=some (6,t,b',n',())∧InvB 6 t b' n' ∧n' ≤n∧i<16∧j<16∧
  (∀i' j',i' <16→j' <16→farV 4 (rowP t i') (rowP t j')≤farV 4 (rowP t i) (rowP t j))∧n' ≤qbp 6 c t∧Okb 16 c∧
  ∀q,q<64→(qbn c).getD q 0=(sixR (endL (rowP t i)++endL (rowP t j)) [(endB (rowP t i):Int),(endB (rowP t j):Int)]).getD (sixI t (sixR (endL (rowP t i)++endL (rowP t j)) [(endB (rowP t i):Int),(endB (rowP t j):Int)]) (q/4)*4+q%4) 0:=by
 obtain⟨i,j,hi,hj,e1,hm⟩:=j3w tr (n:=4) (by decide)
 have r1:=q5t (by decide) tr i
 have r2:=q5t (by decide) tr j
 have ok:SixOk (endL (rowP t i)++endL (rowP t j)) [(endB (rowP t i):Int),(endB (rowP t j):Int)]:=by
  refine⟨by rw[yo,z0n,z0n],qew (zzr _) (zzr _),rfl,?_⟩
  have b1:=zzq (rowP t i)
  have b2:=zzq (rowP t j)
  exact q42 (by omega) (q42 (by omega) (j87 (by decide)))
 obtain⟨c,g1,ok16,hd⟩:=j8o tr ok
 obtain⟨f,b1,n1,g2,j1,j2,j3⟩:=z0m fmt6 tl tr hI (show Okb (q29 6) c from ok16)
 obtain⟨b',n',g3,l1,l2⟩:=j6p tl tr (n:=n1) (s:=(b1,n1,endL (rowP t i)++endL (rowP t j),[(endB (rowP t i):Int),(endB (rowP t j):Int)])) ⟨j1,Int.le_refl _,ok⟩ eff
 exact⟨b',n',i,j,c,modes_of tl tr e1 (j8m r1) (j8m r2) (z0n _) (z0n _) g1 g2 g3,l1,by omega,hi,hj,hm,by omega,ok16,hd⟩
end
theorem qfz{f:Nat→Int}{N j:Nat}(hj:j<N)(h0:f j=0)(hn:∀i,0≤f i):f (q3d f N)=0:=by
 have:=zoc f (n:=N) (i:=j) hj
 have:=hn (q3d f N)
 omega
def Dual(t:LI)(u v:Nat→Int):Prop:=∀i,i<16→(∀c,c<4→t.getD (i*4+c) 0=u c)∨∀c,c<4→t.getD (i*4+c) 0=v c
theorem j44{t:LI}{u v:Nat→Int}(hd:Dual t u v)(ht:Rg 255 t){n i j:Nat}(hn:n≤4)(hi:i<16)(hj:j<16)(hm:∀i' j',i' <16→j' <16→farV n (rowP t i') (rowP t j')≤farV n (rowP t i) (rowP t j)):
  ∀q,q<16→(∀c,c<n→t.getD (q*4+c) 0=t.getD (i*4+c) 0)∨∀c,c<n→t.getD (q*4+c) 0=t.getD (j*4+c) 0:=by
 intro q hq
 have hr:∀i,Rg 255 (rowP t i):=fun i=>q5t (by decide) ht i
 have far0:∀a b,(∀c,c<n→t.getD (a*4+c) 0=t.getD (b*4+c) 0)→farV n (rowP t a) (rowP t b)=0:=fun a b h=>(qhz (hr a) (hr b)).2 fun c hc=>by
  rw[q2l (by omega),q2l (by omega)]
  exact h c hc
 have back:∀a b,farV n (rowP t a) (rowP t b)=0→∀c,c<n→t.getD (a*4+c) 0=t.getD (b*4+c) 0:=fun a b h c hc=>by
  have:=(qhz (hr a) (hr b)).1 h c hc
  rwa [q2l (by omega),q2l (by omega)]at this
 have same:(∀c,c<n→t.getD (i*4+c) 0=t.getD (j*4+c) 0)→∀c,c<n→t.getD (q*4+c) 0=t.getD (i*4+c) 0:=fun h=>back q i (by
  have h1:=hm q i hq hi
  rw[far0 i j h]at h1
  have:=qfy (hr q) (hr i) n
  omega)
 rcases hd q hq with hq' |hq' <;>rcases hd i hi with hi' |hi' <;>rcases hd j hj with hj' |hj'
 ·exact .inl fun c hc=>by rw[hq' c (by omega),hi' c (by omega)]
 ·exact .inl fun c hc=>by rw[hq' c (by omega),hi' c (by omega)]
 ·exact .inr fun c hc=>by rw[hq' c (by omega),hj' c (by omega)]
 ·exact .inl (same fun c hc=>by rw[hi' c (by omega),hj' c (by omega)])
 ·exact .inl (same fun c hc=>by rw[hi' c (by omega),hj' c (by omega)])
 ·exact .inr fun c hc=>by rw[hq' c (by omega),hj' c (by omega)]
 ·exact .inl fun c hc=>by rw[hq' c (by omega),hi' c (by omega)]
 ·exact .inl fun c hc=>by rw[hq' c (by omega),hi' c (by omega)]
def ExC(u:Nat→Int):Prop:=(∃a:Nat,a<32∧u 0=qox 5 a)∧(∃a:Nat,a<64∧u 1=qox 6 a)∧∃a:Nat,a<32∧u 2=qox 5 a
theorem qzq{b n:Nat}(h:n<2^b):q51 b (n:Int)=qox b n:=by
 unfold q51
 have:(n:Int)%2^b=(n:Int):=Int.emod_eq_of_lt (by omega) (by
  have e:((2^b:Nat):Int)=(2:Int)^b:=by simp
  rw[←e]
  omega)
 rw[this,yb]
theorem zoi{x:LI}{u:Nat→Int}(hu:ExC u)(hx:∀c,c<3→x.getD c 0=u c):∀c,c<3→(colV (q8c x)).getD c 0=x.getD c 0:=by
 obtain⟨⟨a,ha,ea⟩,⟨b,hb,eb⟩,⟨d,hd,ed⟩⟩:=hu
 have na:q76 5 (x.getD 0 0) 32=a:=by
  rw[hx 0 (by decide),ea]
  simpa using List.all_eq_true.1 near5 a (List.mem_range.2 ha)
 have nb:q76 6 (x.getD 1 0) 64=b:=by
  rw[hx 1 (by decide),eb]
  simpa using List.all_eq_true.1 near6 b (List.mem_range.2 hb)
 have nd:q76 5 (x.getD 2 0) 32=d:=by
  rw[hx 2 (by decide),ed]
  simpa using List.all_eq_true.1 near5 d (List.mem_range.2 hd)
 have pv:q8c x=2048*(a:Int)+32*(b:Int)+(d:Int):=by
  unfold q8c
  rw[na,nb,nd]
 rw[pv]
 intro c hc
 have hc' :c=0∨c=1∨c=2:=by omega
 rcases hc' with rfl|rfl|rfl
 ·show q51 5 ((2048*(a:Int)+32*(b:Int)+(d:Int))/2048)=_
  rw[show(2048*(a:Int)+32*(b:Int)+(d:Int))/2048=(a:Int) by omega,qzq (by omega),hx 0 (by decide),ea]
 ·show q51 6 ((2048*(a:Int)+32*(b:Int)+(d:Int))/32)=_
  rw[qzm (b:=6) (y:=(b:Int)) (by omega),qzq (by omega),hx 1 (by decide),eb]
 ·show q51 5 (2048*(a:Int)+32*(b:Int)+(d:Int))=_
  rw[qzm (b:=5) (y:=(d:Int)) (by omega),qzq (by omega),hx 2 (by decide),ed]
theorem ztw(a b:Int)(four:Bool){c:Nat}(hc:c<4):(palV a b four).getD c 0=(colV a).getD c 0∧(palV a b four).getD (4+c) 0=(colV b).getD c 0:=by
 have hc' :c=0∨c=1∨c=2∨c=3:=by omega
 unfold palV
 split<;>rcases hc' with rfl|rfl|rfl|rfl<;>exact⟨rfl,rfl⟩
theorem jaf{t:LI}{a b:Int}(ha:Rn a)(hb:Rn b)(four:Bool){j:Nat}(hj:j<64):
  (qw6 (twoB t a b four) four).getD j 0=(palV a b four).getD (q3d (fun q=>farV 3 (rowP t (j/4)) (rowP (palV a b four) q)) 4*4+j%4) 0:=by
 have hl:0≤a+b*2^16∧a+b*2^16<2^32:=by have:=ha;have:=hb;omega
 have ok:=jdp t (palV a b four)
 have e0:lv (twoB t a b four) 0 16=a:=qrc hl (by decide) (by decide) ok (by decide) (by have:=ha;omega) fun i hi=>by
  have:=q81 (x:=a) (v:=b) (m:=16) (by have:=ha;omega) (0+i)
  rw[this,iP (by omega),Nat.zero_add]
 have e1:lv (twoB t a b four) 16 16=b:=qrc hl (by decide) (by decide) ok (by decide) (by have:=hb;omega) fun i hi=>by
  have:=q81 (x:=a) (v:=b) (m:=16) (by have:=ha;omega) (16+i)
  rw[this,iN (by omega),show 16+i-16=i by omega]
 unfold qw6
 rw[e0,e1,zo9 (qnx _ _ _) (qtb _) hj,zz2 _ (by omega)]
 have e2:lv (twoB t a b four) (32+2*(j/4)) 2=(hexW t (palV a b four)).getD (j/4) 0:=qrd hl (by decide) (by decide) ok (by omega)
 rw[e2]
 unfold hexW
 rw[q0g (by omega),yb]
theorem j45{t:LI}(ht:Rg 255 t){u v:Nat→Int}(hd:Dual t u v)(hu:ExC u)(hv:ExC v){i j:Nat}(hi:i<16)(hj:j<16)
  (hm:∀i' j',i' <16→j' <16→farV 3 (rowP t i') (rowP t j')≤farV 3 (rowP t i) (rowP t j)) (four:Bool):∀q,q<64→q%4<3→(qw6 (twoB t (q8c (rowP t i)) (q8c (rowP t j)) four) four).getD q 0=t.getD q 0:=by
 intro q hq hc
 have pb:∀x,Rn (q8c x):=fun x=>by
  have h1:=qh4 (b:=5) (x.getD 0 0)
  have h2:=qh4 (b:=6) (x.getD 1 0)
  have h3:=qh4 (b:=5) (x.getD 2 0)
  rw[show(2:Nat)^5=32 from rfl]at h1 h3
  rw[show(2:Nat)^6=64 from rfl]at h2
  unfold q8c Rn
  omega
 have ex:∀i,i<16→∀c,c<3→(colV (q8c (rowP t i))).getD c 0=t.getD (i*4+c) 0:=fun i hi c hc=>by
  rw[←q2l (p:=t) (show c<4 by omega)]
  rcases hd i hi with h|h
  ·exact zoi hu (fun c hc=>by rw[q2l (by omega)];exact h c (by omega)) c hc
  ·exact zoi hv (fun c hc=>by rw[q2l (by omega)];exact h c (by omega)) c hc
 rw[jaf (pb _) (pb _) four hq]
 have hr:=q5t (p:=t) (m:=255) (by decide) ht (q/4)
 have hp:=j5y (q8c (rowP t i)) (q8c (rowP t j)) four
 have hz:farV 3 (rowP t (q/4)) (rowP (palV (q8c (rowP t i)) (q8c (rowP t j)) four) (q3d (fun x=>farV 3 (rowP t (q/4)) (rowP (palV (q8c (rowP t i)) (q8c (rowP t j)) four) x)) 4))=0:=by
  rcases j44 hd ht (n:=3) (by decide) hi hj hm (q/4) (by omega)with h|h
  ·refine qfz (f:=fun x=>farV 3 (rowP t (q/4)) (rowP (palV (q8c (rowP t i)) (q8c (rowP t j)) four) x)) (j:=0) (by decide) ((qhz hr (q5t (by decide) hp 0)).2 fun c hc=> ?_) fun x=>qfy hr (q5t (by decide) hp x) 3
   rw[q2l (by omega),q2l (by omega),Nat.zero_mul,Nat.zero_add,(ztw _ _ four (by omega)).1,ex i hi c hc]
   exact h c hc
  ·refine qfz (f:=fun x=>farV 3 (rowP t (q/4)) (rowP (palV (q8c (rowP t i)) (q8c (rowP t j)) four) x)) (j:=1) (by decide) ((qhz hr (q5t (by decide) hp 1)).2 fun c hc=> ?_) fun x=>qfy hr (q5t (by decide) hp x) 3
   rw[q2l (by omega),q2l (by omega),Nat.one_mul,(ztw _ _ four (by omega)).2,ex j hj c hc]
   exact h c hc
 have:=(qhz hr (q5t (by decide) hp _)).1 hz (q%4) hc
 rw[q2l (by omega),q2l (by omega),show q/4*4+q%4=q by omega]at this
 exact this.symm
theorem j46(a b:Int):(q6g a b).getD 1 0=b:=by
 by_cases h:a≤b
 ·rw[j7t h];rfl
 ·rw[j7u h];rfl
theorem rS_two{l:LI}(hl:Rg 255 l){x y:Int}(h:∀i,i<16→l.getD i 0=x∨l.getD i 0=y):rS (q6g (maxT l 16) (minT l 16)) l=0:=by
 have hmx:=zb8 hl 16
 have hmn:=zb7 hl 16
 have at1:∃i,i<16∧l.getD i 0=minT l 16:=by
  rcases jdw l 16 with g|g
  ·refine⟨0,by decide,?_⟩
   have h1:=j6i l (n:=16) (i:=0) (by decide)
   have h2:=hl 0
   omega
  ·exact g
 have at2:∃i,i<16∧l.getD i 0=maxT l 16:=by
  rcases jdx l 16 with g|g
  ·refine⟨0,by decide,?_⟩
   have h1:=j6j l (n:=16) (i:=0) (by decide)
   have h2:=hl 0
   omega
  ·exact g
 obtain⟨i1,g1,g2⟩:=at1
 obtain⟨i2,g3,g4⟩:=at2
 unfold rS
 have hr:=zgy hmx hmn
 refine(qm5 fun i _=>(zh3 hr hl i).1).2 fun i hi=> ?_
 have a1:=j6i l hi
 have a2:=j6j l hi
 have b0:=h i hi
 have b1:=h i1 g1
 have b2:=h i2 g3
 have nn:∀j,0≤((q6g (maxT l 16) (minT l 16)).getD j 0-l.getD i 0)*((q6g (maxT l 16) (minT l 16)).getD j 0-l.getD i 0):=fun j=>(q6v (m:=255) (by have:=hr j;have:=hl i;omega)).1
 by_cases e:l.getD i 0=maxT l 16
 ·exact qfz (f:=fun j=>((q6g (maxT l 16) (minT l 16)).getD j 0-l.getD i 0)*((q6g (maxT l 16) (minT l 16)).getD j 0-l.getD i 0)) (j:=0) (by decide) (sq_zero.2 (by rw[zod,e];omega)) nn
 ·have e:l.getD i 0=minT l 16:=by omega
  exact qfz (f:=fun j=>((q6g (maxT l 16) (minT l 16)).getD j 0-l.getD i 0)*((q6g (maxT l 16) (minT l 16)).getD j 0-l.getD i 0)) (j:=1) (by decide) (sq_zero.2 (by rw[j46,e];omega)) nn
theorem z0o{t b:LI}(ht:Rg 255 t){c:Nat}(hc:c<4){u v:Nat→Int}(hd:Dual t u v)(hb:Bytes b)(h0:0≤errC (colT t c) b)(h1:errC (colT t c) b≤rS (q6g (maxT (colT t c) 16) (minT (colT t c) 16)) (colT t c)):
  ∀i,i<16→(qci b).getD i 0=t.getD (i*4+c) 0:=by
 have hl:Rg 255 (colT t c):=zaz ht c
 rw[rS_two hl (x:=u c) (y:=v c) fun i hi=>by
  unfold colT
  rw[q0g hi]
  exact(hd i hi).imp (fun h=>h c hc) fun h=>h c hc]at h1
 have hz:errC (colT t c) b=0:=by omega
 intro i hi
 have hf:=z7h hb
 have:=(qm5 (n:=16) fun i _=>(q6v (x:=(qci b).getD i 0-(colT t c).getD i 0) (m:=255) (by have:=hf i;have:=hl i;omega)).1).1 hz i hi
 rw[sq_zero]at this
 have e:(colT t c).getD i 0=t.getD (i*4+c) 0:=q0g hi
 omega
def ExS(u:Nat→Int):Prop:=∃p:Nat,p<2∧∀c,c<4→u c%2=(p:Int)
theorem je3{t c:LI}(ht:Rg 255 t){u v:Nat→Int}(hd:Dual t u v)(hu:ExS u)(hv:ExS v){i j:Nat}(hi:i<16)(hj:j<16)
  (hm:∀i' j',i' <16→j' <16→farV 4 (rowP t i') (rowP t j')≤farV 4 (rowP t i) (rowP t j))
  (hdec:∀q,q<64→(qbn c).getD q 0=(sixR (endL (rowP t i)++endL (rowP t j)) [(endB (rowP t i):Int),(endB (rowP t j):Int)]).getD (sixI t (sixR (endL (rowP t i)++endL (rowP t j)) [(endB (rowP t i):Int),(endB (rowP t j):Int)]) (q/4)*4+q%4) 0):
  ∀q,q<64→(qbn c).getD q 0=t.getD q 0:=by
 intro q hq
 rw[hdec q hq]
 have ex:∀i,i<16→∀c,c<4→2*(endL (rowP t i)).getD c 0+(endB (rowP t i):Int)=t.getD (i*4+c) 0:=fun i hi c hc=>by
  have key:∀w:Nat→Int,ExS w→(∀c,c<4→t.getD (i*4+c) 0=w c)→2*(endL (rowP t i)).getD c 0+(endB (rowP t i):Int)=t.getD (i*4+c) 0:=fun w ⟨p,hp,h⟩ hw=>by
   rw[←q2l (p:=t) hc]
   exact jdy (q5t (by decide) ht i) hp (fun c hc=>by rw[q2l hc,hw c hc];exact h c hc) c hc
  exact(hd i hi).elim (key u hu) (key v hv)
 have el:∀i,(rowP t i).length=4∨True:=fun i=> .inr trivial
 have e0:∀c,c<4→endV (endL (rowP t i)++endL (rowP t j)) [(endB (rowP t i):Int),(endB (rowP t j):Int)] c=t.getD (i*4+c) 0:=fun c hc=>by
  have l1:=z0n (rowP t i)
  have g:(endL (rowP t i)++endL (rowP t j)).getD c 0=(endL (rowP t i)).getD c 0:=by
   simp only[ye]
   rw[yg (by omega)]
  have hb:=zzr (rowP t i) c
  have hb2:=zzq (rowP t i)
  unfold endV
  rw[g,show c/4=0 by omega]
  show 2*((endL (rowP t i)).getD c 0%128)+(endB (rowP t i):Int)%2=_
  have:=ex i hi c hc
  omega
 have e1:∀c,c<4→endV (endL (rowP t i)++endL (rowP t j)) [(endB (rowP t i):Int),(endB (rowP t j):Int)] (4+c)=t.getD (j*4+c) 0:=fun c hc=>by
  have l1:=z0n (rowP t i)
  have g:(endL (rowP t i)++endL (rowP t j)).getD (4+c) 0=(endL (rowP t j)).getD c 0:=by
   simp only[ye]
   rw[yz (by omega),l1,show 4+c-4=c by omega]
  have hb:=zzr (rowP t j) c
  have hb2:=zzq (rowP t j)
  unfold endV
  rw[g,show(4+c)/4=1 by omega]
  show 2*((endL (rowP t j)).getD c 0%128)+(endB (rowP t j):Int)%2=_
  have:=ex j hj c hc
  omega
 have hr:=q5t (p:=t) (m:=255) (by decide) ht (q/4)
 have hp:=jdz (endL (rowP t i)++endL (rowP t j)) [(endB (rowP t i):Int),(endB (rowP t j):Int)]
 have r0:∀c,c<4→(sixR (endL (rowP t i)++endL (rowP t j)) [(endB (rowP t i):Int),(endB (rowP t j):Int)]).getD (0*4+c) 0=t.getD (i*4+c) 0:=fun c hc=>by
  unfold sixR
  rw[q0g (by omega)]
  unfold qzo
  rw[show(0*4+c)%4=c by omega,show(0*4+c)/4=0 by omega]
  show mx _ _ 0 4=_
  rw[j86,e0 c hc]
 have r15:∀c,c<4→(sixR (endL (rowP t i)++endL (rowP t j)) [(endB (rowP t i):Int),(endB (rowP t j):Int)]).getD (15*4+c) 0=t.getD (j*4+c) 0:=fun c hc=>by
  unfold sixR
  rw[q0g (by omega)]
  unfold qzo
  rw[show(15*4+c)%4=c by omega,show(15*4+c)/4=15 by omega]
  show mx _ _ 15 4=_
  rw[mx_last]
  exact e1 c hc
 generalize sixR (endL (rowP t i)++endL (rowP t j)) [(endB (rowP t i):Int),(endB (rowP t j):Int)]=r at hp r0 r15⊢
 have hz:farV 4 (rowP t (q/4)) (rowP r (sixI t r (q/4)))=0:=by
  rcases j44 hd ht (n:=4) (by decide) hi hj hm (q/4) (by omega)with h|h
  ·refine qfz (f:=fun x=>farV 4 (rowP t (q/4)) (rowP r x)) (j:=0) (by decide) ((qhz hr (q5t (by decide) hp 0)).2 fun c hc=> ?_) fun x=>qfy hr (q5t (by decide) hp x) 4
   rw[q2l hc,q2l hc,r0 c hc]
   exact h c hc
  ·refine qfz (f:=fun x=>farV 4 (rowP t (q/4)) (rowP r x)) (j:=15) (by decide) ((qhz hr (q5t (by decide) hp 15)).2 fun c hc=> ?_) fun x=>qfy hr (q5t (by decide) hp x) 4
   rw[q2l hc,q2l hc,r15 c hc]
   exact h c hc
 have:=(qhz hr (q5t (by decide) hp _)).1 hz (q%4) (by omega)
 rw[q2l (by omega),q2l (by omega),show q/4*4+q%4=q by omega]at this
 exact this.symm
def ExB(k:Nat)(u:Nat→Int):Prop:=(k≤3→ExC u)∧(k=2→∃a:Nat,a<16∧u 3=qox 4 a)∧(k=6→ExS u)
theorem oneT_at(v:Nat→Int){c:Nat}(hc:c<4):(oneT v).getD c 0=v c:=by
 unfold oneT
 rw[q0g (by omega),show c%4=c by omega]
theorem j8p{a b:LI}(ha:a.length=8)(hb:b.length=8):lo13 (a++b)=a∧hi13 (a++b)=b:=by
 constructor
 ·unfold lo13
  rw[←ha,List.take_left']
  rfl
 ·unfold hi13
  rw[yo,ha,hb,show 8+8-8=8 from rfl]
  rw[show(8:Nat)=a.length from ha.symm,List.drop_left',ha,←hb,List.take_length]
  rfl
theorem z7q{k:Nat}(hk:1≤k∧k≤6){t b:LI}(tr:Rg 255 t)(hb:Okb (q29 k) b)(h:∀q,q<64→bitM (qr8 k) (q%4)=true→(qw7 k b).getD q 0=t.getD q 0):qbp k b t=0:=by
 have hf:Fmt k:=⟨hk.1,by omega⟩
 have hs:scT k t=t:=by
  have:k=1∨k=2∨k=3∨k=4∨k=5∨k=6:=by omega
  rcases this with rfl|rfl|rfl|rfl|rfl|rfl<;>rfl
 unfold qbp
 rw[hs]
 exact(j3d (q31 tr (by decide)) (q31 (z7k hb.1 hf) (qhx k))).2 fun j hj hm=>(h j hj hm).symm
def Pair(k:Nat)(t:LI):Prop:=∃u v,Dual t u v∧ExB k u∧ExB k v
section
variable {t:LI} (tl:t.length=64) (tr:Rg 255 t)
include tl tr
def RndB(k:Nat)(t b:LI)(n now:Int)(b' :LI)(n' :Int):Prop:=∀q a2,now≤a2→
 q1t 600 (q+1) (k:Int) a2 t b (k:Int) t n now=q1t 600 q (k:Int) a2 t b' (k:Int) t n' (y0 .i64 (now+1))
theorem round_1{b:LI}{n:Int}(hI:InvB 1 t b n)(now:Int):∃b' n',RndB 1 t b n now b' n' ∧InvB 1 t b' n' ∧n' ≤n∧(Pair 1 t→n' ≤0):=by
 have hk:Fmt 1:=⟨by decide,by decide⟩
 obtain⟨b',n',i,j,e,i1,l1,hi,hj,hm,l2⟩:=zb6 hk tl tr (ah:=[]) ⟨fun x hx=>absurd hx List.not_mem_nil,rfl⟩ false hI now
 have e' :q1b 600 b 1 t n t [] false now=some (1,t,b',n',()):=e
 refine⟨b',n',fun q a2 h=> ?_,i1,l1,fun⟨u,v,hd,hu,hv⟩=> ?_⟩
 ·show q16 600 (q1t 600 q) 1 a2 t b 1 t n now=_
  unfold q16
  simp only[h,dT,cT,show((1:Int)==1)=true from rfl,e',y5]
  rfl
 ·rw[List.nil_append]at l2
  have hz:qbp 1 (twoB t (q8c (rowP t i)) (q8c (rowP t j)) false) t=0:=z7q ⟨by decide,by decide⟩ tr (show Okb (q29 1) (twoB t (q8c (rowP t i)) (q8c (rowP t j)) false)from zh2 t (q8c (rowP t i)) (q8c (rowP t j)) false) fun q hq hm' =>
   j45 tr hd (hu.1 (by decide)) (hv.1 (by decide)) hi hj hm false q hq (by
    have:q%4≠3:=fun e=>by rw[e]at hm';cases hm'
    omega)
  omega
theorem j8q{k:Nat}(hk:k=2∨k=3){ah:LI}(ha:Okb 8 ah){i j:Nat}(hi:i<16)(hj:j<16)(hm:∀i' j',i' <16→j' <16→farV 3 (rowP t i') (rowP t j')≤farV 3 (rowP t i) (rowP t j))
  {u v:Nat→Int} (hd:Dual t u v) (hu:ExB k u) (hv:ExB k v) {l:LI} (hdec:∀b:LI,hi13 (ah++b)=b→lo13 (ah++b)=ah→qw7 k (ah++b)=wT 3 l (qw6 b true)) (hl:∀i,i<16→l.getD i 0=t.getD (i*4+3) 0):
  qbp k (ah++twoB t (q8c (rowP t i)) (q8c (rowP t j)) true) t=0:=by
 have o2:=zh2 t (q8c (rowP t i)) (q8c (rowP t j)) true
 obtain⟨g1,g2⟩:=j8p ha.2 o2.2
 have h16:q29 k=16:=by rcases hk with rfl|rfl<;>rfl
 refine z7q (by omega) tr (by rw[h16];exact zb1 ha o2) fun q hq hm' => ?_
 rw[hdec _ g2 g1]
 unfold wT
 rw[q0g hq]
 by_cases h3:q%4=3
 ·rw[iP h3,hl _ (by omega),show q/4*4+3=q by omega]
 ·rw[iN h3]
  exact j45 tr hd (hu.1 (by omega)) (hv.1 (by omega)) hi hj hm true q hq (by omega)
theorem round_2{b:LI}{n:Int}(hI:InvB 2 t b n)(now:Int):∃b' n',RndB 2 t b n now b' n' ∧InvB 2 t b' n' ∧n' ≤n∧(Pair 2 t→n' ≤0):=by
 have hk:Fmt 2:=⟨by decide,by decide⟩
 have fo:=ja6 t
 obtain⟨b',n',i,j,e,i1,l1,hi,hj,hm,l2⟩:=zb6 hk tl tr (ah:=zcd t) ⟨fo.1,by rw[fo.2];rfl⟩ true hI now
 have e' :q1b 600 b 2 t n t (zcd t) true now=some (2,t,b',n',()):=e
 refine⟨b',n',fun q a2 h=> ?_,i1,l1,fun⟨u,v,hd,hu,hv⟩=> ?_⟩
 ·show q16 600 (q1t 600 q) 2 a2 t b 2 t n now=_
  unfold q16
  simp only[h,dT,cT,cF,show((2:Int)==1)=false from rfl,show((2:Int)==2)=true from rfl,ja7 tr,e',y5]
  rfl
 ·have hz:=j8q tl tr (k:=2) (.inl rfl) fo hi hj hm hd hu hv (l:=zap (zcd t)) (fun b h1 h2=>by show wT 3 (zap (lo13 _)) (qw6 (hi13 _) true)=_;rw[h1,h2]) fun i hi=>by
   rw[j41 t hi]
   have key:∀w:Nat→Int,ExB 2 w→(∀c,c<4→t.getD (i*4+c) 0=w c)→q51 4 (q76 4 (t.getD (i*4+3) 0) 16:Int)=t.getD (i*4+3) 0:=fun w hw h=>by
    obtain⟨a,a1,a2⟩:=hw.2.1 rfl
    have hs:q76 4 (qox 4 a) 16=a:=by
     have hn:q8h 600 (qox 4 a) 4=some ((q76 4 (qox 4 a) 16:Int),()):=zo3 (F:=600) (b:=4) (by decide) (by decide) (by
      have:=q82 (b:=4) (by decide) (a:Int)
      rw[qzq (by omega)]at this
      omega)
     have hc:=List.all_eq_true.1 j5b a (List.mem_range.2 a1)
     rw[hn,beq_iff_eq]at hc
     have:=(Prod.mk.inj (Option.some.inj hc)).1
     omega
    rw[h 3 (by decide),a2,hs,qzq (by omega)]
   exact(hd i hi).elim (key u hu) (key v hv)
  omega
theorem round_3{b:LI}{n:Int}(hI:InvB 3 t b n)(now:Int):∃b' n',RndB 3 t b n now b' n' ∧InvB 3 t b' n' ∧n' ≤n∧(Pair 3 t→n' ≤0):=by
 have hk:Fmt 3:=⟨by decide,by decide⟩
 obtain⟨r,er,ok,r0,r1⟩:=z7p tl tr (c:=3) (by decide) now
 have er' :q5z 600 t 3 now=some (r,()):=er
 obtain⟨b',n',i,j,e,i1,l1,hi,hj,hm,l2⟩:=zb6 hk tl tr (ah:=r) ⟨ok.1,by rw[ok.2];rfl⟩ true hI now
 have e' :q1b 600 b 3 t n t r true now=some (3,t,b',n',()):=e
 refine⟨b',n',fun q a2 h=> ?_,i1,l1,fun⟨u,v,hd,hu,hv⟩=> ?_⟩
 ·show q16 600 (q1t 600 q) 3 a2 t b 3 t n now=_
  unfold q16
  simp only[h,dT,cT,cF,show((3:Int)==1)=false from rfl,show((3:Int)==2)=false from rfl,show((3:Int)==3)=true from rfl,er',e',y5]
  rfl
 ·have hz:=j8q tl tr (k:=3) (.inr rfl) ok hi hj hm hd hu hv (l:=qci r) (fun b h1 h2=>by show wT 3 (qci (lo13 _)) (qw6 (hi13 _) true)=_;rw[h1,h2]) (z0o tr (by decide) hd ok.1 r0 r1)
  omega
theorem round_4{b:LI}{n:Int}(hI:InvB 4 t b n)(now:Int):∃b' n',RndB 4 t b n now b' n' ∧InvB 4 t b' n' ∧n' ≤n∧(Pair 4 t→n' ≤0):=by
 have hk:Fmt 4:=⟨by decide,by decide⟩
 obtain⟨r,er,ok,r0,r1⟩:=z7p tl tr (c:=0) (by decide) now
 have er' :q5z 600 t 0 now=some (r,()):=er
 obtain⟨f,b',n',e,i1,l1,l2⟩:=z0m hk tl tr hI (show Okb (q29 4) r from ok)
 have e' :q0p 600 b 4 t n r=some (f,4,t,b',n',()):=e
 refine⟨b',n',fun q a2 h=> ?_,i1,l1,fun⟨u,v,hd,hu,hv⟩=> ?_⟩
 ·show q16 600 (q1t 600 q) 4 a2 t b 4 t n now=_
  unfold q16
  simp only[h,dT,cT,cF,show((4:Int)==1)=false from rfl,show((4:Int)==2)=false from rfl,show((4:Int)==3)=false from rfl,show((4:Int)==4)=true from rfl,er',e',y5]
  rfl
 ·have hz:qbp 4 r t=0:=z7q ⟨by decide,by decide⟩ tr ok fun q hq hm' =>by
   have h0:q%4=0:=by
    have:q%4=0∨q%4=1∨q%4=2∨q%4=3:=by omega
    rcases this with h|h|h|h
    ·exact h
    all_goals (rw[h]at hm';cases hm')
   show(wT 0 (qci (lo13 r)) (qo0 255)).getD q 0=_
   rw[lo13_8 ok.2]
   unfold wT
   rw[q0g hq,iP h0,z0o tr (by decide) hd ok.1 r0 r1 _ (by omega),show q/4*4+0=q by omega]
  omega
theorem round_5{b:LI}{n:Int}(hI:InvB 5 t b n)(now:Int):∃b' n',RndB 5 t b n now b' n' ∧InvB 5 t b' n' ∧n' ≤n∧(Pair 5 t→n' ≤0):=by
 have hk:Fmt 5:=⟨by decide,by decide⟩
 obtain⟨r,er,ok,r0,r1⟩:=z7p tl tr (c:=0) (by decide) now
 obtain⟨s,es,oks,s0,s1⟩:=z7p tl tr (c:=1) (by decide) now
 have er' :q5z 600 t 0 now=some (r,()):=er
 have es' :q5z 600 t 1 now=some (s,()):=es
 obtain⟨f,b',n',e,i1,l1,l2⟩:=z0m hk tl tr hI (show Okb (q29 5) (r++s)from zb1 ok oks)
 have e' :q0p 600 b 5 t n (r++s)=some (f,5,t,b',n',()):=e
 refine⟨b',n',fun q a2 h=> ?_,i1,l1,fun⟨u,v,hd,hu,hv⟩=> ?_⟩
 ·show q16 600 (q1t 600 q) 5 a2 t b 5 t n now=_
  unfold q16
  simp only[h,dT,cT,cF,show((5:Int)==1)=false from rfl,show((5:Int)==2)=false from rfl,show((5:Int)==3)=false from rfl,show((5:Int)==4)=false from rfl,show((5:Int)==5)=true from rfl,er',es',ok.2,oks.2,e',y5,show(decide (8+8≤1099511627776)&&true)=true from rfl]
  rfl
 ·obtain⟨g1,g2⟩:=j8p ok.2 oks.2
  have hz:qbp 5 (r++s) t=0:=z7q ⟨by decide,by decide⟩ tr (zb1 ok oks) fun q hq hm' =>by
   have h0:q%4=0∨q%4=1:=by
    have:q%4=0∨q%4=1∨q%4=2∨q%4=3:=by omega
    rcases this with h|h|h|h
    ·exact .inl h
    ·exact .inr h
    all_goals (rw[h]at hm';cases hm')
   show(wT 1 (qci (hi13 (r++s))) (wT 0 (qci (lo13 (r++s))) (qo0 255))).getD q 0=_
   rw[g1,g2]
   unfold wT
   rw[q0g hq]
   rcases h0 with h0|h0
   ·rw[iN (by omega),q0g hq,iP h0,z0o tr (by decide) hd ok.1 r0 r1 _ (by omega),show q/4*4+0=q by omega]
   ·rw[iP h0,z0o tr (by decide) hd oks.1 s0 s1 _ (by omega),show q/4*4+1=q by omega]
  omega
theorem round_6{b:LI}{n:Int}(hI:InvB 6 t b n)(now:Int):∃b' n',RndB 6 t b n now b' n' ∧InvB 6 t b' n' ∧n' ≤n∧(Pair 6 t→n' ≤0):=by
 obtain⟨b',n',i,j,c,e,i1,l1,hi,hj,hm,l2,ok,hd6⟩:=je2 tl tr hI now
 refine⟨b',n',fun q a2 h=> ?_,i1,l1,fun⟨u,v,hd,hu,hv⟩=> ?_⟩
 ·show q16 600 (q1t 600 q) 6 a2 t b 6 t n now=_
  unfold q16
  simp only[h,dT,cT,cF,show((6:Int)==1)=false from rfl,show((6:Int)==2)=false from rfl,show((6:Int)==3)=false from rfl,show((6:Int)==4)=false from rfl,show((6:Int)==5)=false from rfl,e,y5]
  rfl
 ·have hz:qbp 6 c t=0:=z7q ⟨by decide,by decide⟩ tr ok fun q hq _=>je3 tr hd (hu.2.2 rfl) (hv.2.2 rfl) hi hj hm hd6 q hq
  omega
theorem j8r{k:Nat}(hk:1≤k∧k≤6){b:LI}{n:Int}(hI:InvB k t b n)(now:Int):∃b' n',RndB k t b n now b' n' ∧InvB k t b' n' ∧n' ≤n∧(Pair k t→n' ≤0):=by
 have:k=1∨k=2∨k=3∨k=4∨k=5∨k=6:=by omega
 rcases this with rfl|rfl|rfl|rfl|rfl|rfl
 ·exact round_1 tl tr hI now
 ·exact round_2 tl tr hI now
 ·exact round_3 tl tr hI now
 ·exact round_4 tl tr hI now
 ·exact round_5 tl tr hI now
 ·exact round_6 tl tr hI now
theorem j6q{k:Nat}(hk:1≤k∧k≤6):∃b1 n1 b2 n2,q1e 600 (k:Int) t 0=some (qip k (scT k t),qbp k (qip k (scT k t)) t,0,())∧q1e 600 (k:Int) t 1=some (b1,n1,0,())∧q1e 600 (k:Int) t 2=some (b2,n2,0,())∧
  InvB k t b1 n1∧InvB k t b2 n2∧n1≤qbp k (qip k (scT k t)) t∧n2≤n1∧(Pair k t→n1≤0):=by
 have hf:Fmt k:=⟨hk.1,by omega⟩
 have hok:=z7o (scT k t) hf
 obtain⟨b1,n1,r1,i1,l1,z1⟩:=j8r tl tr hk (b:=qip k (scT k t)) (n:=qbp k (qip k (scT k t)) t) ⟨hok,rfl⟩ 1
 obtain⟨b2,n2,r2,i2,l2,_⟩:=j8r tl tr hk i1 2
 have h1:¬(k:Int)<1:=by omega
 have h6:¬(6:Int)<(k:Int):=by omega
 have e:∀a2:Int,0≤a2→a2≤2→q1e 600 (k:Int) t a2=(q1t 600 600 (k:Int) a2 t (qip k (scT k t)) (k:Int) t (qbp k (qip k (scT k t)) t) 1).bind fun r=>some (r.1,r.2.2.2.1,(0:Int),()):=by
  intro a2 h0 h2
  unfold q1e
  rw[zb3 hf tl tr (zb2 tl tr)]
  simp only[z0i hok.1 hf hok.2 tl tr,h1,h6,dF,cF,y5,bne_self_eq_false,show¬a2<0 by omega,show¬2<a2 by omega]
 have stop:∀q (a2 x:Int) b n,a2<x→q1t 600 (q+1) (k:Int) a2 t b (k:Int) t n x=some (b,(k:Int),t,n,()):=by
  intro q a2 x b n h
  show q16 600 (q1t 600 q) _ _ _ _ _ _ _ _=_
  unfold q16
  simp only[show¬x≤a2 by omega,dF,cF]
 refine⟨b1,n1,b2,n2,?_,?_,?_,i1,i2,l1,l2,z1⟩
 ·rw[e 0 (by decide) (by decide),stop 599 0 1 _ _ (by decide)]
  rfl
 ·rw[e 1 (by decide) (by decide),r1 599 1 (by decide),show y0 .i64 (1+1)=2 from rfl,stop 598 1 2 _ _ (by decide)]
  rfl
 ·rw[e 2 (by decide) (by decide),r1 599 2 (by decide),show y0 .i64 (1+1)=2 from rfl,r2 598 2 (by decide),show y0 .i64 (2+1)=3 from rfl,stop 597 2 3 _ _ (by decide)]
  rfl
end
theorem j47{f:Int}(h:¬(1≤f∧f≤6))(t:LI)(e:Int):q1e 600 f t e=some ([],0,5,()):=by
 unfold q1e
 by_cases h7:f<1
 ·simp only[h7,dT,cT]
 ·simp only[h7,show 6<f by omega,dT,dF,cT,cF]
theorem je4{k:Nat}(hk:1≤k∧k≤6){t:LI}(hb:q8q 600 t=some (false,()))(e:Int):q1e 600 (k:Int) t e=some ([],0,1,()):=by
 have hf:Fmt k:=⟨hk.1,by omega⟩
 have h7:¬(k:Int)<1:=by omega
 have h12:¬(6:Int)<(k:Int):=by omega
 unfold q1e qaq
 rw[zzb 600 hf,hb]
 simp only[h7,h12,dF,cF,y5,bne_self_eq_false,Bool.not_false,cT,show((1:Int) !=0)=true from rfl]
theorem j6r{k:Nat}(hk:1≤k∧k≤6){t:LI}(tl:t.length=64)(tr:Rg 255 t){e:Int}(he:e<0∨2<e):q1e 600 (k:Int) t e=some ([],0,1,()):=by
 have hf:Fmt k:=⟨hk.1,by omega⟩
 have h7:¬(k:Int)<1:=by omega
 have h12:¬(6:Int)<(k:Int):=by omega
 unfold q1e
 rw[zb3 hf tl tr (zb2 tl tr)]
 simp only[h7,h12,dF,cF,y5,bne_self_eq_false]
 by_cases h0:e<0
 ·simp only[h0,dT,cT]
 ·simp only[h0,show 2<e by omega,dT,dF,cT,cF]
theorem jag(f:Int){t:LI}(tl:t.length=64)(e:Int):(∃x:Int,x≠0∧qhj 600 f t e 1 6=some (x,())∧q1e 600 f t e=some ([],0,x,()))∨
  (∃k:Nat,(1≤k∧k≤6)∧f=(k:Int)∧Rg 255 t∧(e=0∨e=1∨e=2)∧qhj 600 f t e 1 6=some (0,())):=by
 by_cases hf:1≤f∧f≤6
 ·obtain⟨k,rfl⟩:∃k:Nat,f=(k:Int):=⟨f.toNat,by omega⟩
  have hk:1≤k∧k≤6:=by omega
  have h7:¬(k:Int)<1:=by omega
  have h12:¬(6:Int)<(k:Int):=by omega
  rcases zsm tl with⟨hb,tr⟩|hb
  ·by_cases he:e<0∨2<e
   ·refine .inl ⟨1,by decide,?_,j6r hk tl tr he⟩
    unfold qhj
    rw[hb]
    simp only[h7,h12,dF,cF,y5,Bool.not_true]
    by_cases h0:e<0
    ·simp only[h0,dT,cT]
    ·simp only[h0,show 2<e by omega,dT,dF,cT,cF]
   ·refine .inr ⟨k,hk,rfl,tr,by omega,?_⟩
    unfold qhj
    rw[hb]
    simp only[h7,h12,dF,cF,y5,Bool.not_true,show¬e<0 by omega,show¬2<e by omega]
  ·have hb2:q8q 600 t=some (false,()):=by
    rcases zzg tl with⟨h,tr⟩|h
    ·rw[zof tl tr]at hb
     cases hb
    ·exact h
   refine .inl ⟨1,by decide,?_,je4 hk hb2 e⟩
   unfold qhj
   rw[hb]
   simp only[h7,h12,dF,cF,y5,Bool.not_false,cT]
 ·refine .inl ⟨5,by decide,?_,j47 hf t e⟩
  unfold qhj
  by_cases h7:f<1
  ·simp only[h7,dT,cT]
  ·simp only[h7,show 6<f by omega,dT,dF,cT,cF]
theorem FitB_inv{k:Nat}(hk:1≤k∧k≤6){t:LI}(tl:t.length=64)(tr:Rg 255 t){e:Int}(he:e=0∨e=1∨e=2):∃b n,q1e 600 (k:Int) t e=some (b,n,0,())∧InvB k t b n∧((e=1∨e=2)→Pair k t→n≤0):=by
 obtain⟨b1,n1,b2,n2,e0,e1,e2,i1,i2,l1,l2,z⟩:=j6q tl tr hk
 rcases he with rfl|rfl|rfl
 ·exact⟨_,_,e0,⟨z7o _ ⟨hk.1,by omega⟩,rfl⟩,fun h=>by omega⟩
 ·exact⟨_,_,e1,i1,fun _=>z⟩
 ·exact⟨_,_,e2,i2,fun _ h=>Int.le_trans l2 (z h)⟩
theorem Two_is(u v:Nat→Int)(which:Int):∃T,ql4 600 (tab 4 u) (tab 4 v) which=some (T,())∧T.length=64∧Dual T u v:=by
 obtain⟨r,⟨T,hr,hl,hd⟩,e⟩:=qcj (N:=16) (by decide) (fun q (s:Int×LI) i=>q9v 600 q s.1 (tab 4 u) (tab 4 v) q12 s.2 i)
  (fun i s=>∃g,s.2=tab 64 g∧∀q,q<i→(∀c,c<4→g (q*4+c)=u c)∨∀c,c<4→g (q*4+c)=v c) (fun r=>∃T,r=(q12,T,())∧T.length=64∧Dual T u v)
  (fun q i s hi hs=>by
   obtain⟨g,hg,hq⟩:=hs
   have h3:(i:Int)<16:=by omega
   have r1:((y8 (i*4) s.2++tab 4 u)++y9 (i*4+4) s.2)=tab 64 fun j=>if j/4=i then u (j%4)else g j:=by rw[hg,j5d (by omega)]
   have r2:((y8 (i*4) (tab 64 fun j=>if j/4=i then u (j%4)else g j)++tab 4 v)++y9 (i*4+4) (tab 64 fun j=>if j/4=i then u (j%4)else g j))=tab 64 fun j=>if j/4=i then v (j%4)else g j:=by
    rw[j5d (by omega)]
    refine q02 fun j hj=> ?_
    by_cases h:j/4=i
    ·rw[iP h,iP h]
    ·rw[iN h,iN h,iN h]
   have keep:∀w:Nat→Int,(w=u∨w=v)→∀q,q<i+1→(∀c,c<4→(fun j=>if j/4=i then w (j%4)else g j) (q*4+c)=u c)∨∀c,c<4→(fun j=>if j/4=i then w (j%4)else g j) (q*4+c)=v c:=fun w hw q hq' =>by
    by_cases h:q=i
    ·subst h
     rcases hw with rfl|rfl
     ·exact .inl fun c hc=>by
       show(if(q*4+c)/4=q then w ((q*4+c)%4)else g (q*4+c))=w c
       rw[iP (by omega),show(q*4+c)%4=c by omega]
     ·exact .inr fun c hc=>by
       show(if(q*4+c)/4=q then w ((q*4+c)%4)else g (q*4+c))=w c
       rw[iP (by omega),show(q*4+c)%4=c by omega]
    ·refine(hq q (by omega)).imp (fun hh c hc=> ?_) fun hh c hc=> ?_
     ·show(if(q*4+c)/4=i then w ((q*4+c)%4)else g (q*4+c))=_
      rw[iN (by omega)]
      exact hh c hc
     ·show(if(q*4+c)/4=i then w ((q*4+c)%4)else g (q*4+c))=_
      rw[iN (by omega)]
      exact hh c hc
   show∃s' :Int×LI,_∧qjt 600 (q9v 600 q) s.1 (tab 4 u) (tab 4 v) q12 s.2 (i:Int)=_
   unfold qjt
   simp only[h3,dT,cT,yc,yd,yb,r1,r2,q08 (show i<1000000000000 by omega)]
   cases(iand .i64 s.1 1==1)
   ·exact⟨(ishr .i64 s.1 1,tab 64 fun j=>if j/4=i then u (j%4)else g j),⟨fun j=>if j/4=i then u (j%4)else g j,rfl,keep u (.inl rfl)⟩,rfl⟩
   ·exact⟨(ishr .i64 s.1 1,tab 64 fun j=>if j/4=i then v (j%4)else g j),⟨fun j=>if j/4=i then v (j%4)else g j,rfl,keep v (.inr rfl)⟩,rfl⟩)
  (fun q s hs=>by
   obtain⟨g,hg,hq⟩:=hs
   refine⟨_,⟨s.2,rfl,by rw[hg];exact q0f _ _,fun i hi=> ?_⟩,rfl⟩
   refine(hq i hi).imp (fun hh c hc=> ?_) fun hh c hc=> ?_
   ·rw[hg,q0g (by omega)];exact hh c hc
   ·rw[hg,q0g (by omega)];exact hh c hc)
  (s:=(which,q12)) ⟨fun _=>0,rfl,fun q hq=>by omega⟩
 subst hr
 refine⟨T,?_,hl,hd⟩
 unfold ql4
 have e' :q9v 600 600 which (tab 4 u) (tab 4 v) q12 q12 0=some (q12,T,()):=e
 rw[e']
 rfl
theorem dual_rg{T:LI}{u v:Nat→Int}(hl:T.length=64)(hd:Dual T u v)(hu:∀c,c<4→0≤u c∧u c≤255)(hv:∀c,c<4→0≤v c∧v c≤255):Rg 255 T:=by
 intro j
 by_cases hj:j<64
 ·have e:j=j/4*4+j%4:=by omega
  rw[e]
  rcases hd (j/4) (by omega)with h|h
  ·rw[h _ (by omega)];exact hu _ (by omega)
  ·rw[h _ (by omega)];exact hv _ (by omega)
 ·rw[qnz (l:=T) (by omega)]
  decide
def T15:LI:=[255,9,9,9,0,9,9,9,255,9,9,9,0,9,9,9,255,9,9,9,0,9,9,9,0,9,9,9,0,9,9,9,0,9,9,9,0,9,9,9,0,9,9,9,0,9,9,9,0,9,9,9,0,9,9,9,0,9,9,9,0,9,9,9]
theorem T15_is:ql4 600 [(0:Int),(9:Int),(9:Int),(9:Int)] [(255:Int),(9:Int),(9:Int),(9:Int)] (21:Int)=some (T15,()):=by kernel_rfl
def x15(c:Nat):Int:=if c=0 then 0 else 9
def y15(c:Nat):Int:=if c=0 then 255 else 9
theorem j8s:Dual T15 x15 y15:=by
 obtain⟨T,h,_,hd⟩:=Two_is x15 y15 21
 have e:ql4 600 (tab 4 x15) (tab 4 y15) 21=some (T15,()):=T15_is
 rw[e]at h
 rw[(Prod.mk.inj (Option.some.inj h)).1]
 exact hd
theorem j48:Rg 255 T15:=dual_rg rfl j8s (ztu (by decide) (by decide) (by decide) (by decide)) (ztu (by decide) (by decide) (by decide) (by decide))
theorem j6s:∃b:LI,q1e 600 4 T15 1=some (b,0,0,())∧b.length=8:=by
 obtain⟨b,n,e,i,z⟩:=FitB_inv (k:=4) (by decide) (t:=T15) rfl j48 (e:=1) (.inr (.inl rfl))
 have nn:=zcb (k:=4) ⟨by decide,by decide⟩ i.1.1 j48
 have z:=z (.inl rfl) ⟨x15,y15,j8s,⟨fun h=>absurd h (by decide),fun h=>absurd h (by decide),fun h=>absurd h (by decide)⟩,⟨fun h=>absurd h (by decide),fun h=>absurd h (by decide),fun h=>absurd h (by decide)⟩⟩
 have hn:n=0:=by have:=i.2;omega
 subst hn
 exact⟨b,e,i.1.2⟩
theorem j49:∃(b:LI) (n:Int),q1e 600 4 T15 0=some (b,n,0,())∧0<n∧b.length=8:=by
 obtain⟨b1,n1,b2,n2,e0,_⟩:=j6q (t:=T15) rfl j48 (k:=4) (by decide)
 have hf:Fmt 4:=⟨by decide,by decide⟩
 have ok:=z7o (scT 4 T15) hf
 refine⟨_,_,e0,?_,ok.2⟩
 have nn:=zcb hf ok.1 j48
 have hne:qbp 4 (qip 4 (scT 4 T15)) T15≠0:=fun h=>by
  have hs:scT 4 T15=T15:=rfl
  unfold qbp at h
  rw[hs]at h ok
  have hd:=z7k ok.1 hf
  have hz:=(j3d (mask:=qr8 4) (q31 j48 (by decide)) (q31 hd (qhx 4))).1 h
  rw[dec_blk _ hf]at hz
  have h0:=hz 0 (by decide) rfl
  have h4:=hz 4 (by decide) rfl
  have o0:(oneT (j9z 4 T15)).getD 0 0=j9z 4 T15 0:=oneT_at _ (by decide)
  have o4:(oneT (j9z 4 T15)).getD 4 0=j9z 4 T15 0:=by
   unfold oneT
   rw[q0g (by decide)]
  rw[o0]at h0
  rw[o4]at h4
  have t0:T15.getD 0 0=255:=rfl
  have t4:T15.getD 4 0=0:=rfl
  omega
 omega
theorem jah{T b b0:LI}{n:Int}(h0:ql4 600 [(0:Int),(9:Int),(9:Int),(9:Int)] [(255:Int),(9:Int),(9:Int),(9:Int)] (21:Int)=some (T,()))(e1:q1e 600 4 T 1=some (b,0,0,()))(hb:b.length=8)(e2:q1e 600 4 T 0=some (b0,n,0,()))(hn:0<n)(hb0:b0.length=8)
  (e3:q1e 600 7 T 1=some ([],0,5,())):ql7 600=some (true,()):=by
 unfold ql7
 simp only[h0,e1,e2,e3,y5,hb,hb0,hn,dT,cT,beq_self_eq_true,show(((8:Nat):Int)==8)=true from rfl]
theorem awake15:ql7 600=some (true,()):=by
 obtain⟨b,e1,hb⟩:=j6s
 obtain⟨b0,n,e2,hn,hb0⟩:=j49
 exact jah T15_is e1 hb e2 hn hb0 (j47 (by decide) T15 1)
theorem law15_BcfitLess_true(f:Int)(t:LI)(_:IntKind.i64.has f)(ht:t.length=64∧∀x∈t,IntKind.i64.has x):∃F,ql8 F f t=some (true,()):=by
 refine⟨600,?_⟩
 unfold ql8
 rw[awake15]
 simp only[y5]
 rcases jag f ht.1 0 with⟨x,hx,hm,hF⟩|⟨k,hk,rfl,tr,he,hm⟩
 ·rw[hm]
  simp only[y5,bneT hx,cT]
 ·have hf:Fmt k:=⟨hk.1,by omega⟩
  obtain⟨b1,n1,b2,n2,e0,e1,e2,i1,i2,l1,l2,_⟩:=j6q ht.1 tr hk
  have ob:=z7o (scT k t) hf
  have hs:=Same_is (F:=600) (qip k (scT k t)) (by have:=z0f k;rw[ob.2];omega) (by decide)
  rw[hm]
  simp only[y5,bne_self_eq_false,cF,e0,e1,e2,j6f ht.1 tr hf,hs,beq_self_eq_true,cT,l1,l2,dT]
end Go.AE.Gn

/- A part of the proof, put together of my texts: PureX, Pure16a, Pure16b, Pure16c, Pure16d, Pure16e, Pure16f, Pure16g. -/
import Derived.Test.YtdnccegimipapaaGreatRowEtcfitLessP6
set_option linter.unusedSimpArgs false
set_option linter.unusedVariables false
set_option linter.unusedSectionVars false
open List renaming getD_eq_getElem?_getD → ye, getElem?_eq_none → wa, take → y8, drop → y9, getD_cons_zero → yt, getD_cons_succ → yu, mem_cons → yr, mem_append → yk, length_append → yo, range → w8
open Int renaming natCast_nonneg → yc, toNat_natCast → yb, cast_ofNat_Int → yp, natCast_zero → yq, tdiv → yx, tmod → yw, lt_irrefl → yv, natCast_pow → we, toNat → y6, eq_ofNat_of_zero_le → yh
open Bool renaming and_self → yd, false_eq_true → yn
open Option renaming bind_some → y5
open Go.IntKind renaming wrap → y0
open Nat renaming le_refl → wc
open Prod.mk renaming injEq → ym
namespace Go.AE.Gn
open Go Go.AE
def Rg(m:Int)(l:LI):Prop:=∀j,0≤l.getD j 0∧l.getD j 0≤m
theorem zo5{l:LI}{j:Nat}(h:l.length≤j):l.getD j 0=0:=by
 rw[ye,wa h]
 rfl
theorem qd7{m:Int}{N:Nat}{g:Nat→Int}(hm:0≤m)(h:∀j,j<N→0≤g j∧g j≤m):Rg m (tab N g):=by
 intro j
 by_cases hj:j<N
 ·rw[q7o hj]
  exact h j hj
 ·rw[zo5 (by rw[q1y];omega)]
  omega
theorem q3f{m m' :Int}{l:LI}(h:Rg m l)(hm:m≤m'):Rg m' l:=fun j=>⟨(h j).1,Int.le_trans (h j).2 hm⟩
theorem qbt{m:Int}{a b:LI}(ha:Rg m a)(hb:Rg m b):Rg m (a++b):=by
 intro j
 simp only[ye,List.getElem?_append]
 split
 ·have:=ha j
  simpa[ye]using this
 ·have:=hb (j-a.length)
  simpa[ye]using this
theorem q1z{m x:Int}{a:LI}(hx:0≤x∧x≤m)(ha:Rg m a):Rg m (x::a):=by
 intro j
 cases j with
 |zero=>simpa using hx
 |succ j=>simpa using ha j
theorem qs7{m:Int}(hm:0≤m):Rg m []:=fun j=>by simp[hm]
theorem rg_tex10(d f:Bool)(A B T W:LI)(i:Nat):Rg 255 (zg4 (q1l d A B) T W f i):=
 q1z (q0z _) (q1z (q0z _) (q1z (q0z _) (q1z (qj9 d A B _) (qs7 (by decide)))))
theorem zq8{l:LI}{j:Nat}:((l.drop (j/4*4)).take 4).getD (j%4) 0=l.getD j 0:=by
 simp only[ye,List.getElem?_take,List.getElem?_drop]
 rw[iP (by omega)]
 congr 2
 omega
theorem zh3(d f:Bool)(A B T W:LI):Rg 255 (qck d f A B T W):=by
 intro j
 by_cases hj:j<64
 ·rw[←zq8,show((qck d f A B T W).drop (j/4*4)).take 4=zg4 (q1l d A B) T W f (j/4)from qmc _ (fun _ _=>rfl) (by omega)]
  exact rg_tex10 d f A B T W _ _
 ·rw[zo5 (by rw[qqm];omega)]
  decide
theorem qhd(x y z:Int):Rg 255 (qbs x y z):=q1z (q1k (by decide) _) (q1z (q1k (by decide) _) (q1z (q1k (by decide) _) (q1z (by decide) (qs7 (by decide)))))
theorem z4d{l:LI}(h:Rg 255 l)(n:Int):Rg 255 (addV l n):=q1z (q0z _) (q1z (q0z _) (q1z (q0z _) (q1z (h 3) (qs7 (by decide)))))
theorem rg_fourT(b:LI):Rg 255 (qi7 b):=qbt (qhd _ _ _) (qbt (z4d (qhd _ _ _) _) (qbt (qhd _ _ _) (z4d (qhd _ _ _) _)))
theorem rg_fourH(b:LI):Rg 255 (qg0 b):=qbt (z4d (qhd _ _ _) _) (qbt (z4d (qhd _ _ _) _) (qbt (z4d (qhd _ _ _) _) (z4d (qhd _ _ _) _)))
theorem z07(b:LI)(p:Bool)(j:Nat):0≤qf5 b p j∧qf5 b p j≤255:=by
 unfold qf5 zF
 split
 ·decide
 ·unfold znz
  split
  ·unfold zcq qql
   split
   ·exact qj9 _ _ _ _
   ·exact zh3 _ _ _ _ _ _ j
  ·split
   ·exact rg_fourT b _
   ·split
    ·exact rg_fourH b _
    ·unfold z03 q65
     split
     ·decide
     ·exact q0z _
def eacL(b:LI)(wide:Bool):LI:=match q44 600 (hv b 12 4)with
 |some (l,_)=>eacD (hv b 0 8) (hv b 8 4) l (eacW b) wide
 |none=>[]
theorem zwf{b:LI}(hb:Bytes b)(hl:b.length=8)(wide:Bool):qjk 600 b wide=some (eacL b wide,0,()):=by
 obtain⟨tbl,h1,_,h3⟩:=zkw 600 (n:=hv b 12 4) (by have:=q0y b 12 4;omega)
 rw[zq7 (by decide) hb hl wide h1 h3]
 unfold eacL
 rw[h1]
theorem zky(b:LI)(wide:Bool):Rg (if wide then 2047 else 255) (eacL b wide):=by
 have hm:(0:Int)≤if wide then 2047 else 255:=by cases wide<;>decide
 cases hT:q44 600 (hv b 12 4)with
 |none=>simp only[eacL,hT];exact qs7 hm
 |some p=>simp only[eacL,hT];exact qd7 (N:=16) hm fun j _=>z5h _ _ _ _
def wT(c:Nat)(l t:LI):LI:=tab 64 fun j=>if j%4=c then l.getD (j/4) 0 else t.getD j 0
theorem wT_len(c:Nat)(l t:LI):(wT c l t).length=64:=q1y _ _
theorem rg_wT{m:Int}(hm:0≤m){c:Nat}{l t:LI}(hl:Rg m l)(ht:Rg m t):Rg m (wT c l t):=qd7 hm fun j _=>by
 split
 ·exact hl _
 ·exact ht _
def upW(c i:Nat)(l t:LI)(j:Nat):Int:=if j%4=c∧j/4<i then l.getD (j/4) 0 else t.getD j 0
theorem zwg{c i:Nat}(hc:c<4)(hi:i<16)(l t:LI):(tab 64 (upW c i l t)).set (i*4+c) (l.getD i 0)=tab 64 (upW c (i+1) l t):=by
 rw[zcc]
 refine q0b fun j hj=> ?_
 unfold upW
 by_cases h:j=i*4+c
 ·subst h
  rw[iP rfl,iP (by omega),show(i*4+c)/4=i by omega]
 ·rw[iN h]
  by_cases h2:j%4=c∧j/4<i
  ·rw[iP h2,iP (by omega)]
  ·rw[iN h2,iN (by omega)]
theorem zq9{c:Nat}(hc:c<4)(l t T:LI):∀(d i k:Nat),i+d=16→d<k→q8t 600 k c (tab 64 (upW c i l t)) T l (i:Int)=some (tab 64 (upW c 16 l t),T,()):=by
 intro d
 induction d with
 |zero=>
  intro i k h1 h2
  obtain⟨k,rfl⟩:∃k',k=k' +1:=⟨k-1,by omega⟩
  obtain rfl:i=16:=by omega
  rfl
 |succ d ih=>
  intro i k h1 h2
  obtain⟨k,rfl⟩:∃k',k=k' +1:=⟨k-1,by omega⟩
  show qdo 600 (q8t 600 k) c (tab 64 (upW c i l t)) T l i=_
  unfold qdo
  have h3:(i:Int)<16:=by omega
  have h4:(c:Int)<4:=by omega
  simp only[h3,h4,dT,cT,yc,yd,yb,zwg hc (show i<16 by omega),q0a (show i<1000000000000 by omega)]
  exact ih (i+1) k (by omega) (by omega)
theorem zwh{c:Nat}(hc:c<4){l t:LI}(ht:t.length=64)(e:Int):qk2 600 t c l e=some (wT c l t,()):=by
 have h:=zq9 hc l t q6c 16 0 600 (by omega) (by omega)
 have e0:tab 64 (upW c 0 l t)=t:=by
  conv=>rhs;rw[qi5 ht]
  exact q0b fun j hj=>by unfold upW;rw[iN (by omega)]
 have e1:tab 64 (upW c 16 l t)=wT c l t:=q0b fun j hj=>by
  unfold upW
  by_cases h2:j%4=c
  ·rw[iP h2,iP (by omega)]
  ·rw[iN h2,iN (by omega)]
 rw[e0,e1]at h
 unfold qk2
 rw[show((0:Nat):Int)=0 from rfl]at h
 rw[h]
 rfl
def qou(a:Int):LI:=tab 64 fun j=>if j%4=3 then a else 0
theorem qwp(a:Int):(qou a).length=64:=q1y _ _
theorem blank_is:qa2 600 false=some (qou 255,())∧qa2 600 true=some (qou 2047,()):=by constructor<;>kernel_rfl
theorem zo6{m a:Int}(h:0≤a∧a≤m):Rg m (qou a):=qd7 (by omega) fun j _=>by
 split<;>omega
def q3g(k:Nat):Nat:=match k with|1|4|7|8|9|11=>8|_=>16
def ql6(k:Nat):Int:=match k with|1|7|8=>7|2|3|6|9|10=>15|4|11=>1|_=>3
def qz2(k:Nat):Bool:=match k with|11|12=>true|_=>false
def z5i(k:Nat):Int:=if qz2 k then 2047 else 255
def Fmt(k:Nat):Prop:=7≤k∧k≤12
theorem qhe{p:Nat→Prop}(h7:p 7)(h8:p 8)(h9:p 9)(h10:p 10)(h11:p 11)(h12:p 12){k:Nat}(h:Fmt k):p k:=by
 obtain⟨a,b⟩:=h
 have:k=7∨k=8∨k=9∨k=10∨k=11∨k=12:=by omega
 rcases this with rfl|rfl|rfl|rfl|rfl|rfl<;>assumption
theorem zkz(F:Nat){k:Nat}(h:Fmt k):qa1 F (k:Int)=some (((q3g k:Int),ql6 k,qz2 k,()),0,()):=by
 refine qhe (p:=fun k=>qa1 F (k:Int)=some (((q3g k:Int),ql6 k,qz2 k,()),0,())) ?_ ?_ ?_ ?_ ?_ ?_ h<;>rfl
theorem Of_bad(F:Nat){f:Int}(h:¬(1≤f∧f≤12)):qa1 F f=some ((0,0,false,()),5,()):=by
 have hn:∀c:Int,1≤c→c≤12→(f==c)=false:=fun c h1 h2=>beqF (by omega)
 unfold qa1
 rw[hn 1 (by decide) (by decide),hn 7 (by decide) (by decide),hn 8 (by decide) (by decide),hn 2 (by decide) (by decide),hn 3 (by decide) (by decide),hn 6 (by decide) (by decide),hn 10 (by decide) (by decide),hn 9 (by decide) (by decide),hn 4 (by decide) (by decide),hn 11 (by decide) (by decide),hn 5 (by decide) (by decide),hn 12 (by decide) (by decide)]
 rfl
theorem fmt_of{f:Int}(h:7≤f∧f≤12):∃k,Fmt k∧f=(k:Int):=⟨f.toNat,⟨by omega,by omega⟩,by omega⟩
def lo13(b:LI):LI:=b.take 8
def hi13(b:LI):LI:=(b.drop (b.length-8)).take 8
theorem qov{b:LI}(hb:Bytes b):Bytes (lo13 b):=fun x hx=>hb x (List.mem_of_mem_take hx)
theorem qwq{b:LI}(hb:Bytes b):Bytes (hi13 b):=fun x hx=>hb x (List.mem_of_mem_drop (List.mem_of_mem_take hx))
theorem z8a{b:LI}(h:8≤b.length):(lo13 b).length=8:=by simp[lo13];omega
theorem zl0{b:LI}(h:8≤b.length):(hi13 b).length=8:=by simp[hi13];omega
theorem lo13_8{b:LI}(h:b.length=8):lo13 b=b:=List.take_of_length_le (by omega)
theorem qwr(k:Nat):8≤q3g k∧q3g k≤16:=by
 unfold q3g
 split<;>decide
def qw2(k:Nat)(b:LI):LI:=match k with
 |7=>zch b
 |8=>tab 64 (qf5 b false)
 |9=>tab 64 (qf5 b true)
 |10=>wT 3 (eacL (lo13 b) false) (tab 64 (qf5 (hi13 b) false))
 |11=>wT 0 (eacL (lo13 b) true) (qou 2047)
 |_=>wT 1 (eacL (hi13 b) true) (wT 0 (eacL (lo13 b) true) (qou 2047))
theorem z8b{b:LI}(hb:Bytes b){k:Nat}(h:Fmt k):Rg (z5i k) (qw2 k b):=by
 have hlo:=qov hb
 have hhi:=qwq hb
 refine qhe (p:=fun k=>Rg (z5i k) (qw2 k b)) ?_ ?_ ?_ ?_ ?_ ?_ h
 ·exact zh3 _ _ _ _ _ _
 ·exact qd7 (by decide) fun j _=>z07 _ _ _
 ·exact qd7 (by decide) fun j _=>z07 _ _ _
 ·exact rg_wT (by decide) (zky _ false) (qd7 (by decide) fun j _=>z07 _ _ _)
 ·exact rg_wT (by decide) (zky _ true) (zo6 (by decide))
 ·exact rg_wT (by decide) (zky _ true) (rg_wT (by decide) (zky _ true) (zo6 (by decide)))
theorem qnd{b t:LI}(hb:Bytes b)(hl:b.length=8)(ht:t.length=64){c:Nat}(hc:c<4)(x y:Int):q2n 600 t c b x y true=some (wT c (eacL b true) t,()):=by
 unfold q2n qhm
 simp only[cT,zwf hb hl,y5,zwh hc ht]
section
variable {b:LI}
theorem d13_7(hb:Bytes b)(hl:b.length=8)(x):q0v 600 7 x (lo13 b) (hi13 b) b=some (qw2 7 b,0,()):=by
 have h:=(zci (F:=600) (by decide) hb hl).1
 unfold q0v
 simp only[Int.reduceBEq,cT,cF,h,y5]
 rfl
theorem d13_8(hb:Bytes b)(hl:b.length=8)(x):q0v 600 8 x (lo13 b) (hi13 b) b=some (qw2 8 b,0,()):=by
 have h:=z05 hb hl false
 unfold q0v
 simp only[Int.reduceBEq,cT,cF,h,y5]
 rfl
theorem d13_9(hb:Bytes b)(hl:b.length=8)(x):q0v 600 9 x (lo13 b) (hi13 b) b=some (qw2 9 b,0,()):=by
 have h:=z05 hb hl true
 unfold q0v
 simp only[Int.reduceBEq,cT,cF,h,y5]
 rfl
theorem d13_10(hb:Bytes b)(hl:b.length=16)(x):q0v 600 10 x (lo13 b) (hi13 b) b=some (qw2 10 b,0,()):=by
 have h1:=zwf (qov hb) (z8a (b:=b) (by omega)) false
 have h2:=z05 (qwq hb) (zl0 (b:=b) (by omega)) false
 have h3:=fun e=>zwh (c:=3) (by decide) (l:=eacL (lo13 b) false) (q1y 64 (qf5 (hi13 b) false)) e
 simp only[yp]at h3
 unfold q0v
 simp only[Int.reduceBEq,cT,cF,h1,h2,h3,qte,y5]
 rfl
theorem d13_11(hb:Bytes b)(hl:b.length=8):q0v 600 11 (8,1,true,()) (lo13 b) (hi13 b) b=some (qw2 11 b,0,()):=by
 have h3:=fun x y=>qnd (qov hb) (z8a (by omega)) (qwp 2047) (c:=0) (by decide) x y
 simp only[yq]at h3
 unfold q0v
 simp only[Int.reduceBEq,cT,cF,blank_is.2,h3,y5]
 rfl
theorem d13_12(hb:Bytes b)(hl:b.length=16):q0v 600 12 (16,3,true,()) (lo13 b) (hi13 b) b=some (qw2 12 b,0,()):=by
 have h3:=fun x y=>qnd (qov hb) (z8a (by omega)) (qwp 2047) (c:=0) (by decide) x y
 have h4:=fun x y=>qnd (qwq hb) (zl0 (by omega)) (wT_len 0 (eacL (lo13 b) true) (qou 2047)) (c:=1) (by decide) x y
 simp only[yq,yp]at h3 h4
 unfold q0v
 simp only[Int.reduceBEq,cT,cF,blank_is.2,h3,h4,y5]
 rfl
theorem decode13(hb:Bytes b){k:Nat}(h:Fmt k):b.length=q3g k→q0v 600 (k:Int) ((q3g k:Int),ql6 k,qz2 k,()) (lo13 b) (hi13 b) b=some (qw2 k b,0,()):=
 qhe (p:=fun k=>b.length=q3g k→q0v 600 (k:Int) ((q3g k:Int),ql6 k,qz2 k,()) (lo13 b) (hi13 b) b=some (qw2 k b,0,()))
  (fun hl=>d13_7 hb hl _) (fun hl=>d13_8 hb hl _) (fun hl=>d13_9 hb hl _) (fun hl=>d13_10 hb hl _) (fun hl=>d13_11 hb hl) (fun hl=>d13_12 hb hl) h
theorem zcv(hb:Bytes b){k:Nat}(h:Fmt k)(hl:b.length=q3g k):qe1 600 (k:Int) b=some (qw2 k b,0,()):=by
 have g:=qwr k
 unfold qe1
 rw[zkz 600 h]
 have e1:y0 .i64 ((b.length:Int)-8)=((b.length-8:Nat):Int):=by rw[w64 (by omega) (by omega)];omega
 have e2:(((b.length:Nat):Int) !=(q3g k:Int))=false:=by rw[hl];simp
 have e3:psub b.length (b.length-8)=8:=by rw[zp7];omega
 simp only[y5,bne_self_eq_false,cF,e2,show 8≤b.length by omega,dT,cT,e1,yc,yb,show b.length-8≤b.length by omega,yd,e3]
 have h3:=decode13 hb h hl
 unfold lo13 hi13 at h3
 rw[h3]
 rfl
end
def scV(x:Int):Int:=8*x+x/32
def upS(n:Nat)(t:LI)(j:Nat):Int:=if j<n then scV (t.getD j 0)else t.getD j 0
theorem zwi{t:LI}{n:Nat}(hn:n<64):(tab 64 (upS n t)).set n (scV (t.getD n 0))=tab 64 (upS (n+1) t):=by
 rw[zcc]
 refine q0b fun j hj=> ?_
 unfold upS
 by_cases h:j=n
 ·subst h;rw[iP rfl,iP (by omega)]
 ·rw[iN h]
  by_cases h2:j<n
  ·rw[iP h2,iP (by omega)]
  ·rw[iN h2,iN (by omega)]
theorem zo7{t:LI}(ht:Rg 255 t)(T:LI){i:Nat}(hi:i<16)(y:Int):∀(d c k:Nat),c+d=4→d<k→
  q7e 600 k (tab 64 (upS (i*4+c) t)) T (i:Int) y (tab 4 fun c=>t.getD (i*4+c) 0) (c:Int)=some (tab 64 (upS (i*4+4) t),T,y,()):=by
 intro d
 induction d with
 |zero=>
  intro c k h1 h2
  obtain⟨k,rfl⟩:∃k',k=k' +1:=⟨k-1,by omega⟩
  obtain rfl:c=4:=by omega
  rfl
 |succ d ih=>
  intro c k h1 h2
  obtain⟨k,rfl⟩:∃k',k=k' +1:=⟨k-1,by omega⟩
  show qc1 600 (q7e 600 k) (tab 64 (upS (i*4+c) t)) T i y (tab 4 fun c=>t.getD (i*4+c) 0) c=_
  unfold qc1
  have h3:(i:Int)<16:=by omega
  have h4:(c:Int)<4:=by omega
  have hv:=ht (i*4+c)
  have e:y0 .i64 (y0 .i64 (8*t.getD (i*4+c) 0)+y0 .i64 (yx (t.getD (i*4+c) 0) 32))=scV (t.getD (i*4+c) 0):=by
   rw[q1x hv.1,w64 (x:=8*t.getD (i*4+c) 0) (by omega) (by omega),w64 (x:=t.getD (i*4+c) 0/32) (by omega) (by omega),w64 (by omega) (by omega)]
   rfl
  simp only[h3,h4,dT,cT,yc,yd,yb,q7o (show c<4 by omega),e,zwi (t:=t) (show i*4+c<64 by omega),q0a (show c<1000000000000 by omega)]
  exact ih (c+1) k (by omega) (by omega)
theorem zo8{t:LI}(ht:Rg 255 t)(T:LI):∀(d i k:Nat),i+d=16→d<k→q7f 600 k (tab 64 (upS (i*4) t)) T (i:Int)=some (tab 64 (upS 64 t),T,()):=by
 intro d
 induction d with
 |zero=>
  intro i k h1 h2
  obtain⟨k,rfl⟩:∃k',k=k' +1:=⟨k-1,by omega⟩
  obtain rfl:i=16:=by omega
  rfl
 |succ d ih=>
  intro i k h1 h2
  obtain⟨k,rfl⟩:∃k',k=k' +1:=⟨k-1,by omega⟩
  show qc2 600 (q7f 600 k) (tab 64 (upS (i*4) t)) T i=_
  unfold qc2
  have h3:(i:Int)<16:=by omega
  have e:y8 4 (y9 (i*4) (tab 64 (upS (i*4) t)))=tab 4 fun c=>t.getD (i*4+c) 0:=by
   rw[zkg (by omega)]
   exact q0b fun c hc=>by unfold upS;rw[iN (by omega)]
  have h:=zo7 ht T (i:=i) (by omega) i 4 0 600 (by omega) (by omega)
  simp only[Nat.add_zero,yq]at h
  simp only[h3,dT,cT,yc,yd,yb,e,h,y5,q0a (show i<1000000000000 by omega)]
  rw[show i*4+4=(i+1)*4 by omega]
  exact ih (i+1) k (by omega) (by omega)
def scT(k:Nat)(t:LI):LI:=if qz2 k then tab 64 fun j=>scV (t.getD j 0)else t
theorem z08{k:Nat}{t:LI}(ht:t.length=64):(scT k t).length=64:=by
 unfold scT
 split
 ·exact q1y _ _
 ·exact ht
theorem qw3{k:Nat}{t:LI}(ht:Rg 255 t):Rg (z5i k) (scT k t):=by
 unfold scT z5i
 cases qz2 k
 ·exact ht
 ·exact qd7 (by decide) fun j _=>by
   have:=ht j
   unfold scV
   simp only[if_true]
   omega
theorem zl1{k:Nat}(h:Fmt k){t:LI}(hl:t.length=64)(ht:Rg 255 t):qcr 600 (k:Int) t=some (scT k t,()):=by
 unfold qcr scT
 rw[zkz 600 h]
 simp only[y5]
 cases qz2 k
 ·rfl
 ·have h:=zo8 ht q6c 16 0 600 (by omega) (by omega)
  have e0:tab 64 (upS (0*4) t)=t:=by
   conv=>rhs;rw[qi5 hl]
   exact q0b fun j hj=>by unfold upS;rw[iN (by omega)]
  have e1:tab 64 (upS 64 t)=tab 64 fun j=>scV (t.getD j 0):=q0b fun j hj=>by unfold upS;rw[iP hj]
  rw[e0,e1,show((0:Nat):Int)=0 from rfl]at h
  simp only[Bool.not_true,cF,h,y5,if_true]
def bitM(mask:Int)(c:Nat):Bool:=mask/2^c%2==1
def errT(mask:Int)(s u:LI)(j:Nat):Int:=if bitM mask (j%4)then(s.getD j 0-u.getD j 0)*(s.getD j 0-u.getD j 0)else 0
def sumN(f:Nat→Int):Nat→Int
 |0=>0
 |n+1=>sumN f n+f n
theorem q98{f:Nat→Int}{m:Int}:∀{n:Nat},(∀i,i<n→0≤f i∧f i≤m)→0≤sumN f n∧sumN f n≤m*n
 |0,_=>by simp[sumN]
 |n+1,h=>by
  have h1:=q98 (n:=n) fun i hi=>h i (by omega)
  have h2:=h n (by omega)
  have e:m*((n+1:Nat):Int)=m*(n:Int)+m:=by
   rw[show((n+1:Nat):Int)=(n:Int)+1 by omega,Int.mul_add,Int.mul_one]
  unfold sumN
  rw[e]
  omega
theorem qws{f g:Nat→Int}:∀{n:Nat},(∀i,i<n→f i=g i)→sumN f n=sumN g n
 |0,_=>rfl
 |n+1,h=>by unfold sumN;rw[qws fun i hi=>h i (by omega),h n (by omega)]
theorem z2l{f:Nat→Int}:∀{n:Nat},(∀i,i<n→0≤f i)→(sumN f n=0↔∀i,i<n→f i=0)
 |0,_=>by simp[sumN]
 |n+1,h=>by
  have h1:=z2l (n:=n) fun i hi=>h i (by omega)
  have h0:0≤sumN f n:=by
   have:∀m,m≤n→0≤sumN f m:=by
    intro m
    induction m with
    |zero=>intro _;exact Int.le_refl 0
    |succ m ih=>intro hm;unfold sumN;have:=ih (by omega);have:=h m (by omega);omega
   exact this n (wc _)
  have h2:=h n (by omega)
  unfold sumN
  constructor
  ·intro e i hi
   by_cases hin:i=n
   ·subst hin;omega
   ·exact h1.1 (by omega) i (by omega)
  ·intro e
   have:=h1.2 fun i hi=>e i (by omega)
   have:=e n (by omega)
   omega
theorem qcb{x m:Int}(h: -m≤x∧x≤m):0≤x*x∧x*x≤m*m:=by
 have hm:0≤m:=by omega
 constructor
 ·rcases Int.le_total 0 x with h1|h1
  ·exact Int.mul_nonneg h1 h1
  ·have:=Int.mul_nonneg (a:= -x) (b:= -x) (by omega) (by omega)
   rwa [Int.neg_mul_neg]at this
 ·rcases Int.le_total 0 x with h1|h1
  ·exact Int.mul_le_mul h.2 h.2 h1 hm
  ·have:=Int.mul_le_mul (a:= -x) (b:= -x) (c:=m) (d:=m) (by omega) (by omega) (by omega) hm
   rwa [Int.neg_mul_neg]at this
theorem sq_zero{x:Int}:x*x=0↔x=0:=by
 rw[Int.mul_eq_zero]
 simp
theorem qwt{mask:Int}{s u:LI}(hs:Rg 2047 s)(hu:Rg 2047 u)(j:Nat):0≤errT mask s u j∧errT mask s u j≤2047*2047:=by
 unfold errT
 split
 ·have h1:=hs j
  have h2:=hu j
  exact qcb (m:=2047) (by omega)
 ·decide
def errS(mask:Int)(s u:LI):Int:=sumN (errT mask s u) 64
theorem zqa{mask:Int}{s u:LI}(hs:Rg 2047 s)(hu:Rg 2047 u):0≤errS mask s u:=(q98 (n:=64) fun i _=>qwt hs hu i).1
theorem zo9{mask:Int}{s u:LI}(hs:Rg 2047 s)(hu:Rg 2047 u):errS mask s u=0↔∀j,j<64→bitM mask (j%4)=true→s.getD j 0=u.getD j 0:=by
 unfold errS
 rw[z2l fun i _=>(qwt hs hu i).1]
 constructor
 ·intro h j hj hb
  have:=h j hj
  unfold errT at this
  rw[iP hb,sq_zero]at this
  omega
 ·intro h j hj
  unfold errT
  split
  ·rename_i hb
   rw[sq_zero,h j hj hb]
   omega
  ·rfl
theorem zsa{mask:Int}{c:Nat}(hc:c≤62):(iand .i64 (ishr .i64 mask (c:Int)) 1==1)=bitM mask c:=by
 have h:=ql0 (b:=1) (by decide) (x:=ishr .i64 mask (c:Int))
 rw[show((2:Int)^1-1)=1 from rfl]at h
 rw[h,zcb (by omega)]
 rfl
theorem zoa{mask:Int}{s u:LI}(hs:Rg 2047 s)(hu:Rg 2047 u){i:Nat}(hi:i<16)(y:Int):∀(d c k:Nat),c+d=4→d<k→
  q8u 600 k mask s u (sumN (errT mask s u) (i*4+c)) (i:Int) y (c:Int)=some (mask,s,u,sumN (errT mask s u) (i*4+4),y,()):=by
 intro d
 induction d with
 |zero=>
  intro c k h1 h2
  obtain⟨k,rfl⟩:∃k',k=k' +1:=⟨k-1,by omega⟩
  obtain rfl:c=4:=by omega
  rfl
 |succ d ih=>
  intro c k h1 h2
  obtain⟨k,rfl⟩:∃k',k=k' +1:=⟨k-1,by omega⟩
  show qdq 600 (q8u 600 k) mask s u (sumN (errT mask s u) (i*4+c)) i y c=_
  unfold qdq
  have h3:(i:Int)<16:=by omega
  have h4:(c:Int)<4:=by omega
  have b1:=hs (i*4+c)
  have b2:=hu (i*4+c)
  have b3:=q98 (n:=i*4+c) (f:=errT mask s u) fun j _=>qwt hs hu j
  have b5:(2047*2047:Int)*((i*4+c:Nat):Int)≤2047*2047*64:=Int.mul_le_mul_of_nonneg_left (by omega) (by decide)
  have nx:=ih (c+1) k (by omega) (by omega)
  rw[show i*4+(c+1)=(i*4+c)+1 by omega]at nx
  rw[show sumN (errT mask s u) (i*4+c+1)=sumN (errT mask s u) (i*4+c)+errT mask s u (i*4+c)from rfl]at nx
  cases hb:bitM mask c with
  |true=>
   have e:errT mask s u (i*4+c)=(s.getD (i*4+c) 0-u.getD (i*4+c) 0)*(s.getD (i*4+c) 0-u.getD (i*4+c) 0):=by
    unfold errT
    rw[iP (by rw[show(i*4+c)%4=c by omega];exact hb)]
   have b4:=qcb (x:=s.getD (i*4+c) 0-u.getD (i*4+c) 0) (m:=2047) (by omega)
   have sq:q51 600 (y0 .i64 (s.getD (i*4+c) 0-u.getD (i*4+c) 0))=some ((s.getD (i*4+c) 0-u.getD (i*4+c) 0)*(s.getD (i*4+c) 0-u.getD (i*4+c) 0),()):=by
    unfold q51
    rw[w64 (x:=s.getD (i*4+c) 0-u.getD (i*4+c) 0) (by omega) (by omega),w64 (by omega) (by omega)]
   rw[e]at nx
   simp only[h3,h4,dT,cT,yc,yd,yb,zsa (mask:=mask) (show c≤62 by omega),hb,sq,y5,q0a (show c<1000000000000 by omega)]
   rw[w64 (by omega) (by omega)]
   exact nx
  |false=>
   have e:errT mask s u (i*4+c)=0:=by
    unfold errT
    rw[iN (by rw[show(i*4+c)%4=c by omega,hb];simp)]
   rw[e,Int.add_zero]at nx
   simp only[h3,h4,dT,cT,cF,yc,yd,yb,zsa (mask:=mask) (show c≤62 by omega),hb,q0a (show c<1000000000000 by omega)]
   exact nx
theorem zob{mask:Int}{s u:LI}(hs:Rg 2047 s)(hu:Rg 2047 u):∀(d i k:Nat),i+d=16→d<k→q8v 600 k mask s u (sumN (errT mask s u) (i*4)) (i:Int)=some (errS mask s u,()):=by
 intro d
 induction d with
 |zero=>
  intro i k h1 h2
  obtain⟨k,rfl⟩:∃k',k=k' +1:=⟨k-1,by omega⟩
  obtain rfl:i=16:=by omega
  rfl
 |succ d ih=>
  intro i k h1 h2
  obtain⟨k,rfl⟩:∃k',k=k' +1:=⟨k-1,by omega⟩
  show qdr 600 (q8v 600 k) mask s u (sumN (errT mask s u) (i*4)) i=_
  unfold qdr
  have h3:(i:Int)<16:=by omega
  have h:=zoa hs hu (i:=i) (by omega) (i:Int) 4 0 600 (by omega) (by omega) (mask:=mask)
  simp only[Nat.add_zero,yq]at h
  simp only[h3,dT,cT,h,y5,q0a (show i<1000000000000 by omega)]
  rw[show i*4+4=(i+1)*4 by omega]
  exact ih (i+1) k (by omega) (by omega)
theorem zwj(mask:Int){s u:LI}(hs:Rg 2047 s)(hu:Rg 2047 u):qpl 600 s u mask=some (errS mask s u,()):=by
 have h:=zob hs hu 16 0 600 (by omega) (by omega) (mask:=mask)
 unfold qpl
 simp only[Nat.zero_mul,yq,sumN]at h
 rw[h]
 rfl
theorem qow(k:Nat):z5i k≤2047:=by
 unfold z5i
 split<;>decide
def q9g(k:Nat)(b t:LI):Int:=errS (ql6 k) (scT k t) (qw2 k b)
theorem qwu{b t:LI}(hb:Bytes b){k:Nat}(h:Fmt k)(hl:b.length=q3g k)(htl:t.length=64)(ht:Rg 255 t):qa5 600 (k:Int) b t=some (q9g k b t,0,()):=by
 unfold qa5
 rw[zcv hb h hl,zkz 600 h,zl1 h htl ht]
 simp only[y5,bne_self_eq_false,cF,zwj (ql6 k) (q3f (qw3 (k:=k) ht) (qow k)) (q3f (z8b hb h) (qow k))]
 rfl
theorem zcw(t:LI){i:Nat}(hi:i<16):∀(d c k:Nat),c+d=4→d<k→
  q14 600 k t (i:Int) (c:Int)=some (.inl ())∨(q14 600 k t (i:Int) (c:Int)=some (.inr (t,(i:Int),()))∧∀c',c≤c' →c' <4→0≤t.getD (i*4+c') 0∧t.getD (i*4+c') 0≤255):=by
 intro d
 induction d with
 |zero=>
  intro c k h1 h2
  obtain⟨k,rfl⟩:∃k',k=k' +1:=⟨k-1,by omega⟩
  obtain rfl:c=4:=by omega
  exact .inr ⟨rfl,fun c' h h' =>by omega⟩
 |succ d ih=>
  intro c k h1 h2
  obtain⟨k,rfl⟩:∃k',k=k' +1:=⟨k-1,by omega⟩
  have e:q14 600 (k+1) t (i:Int) (c:Int)=q4a 600 (q14 600 k) t i c:=rfl
  rw[e]
  unfold q4a
  have h3:(i:Int)<16:=by omega
  have h4:(c:Int)<4:=by omega
  simp only[h3,h4,dT,cT,yc,yd,yb,q0a (show c<1000000000000 by omega)]
  by_cases v1:t.getD (i*4+c) 0<0
  ·left
   simp only[v1,dT,cT]
  ·simp only[v1,dF,cF]
   by_cases v2:255<t.getD (i*4+c) 0
   ·left
    simp only[v2,dT,cT]
   ·simp only[v2,dF,cF]
    rcases ih (c+1) k (by omega) (by omega)with h|⟨h,h'⟩
    ·exact .inl h
    ·refine .inr ⟨h,fun c' g1 g2=> ?_⟩
     by_cases hc:c' =c
     ·subst hc;omega
     ·exact h' c' (by omega) g2
theorem zcx(t:LI):∀(d i k:Nat),i+d=16→d<k→
  q15 600 k t (i:Int)=some (.inl ())∨(q15 600 k t (i:Int)=some (.inr ())∧∀j,i*4≤j→j<64→0≤t.getD j 0∧t.getD j 0≤255):=by
 intro d
 induction d with
 |zero=>
  intro i k h1 h2
  obtain⟨k,rfl⟩:∃k',k=k' +1:=⟨k-1,by omega⟩
  obtain rfl:i=16:=by omega
  exact .inr ⟨rfl,fun j h h' =>by omega⟩
 |succ d ih=>
  intro i k h1 h2
  obtain⟨k,rfl⟩:∃k',k=k' +1:=⟨k-1,by omega⟩
  have e:q15 600 (k+1) t (i:Int)=q4b 600 (q15 600 k) t i:=rfl
  rw[e]
  unfold q4b
  have h3:(i:Int)<16:=by omega
  simp only[h3,dT,cT]
  rcases zcw t (i:=i) (by omega) 4 0 600 (by omega) (by omega)with h|⟨h,h'⟩
  ·left
   simp only[yq]at h
   simp only[h,y5]
  ·simp only[yq]at h
   simp only[h,y5,q0a (show i<1000000000000 by omega)]
   rcases ih (i+1) k (by omega) (by omega)with g|⟨g,g'⟩
   ·exact .inl g
   ·refine .inr ⟨g,fun j h5 h6=> ?_⟩
    by_cases hj:j<i*4+4
    ·have:=h' (j-i*4) (by omega) (by omega)
     rwa [show i*4+(j-i*4)=j by omega]at this
    ·exact g' j (by omega) h6
theorem zg6{t:LI}(hl:t.length=64):(q55 600 t=some (true,())∧Rg 255 t)∨q55 600 t=some (false,()):=by
 unfold q55
 rcases zcx t 16 0 600 (by omega) (by omega)with h|⟨h,h'⟩
 ·right
  simp only[yq]at h
  rw[h]
  rfl
 ·left
  simp only[yq]at h
  refine⟨by rw[h];rfl,fun j=> ?_⟩
  by_cases hj:j<64
  ·exact h' j (by omega) hj
  ·rw[zo5 (by omega)]
   decide
theorem mbit_is{mask:Int}(hm:0≤mask∧mask≤15){c:Nat}(hc:c<4):(yw (y0 .i64 (yx mask (2^c))) 2==1)=bitM mask c:=by
 have hp:(0:Int)<2^c:=qex c
 have h1:0≤mask/2^c:=Int.ediv_nonneg hm.1 (by omega)
 have h2:mask/2^c≤mask:=Int.ediv_le_self _ hm.1
 rw[q1x hm.1,w64 (by omega) (by omega),tmod_nonneg h1]
 rfl
theorem zoc(k:Nat):0≤ql6 k∧ql6 k≤15:=by
 unfold ql6
 split<;>decide
theorem zsb(F:Nat)(f:Int):qlp F f=qa1 F f∧∃r,qa1 F f=some r:=by
 by_cases h:1≤f∧f≤12
 ·have:f=1∨f=2∨f=3∨f=4∨f=5∨f=6∨f=7∨f=8∨f=9∨f=10∨f=11∨f=12:=by omega
  rcases this with rfl|rfl|rfl|rfl|rfl|rfl|rfl|rfl|rfl|rfl|rfl|rfl<;>exact⟨rfl,_,rfl⟩
 ·rw[Of_bad F h]
  refine⟨?_,_,rfl⟩
  unfold qlp
  by_cases h1:f<1
  ·simp only[h1,dT,cT]
  ·have h2:12<f:=by omega
   simp only[h1,dF,cF,h2,dT,cT]
def q2d(g:Nat→Int):Nat→Nat
 |0=>0
 |n+1=>if n=0 then 0 else if g n<g (q2d g n)then n else q2d g n
theorem qf3(g:Nat→Int):∀{n:Nat},0<n→q2d g n<n
 |0,h=>by omega
 |n+1,_=>by
  unfold q2d
  split
  ·omega
  ·split
   ·omega
   ·have:=qf3 g (n:=n) (by omega)
    omega
theorem zcy(g:Nat→Int):∀{n:Nat} {i:Nat},i<n→g (q2d g n)≤g i
 |0,i,h=>by omega
 |n+1,i,h=>by
  unfold q2d
  split
  ·have:i=0:=by omega
   subst this
   exact Int.le_refl _
  ·split
   ·by_cases hi:i=n
    ·subst hi;exact Int.le_refl _
    ·have:=zcy g (n:=n) (i:=i) (by omega)
     omega
   ·by_cases hi:i=n
    ·subst hi;omega
    ·exact zcy g (n:=n) (i:=i) (by omega)
def qsv(l:LI)(v:Int):Int:=sumN (fun i=>(l.getD i 0-v)*(l.getD i 0-v)) l.length
theorem zg7{l L:LI}(hl:Rg 2047 l)(hn:l.length≤64){p:Nat}(hp:p<L.length)(hv:0≤L.getD p 0∧L.getD p 0≤2047):∀(d i k:Nat),i+d=l.length→d<k→
  q4k 600 k (p:Int) L (sumN (fun i=>(l.getD i 0-L.getD p 0)*(l.getD i 0-L.getD p 0)) i) l (l.length:Int) (i:Int)=some (qsv l (L.getD p 0),()):=by
 intro d
 induction d with
 |zero=>
  intro i k h1 h2
  obtain⟨k,rfl⟩:∃k',k=k' +1:=⟨k-1,by omega⟩
  obtain rfl:i=l.length:=by omega
  show q5c 600 (q4k 600 k) _ _ _ _ _ _=_
  unfold q5c
  simp only[yv,dF,cF]
  rfl
 |succ d ih=>
  intro i k h1 h2
  obtain⟨k,rfl⟩:∃k',k=k' +1:=⟨k-1,by omega⟩
  show q5c 600 (q4k 600 k) _ _ _ _ _ _=_
  unfold q5c
  have h3:(i:Int)<(l.length:Int):=by omega
  have h4:(p:Int)<(L.length:Int):=by omega
  have b1:=hl i
  have b2:=qcb (x:=l.getD i 0-L.getD p 0) (m:=2047) (by omega)
  have b3:=q98 (n:=i) (f:=fun i=>(l.getD i 0-L.getD p 0)*(l.getD i 0-L.getD p 0)) (m:=2047*2047) fun j _=>qcb (m:=2047) (by have:=hl j;omega)
  have b4:(2047*2047:Int)*(i:Int)≤2047*2047*64:=Int.mul_le_mul_of_nonneg_left (by omega) (by decide)
  have sq:q51 600 (y0 .i64 (l.getD i 0-L.getD p 0))=some ((l.getD i 0-L.getD p 0)*(l.getD i 0-L.getD p 0),()):=by
   unfold q51
   rw[w64 (x:=l.getD i 0-L.getD p 0) (by omega) (by omega),w64 (by omega) (by omega)]
  simp only[h3,h4,dT,cT,yc,yd,yb,sq,y5,q0a (show i<1000000000000 by omega)]
  rw[w64 (by omega) (by omega)]
  exact ih (i+1) k (by omega) (by omega)
theorem zh4{l L:LI}(hl:Rg 2047 l)(hn:l.length≤64){p:Nat}(hp:p<L.length)(hv:0≤L.getD p 0∧L.getD p 0≤2047):qix 600 (p:Int) l L=some (qsv l (L.getD p 0),()):=by
 have h:=zg7 hl hn hp hv l.length 0 600 (by omega) (by omega)
 unfold qix
 simp only[yq,sumN]at h
 rw[h]
 rfl
def zcz(L l:LI):Nat:=q2d (fun i=>qsv l (L.getD i 0)) L.length
theorem z4e{l L:LI}(hl:Rg 2047 l)(hn:l.length≤64)(hL:Rg 2047 L)(hm:L.length≤300):∀(d i k:Nat),1≤i→i+d=L.length→d<k→
  q0j 600 k l L (q2d (fun i=>qsv l (L.getD i 0)) i:Int) (qsv l (L.getD (q2d (fun i=>qsv l (L.getD i 0)) i) 0)) (L.length:Int) (i:Int)=some ((zcz L l:Int),()):=by
 intro d
 induction d with
 |zero=>
  intro i k h0 h1 h2
  obtain⟨k,rfl⟩:∃k',k=k' +1:=⟨k-1,by omega⟩
  obtain rfl:i=L.length:=by omega
  show q0q 600 (q0j 600 k) _ _ _ _ _ _=_
  unfold q0q
  simp only[yv,dF,cF]
  rfl
 |succ d ih=>
  intro i k h0 h1 h2
  obtain⟨k,rfl⟩:∃k',k=k' +1:=⟨k-1,by omega⟩
  show q0q 600 (q0j 600 k) _ _ _ _ _ _=_
  unfold q0q
  have h3:(i:Int)<(L.length:Int):=by omega
  have nx:=ih (i+1) k (by omega) (by omega) (by omega)
  unfold q2d at nx
  rw[iN (by omega)]at nx
  simp only[h3,dT,cT,zh4 hl hn (show i<L.length by omega) (hL i),y5,beqF (show(i:Int)≠0 by omega),cF,q0a (show i<1000000000000 by omega)]
  by_cases hc:qsv l (L.getD i 0)<qsv l (L.getD (q2d (fun i=>qsv l (L.getD i 0)) i) 0)
  ·rw[iP hc]at nx
   simp only[hc,dT,cT]
   exact nx
  ·rw[iN hc]at nx
   simp only[hc,dF,cF]
   exact nx
theorem zl2{l L:LI}(hl:Rg 2047 l)(hn:l.length≤64)(hL:Rg 2047 L)(hm:1≤L.length∧L.length≤300):qfp 600 L l=some ((zcz L l:Int),()):=by
 have h:=z4e hl hn hL hm.2 (L.length-1) 1 599 (by omega) (by omega) (by omega)
 have e:q0j 600 600 l L 0 0 (L.length:Int) 0=some ((zcz L l:Int),()):=by
  show q0q 600 (q0j 600 599) _ _ _ _ _ _=_
  unfold q0q
  have h3:(0:Int)<(L.length:Int):=by omega
  have b0:=zh4 hl hn (p:=0) (show 0<L.length by omega) (hL 0)
  simp only[yq]at b0
  simp only[h3,dT,cT,b0,y5,beq_self_eq_true]
  exact h
 unfold qfp qcg
 rw[e]
 rfl
theorem bestV_lt{L l:LI}(h:0<L.length):zcz L l<L.length:=qf3 _ h
def colT(t:LI)(c:Nat):LI:=tab 16 fun i=>t.getD (i*4+c) 0
theorem z2m(t:LI)(c:Nat):(colT t c).length=16:=q1y _ _
theorem zd0{m:Int}{t:LI}(h:Rg m t)(c:Nat):Rg m (colT t c):=qd7 (by have:=h 0;omega) fun i _=>h _
theorem z2n(N:Nat)(g:Nat→Int):tab N g++[g N]=tab (N+1) g:=by
 unfold tab
 rw[List.range_succ,List.map_append]
 rfl
theorem z2o{t:LI}(hl:t.length=64){i:Nat}(hi:i<16){c:Nat}(hc:c<4):(y8 4 (y9 (i*4) t)).getD c 0=t.getD (i*4+c) 0:=by
 rw[q7p hl (by omega),q7o hc]
section
variable {t:LI} (hl:t.length=64) {c:Nat} (hc:c<4)
include hl hc
theorem zqb(x1 x2:Int):∀(d i k:Nat),i+d=16→d<k→q39 600 k (c:Int) x1 x2 (tab i fun i=>t.getD (i*4+c) 0) t (i:Int)=some (x1,x2,colT t c,()):=by
 intro d
 induction d with
 |zero=>
  intro i k h1 h2
  obtain⟨k,rfl⟩:∃k',k=k' +1:=⟨k-1,by omega⟩
  obtain rfl:i=16:=by omega
  rfl
 |succ d ih=>
  intro i k h1 h2
  obtain⟨k,rfl⟩:∃k',k=k' +1:=⟨k-1,by omega⟩
  show q6n 600 (q39 600 k) _ _ _ _ _ _=_
  unfold q6n
  have h3:(i:Int)<16:=by omega
  have h4:(c:Int)<4:=by omega
  simp only[h3,h4,dT,cT,yc,yd,yb,q1y,show i+1≤1099511627776 by omega,z2o hl (show i<16 by omega) hc,q0a (show i<1000000000000 by omega)]
  rw[z2n i fun i=>t.getD (i*4+c) 0]
  exact ih (i+1) k (by omega) (by omega)
theorem zod(x1:Int):∀(d i k:Nat),i+d=16→d<k→q2v 600 k (c:Int) x1 (tab i fun i=>t.getD (i*4+c) 0) t (i:Int)=some (x1,colT t c,()):=by
 intro d
 induction d with
 |zero=>
  intro i k h1 h2
  obtain⟨k,rfl⟩:∃k',k=k' +1:=⟨k-1,by omega⟩
  obtain rfl:i=16:=by omega
  rfl
 |succ d ih=>
  intro i k h1 h2
  obtain⟨k,rfl⟩:∃k',k=k' +1:=⟨k-1,by omega⟩
  show q5q 600 (q2v 600 k) _ _ _ _ _=_
  unfold q5q
  have h3:(i:Int)<16:=by omega
  have h4:(c:Int)<4:=by omega
  simp only[h3,h4,dT,cT,yc,yd,yb,q1y,show i+1≤1099511627776 by omega,z2o hl (show i<16 by omega) hc,q0a (show i<1000000000000 by omega)]
  rw[z2n i fun i=>t.getD (i*4+c) 0]
  exact ih (i+1) k (by omega) (by omega)
theorem zl3(x1:Int):∀(d i k:Nat),i+d=16→d<k→q2f 600 k (c:Int) x1 (tab i fun i=>t.getD (i*4+c) 0) t (i:Int)=some (x1,colT t c,()):=by
 intro d
 induction d with
 |zero=>
  intro i k h1 h2
  obtain⟨k,rfl⟩:∃k',k=k' +1:=⟨k-1,by omega⟩
  obtain rfl:i=16:=by omega
  rfl
 |succ d ih=>
  intro i k h1 h2
  obtain⟨k,rfl⟩:∃k',k=k' +1:=⟨k-1,by omega⟩
  show q4r 600 (q2f 600 k) _ _ _ _ _=_
  unfold q4r
  have h3:(i:Int)<16:=by omega
  have h4:(c:Int)<4:=by omega
  simp only[h3,h4,dT,cT,yc,yd,yb,q1y,show i+1≤1099511627776 by omega,z2o hl (show i<16 by omega) hc,q0a (show i<1000000000000 by omega)]
  rw[z2n i fun i=>t.getD (i*4+c) 0]
  exact ih (i+1) k (by omega) (by omega)
theorem zoe(x1:Int):∀(d i k:Nat),i+d=16→d<k→q2w 600 k (c:Int) x1 (tab i fun i=>t.getD (i*4+c) 0) t (i:Int)=some (x1,colT t c,()):=by
 intro d
 induction d with
 |zero=>
  intro i k h1 h2
  obtain⟨k,rfl⟩:∃k',k=k' +1:=⟨k-1,by omega⟩
  obtain rfl:i=16:=by omega
  rfl
 |succ d ih=>
  intro i k h1 h2
  obtain⟨k,rfl⟩:∃k',k=k' +1:=⟨k-1,by omega⟩
  show q5r 600 (q2w 600 k) _ _ _ _ _=_
  unfold q5r
  have h3:(i:Int)<16:=by omega
  have h4:(c:Int)<4:=by omega
  simp only[h3,h4,dT,cT,yc,yd,yb,q1y,show i+1≤1099511627776 by omega,z2o hl (show i<16 by omega) hc,q0a (show i<1000000000000 by omega)]
  rw[z2n i fun i=>t.getD (i*4+c) 0]
  exact ih (i+1) k (by omega) (by omega)
end
theorem ql7{α:Type}{m:Nat}(hm:m≤300)(g:Nat→Int)(L:Nat→LI→Int→Option α)(res:LI→Option α)
  (step:∀(k i:Nat),i<m→L (k+1) (tab i g) i=L k (tab i g++[g i]) ((i+1:Nat):Int)) (stop:∀k,L (k+1) (tab m g) m=res (tab m g)):L 600 [] 0=res (tab m g):=by
 have key:∀(d i k:Nat),i+d=m→d<k→L k (tab i g) i=res (tab m g):=by
  intro d
  induction d with
  |zero=>
   intro i k h1 h2
   obtain⟨k,rfl⟩:∃k',k=k' +1:=⟨k-1,by omega⟩
   obtain rfl:i=m:=by omega
   exact stop k
  |succ d ih=>
   intro i k h1 h2
   obtain⟨k,rfl⟩:∃k',k=k' +1:=⟨k-1,by omega⟩
   rw[step k i (by omega),z2n]
   exact ih (i+1) k (by omega) (by omega)
 exact key m 0 600 (by omega) (by omega)
def lvW(b:Nat):LI:=tab (2^b) fun i=>q0n b i
def lvP:LI:=tab 256 fun i=>(i:Int)
def lvL:LI:=tab 32 fun i=>q0u (q0n 5 i+2)
def lvF:LI:=tab 256 fun i=>8*(i:Int)+4
theorem pow_b{b:Nat}(hb:1≤b∧b≤8):1≤2^b∧2^b≤256:=by
 have h:(2:Nat)^b≤2^8:=Nat.pow_le_pow_right (by decide) hb.2
 have:=Nat.pow_pos (n:=b) (show 0<2 by decide)
 omega
theorem rg_lvW{b:Nat}(hb:1≤b∧b≤8):Rg 255 (lvW b):=qd7 (by decide) fun i _=>q1k hb _
theorem rg_lvP:Rg 255 lvP:=qd7 (by decide) fun i hi=>by omega
theorem rg_lvL:Rg 255 lvL:=qd7 (by decide) fun i _=>q0z _
theorem rg_lvF:Rg 2047 lvF:=qd7 (by decide) fun i hi=>by omega
section
variable {t:LI} (hl:t.length=64) (ht:Rg 2047 t) {c:Nat} (hc:c<4)
include hl ht hc
theorem zof{b:Nat}(hb:1≤b∧b≤8):qas 600 t c ((2^b:Nat):Int) b=some ((zcz (lvW b) (colT t c):Int),()):=by
 have hp:=pow_b hb
 have h1:=zqb hl hc ((2^b:Nat):Int) (b:Int) 16 0 600 (by omega) (by omega)
 rw[show tab 0 (fun i=>t.getD (i*4+c) 0)=[]from rfl,show((0:Nat):Int)=0 from rfl]at h1
 have h2:=ql7 (m:=2^b) (by omega) (fun i=>q0n b i) (fun k w i=>q28 600 k (b:Int) (colT t c) w ((2^b:Nat):Int) i) (fun w=>some (colT t c,w,())) (fun k i hi=>by
   show q2u 600 (q28 600 k) _ _ _ _ _=_
   unfold q2u qtf
   have h3:(i:Int)<((2^b:Nat):Int):=by omega
   simp only[h3,dT,cT,qna (F:=600) (by decide) hb,y5,q1y,show i+1≤1099511627776 by omega,yd,q0a (show i<1000000000000 by omega)]) (fun k=>by
   show q2u 600 (q28 600 k) _ _ _ _ _=_
   unfold q2u
   simp only[yv,dF,cF])
 have h3:=zl2 (l:=colT t c) (L:=lvW b) (zd0 ht c) (by rw[z2m];decide) (q3f (rg_lvW hb) (by decide)) (by unfold lvW;rw[q1y];omega)
 unfold qas
 rw[h1]
 simp only[y5]
 rw[h2]
 simp only[y5]
 unfold lvW at h3⊢
 rw[h3]
 rfl
theorem zd1{b:Nat}(hb:1≤b∧b≤8):qk3 600 t c b=some ((zcz (lvW b) (colT t c):Int),()):=by
 have h:=zof hl ht hc hb
 have e:ishl .i64 1 (b:Int)=((2^b:Nat):Int):=by
  rw[zkd (by omega)]
  exact(we 2 b).symm
 unfold qk3
 simp only[yc,dT,cT,e,h,y5]
theorem ztt:qwi 600 t c=some ((zcz lvP (colT t c):Int),()):=by
 have h1:=zod hl hc (256:Int) 16 0 600 (by omega) (by omega)
 rw[show tab 0 (fun i=>t.getD (i*4+c) 0)=[]from rfl,show((0:Nat):Int)=0 from rfl]at h1
 have h2:=ql7 (m:=256) (by omega) (fun i=>(i:Int)) (fun k w i=>q1u 600 k (colT t c) w 256 i) (fun w=>some (colT t c,w,())) (fun k i hi=>by
   show q2e 600 (q1u 600 k) _ _ _ _=_
   unfold q2e qpm
   have h3:(i:Int)<256:=by omega
   simp only[h3,dT,cT,y5,q1y,show i+1≤1099511627776 by omega,yd,q0a (show i<1000000000000 by omega)]) (fun k=>by
   show q2e 600 (q1u 600 k) _ _ _ _=_
   unfold q2e
   rfl)
 have h3:=zl2 (l:=colT t c) (L:=lvP) (zd0 ht c) (by rw[z2m];decide) (q3f rg_lvP (by decide)) (by unfold lvP;rw[q1y];decide)
 unfold qwi qds
 rw[h1]
 simp only[y5]
 rw[h2]
 simp only[y5]
 unfold lvP at h3⊢
 rw[h3]
 rfl
theorem ztu:q82 600 t c 32=some ((zcz lvL (colT t c):Int),()):=by
 have h1:=zl3 hl hc (32:Int) 16 0 600 (by omega) (by omega)
 rw[show tab 0 (fun i=>t.getD (i*4+c) 0)=[]from rfl,show((0:Nat):Int)=0 from rfl]at h1
 have h2:=ql7 (m:=32) (by omega) (fun i=>q0u (q0n 5 i+2)) (fun k w i=>q1e 600 k (colT t c) w 32 i) (fun w=>some (colT t c,w,())) (fun k i hi=>by
   show q23 600 (q1e 600 k) _ _ _ _=_
   unfold q23 qml
   have h3:(i:Int)<32:=by omega
   have wb:=q1k (b:=5) (by decide) (i:Int)
   have wd:=qna (F:=600) (by decide) (b:=5) (by decide) (i:Int)
   simp only[yp]at wd
   have e:y0 .i64 (q0n 5 (i:Int)+2)=q0n 5 (i:Int)+2:=w64 (by omega) (by omega)
   simp only[h3,dT,cT,wd,y5,e,qb6,q1y,show i+1≤1099511627776 by omega,yd,q0a (show i<1000000000000 by omega)]) (fun k=>by
   show q23 600 (q1e 600 k) _ _ _ _=_
   unfold q23
   rfl)
 have h3:=zl2 (l:=colT t c) (L:=lvL) (zd0 ht c) (by rw[z2m];decide) (q3f rg_lvL (by decide)) (by unfold lvL;rw[q1y];decide)
 unfold q82
 rw[h1]
 simp only[y5]
 rw[h2]
 simp only[y5]
 unfold lvL at h3⊢
 rw[h3]
 rfl
theorem zwk:q9k 600 t c 256=some ((zcz lvF (colT t c):Int),()):=by
 have h1:=zoe hl hc (256:Int) 16 0 600 (by omega) (by omega)
 rw[show tab 0 (fun i=>t.getD (i*4+c) 0)=[]from rfl,show((0:Nat):Int)=0 from rfl]at h1
 have h2:=ql7 (m:=256) (by omega) (fun i=>8*(i:Int)+4) (fun k w i=>q1v 600 k (colT t c) w 256 i) (fun w=>some (colT t c,w,())) (fun k i hi=>by
   show q2g 600 (q1v 600 k) _ _ _ _=_
   unfold q2g qpo
   have h3:(i:Int)<256:=by omega
   have e:=zkx 600 (base:=(i:Int)) (times:=1) (number:=0) (by omega) (by decide) (by decide) true
   have e2:qd6 (i:Int) 1 0 true=8*(i:Int)+4:=by
    unfold qd6
    simp only[if_true,show¬(1:Int)=0 by decide,if_false]
    omega
   simp only[h3,dT,cT,y5,e,e2,q1y,show i+1≤1099511627776 by omega,yd,q0a (show i<1000000000000 by omega)]) (fun k=>by
   show q2g 600 (q1v 600 k) _ _ _ _=_
   unfold q2g
   rfl)
 have h3:=zl2 (l:=colT t c) (L:=lvF) (zd0 ht c) (by rw[z2m];decide) rg_lvF (by unfold lvF;rw[q1y];decide)
 unfold q9k
 rw[h1]
 simp only[y5]
 rw[h2]
 simp only[y5]
 unfold lvF at h3⊢
 rw[h3]
 rfl
end
theorem zh5(n:Int):qcs 600 n=some (tab 16 fun _=>n,()):=by
 have key:∀T w:LI,w.length=16→q5i 600 600 n T w 0=some (T,tab 16 (fun _=>n),()):=by
  intro T w hw
  refine qbq 16 (fun _=>n) (fun k w i=>q5i 600 k n T w i) (fun w=>some (T,w,())) ?_ ?_ w hw 600 (by omega)
  ·intro k i w hi hw
   show qc3 600 (q5i 600 k) n T w i=_
   unfold qc3
   have h3:(i:Int)<16:=by omega
   simp only[h3,dT,cT,yc,yd,yb,q0a (show i<1000000000000 by omega)]
  ·intro k w hw
   rfl
 unfold qcs
 rw[key _ _ rfl]
 rfl
def oneT(v:Nat→Int):LI:=tab 64 fun j=>v (j%4)
def q37(n:Int):LI:=tab 16 fun _=>n
theorem qhf(n:Int){j:Nat}(hj:j<16):(q37 n).getD j 0=n:=q7o hj
theorem z2p(n:Int):(q37 n).length=16:=q1y _ _
theorem hasI64{x:Int}(h: -9223372036854775808≤x∧x≤9223372036854775807):IntKind.i64.has x:=has_iff.2 h
def zl4(A:LI):LI:=qfg true false A [0,0,0] [0,0] (q37 0)
theorem zl5{A:LI}(hA:Rg 31 A):Ok10 true A [0,0,0] [0,0] (q37 0):=by
 refine⟨fun c hc=> ?_,fun i hi=> ?_,by decide,by decide⟩
 ·have:=hA c
  have:c=0∨c=1∨c=2:=by omega
  rcases this with rfl|rfl|rfl<;>exact⟨hA _,by decide⟩
 ·rw[qhf 0 hi]
  decide
theorem zqc{A:LI}(hl:A.length=3)(hA:Rg 31 A):zch (zl4 A)=oneT fun c=>if c=3 then 255 else q0u (q0n 5 (A.getD c 0)+2):=by
 have h:=zvt (f:=false) (zl5 hA) hl rfl rfl (z2p 0)
 have e:zch (zl4 A)=qck true false A [0,0,0] [0,0] (q37 0):=by
  unfold eP at h
  simp only[ym]at h
  obtain⟨h1,h2,h3,h4,h5,h6,_⟩:=h
  unfold zch zl4
  rw[h5,h6,h3,h4,h1,h2]
 rw[e,qi5 (qqm true false A [0,0,0] [0,0] (q37 0))]
 unfold oneT
 refine q0b fun j hj=> ?_
 rw[←zq8,show((qck true false A [0,0,0] [0,0] (q37 0)).drop (j/4*4)).take 4=zg4 (q1l true A [0,0,0]) [0,0] (q37 0) false (j/4)from qmc _ (fun _ _=>rfl) (by omega)]
 have hh:=qoq false ((j/4:Nat):Int)
 have ha:zkm [0,0] (q37 0) false (j/4)=2:=by
  unfold zkm
  rw[qhf 0 (by omega)]
  have:q2p false ((j/4:Nat):Int)=0∨q2p false ((j/4:Nat):Int)=1:=by omega
  rcases this with h0|h0<;>rw[h0]<;>rfl
 have hz:∀x:Int,x+0=x:=Int.add_zero
 unfold zg4
 rw[ha]
 have hc:j%4=0∨j%4=1∨j%4=2∨j%4=3:=by omega
 have hs:q2p false ((j/4:Nat):Int)=0∨q2p false ((j/4:Nat):Int)=1:=by omega
 rcases hs with h0|h0
 ·rcases hc with h4|h4|h4|h4<;>rw[h4,h0]<;>rfl
 ·have b0:n10 true A [0,0,0] 0=A.getD 0 0:=hz _
  have b1:n10 true A [0,0,0] 1=A.getD 1 0:=hz _
  have b2:n10 true A [0,0,0] 2=A.getD 2 0:=hz _
  unfold q1l
  rw[b0,b1,b2]
  rcases hc with h4|h4|h4|h4<;>rw[h4,h0]<;>rfl
theorem liftB_is{A:LI}(hA:Rg 31 A):qcf 600 (true,false,A,[0,0,0],[0,0],q37 0,())=some (zl4 A,0,()):=by
 have h0:∀l:LI,Rg 31 l→Is64 l:=fun l hl i=>hasI64 (by have:=hl i;omega)
 have h1:Rg 31 [0,0,0]:=q1z (by decide) (q1z (by decide) (q1z (by decide) (qs7 (by decide))))
 have h2:Rg 31 [0,0]:=q1z (by decide) (q1z (by decide) (qs7 (by decide)))
 have h3:Rg 31 (q37 0):=qd7 (by decide) fun _ _=>by decide
 have h4:=zck (F:=600) (by decide) true false (h0 _ hA) (h0 _ h1) (h0 _ h2) (h0 _ h3)
 rw[h4,iP (zl5 hA)]
 rfl
theorem zwl{x:Int}(h:0≤x∧x≤255):q0u x=x:=by unfold q0u;omega
theorem ztv(x y z:Int)(c:Nat):0≤(qez x y z).getD c 0∧(qez x y z).getD c 0≤255:=
 (q1z (q1k (by decide) _) (q1z (q1k (by decide) _) (q1z (q1k (by decide) _) (q1z (by decide) (qs7 (by decide)))))) c
theorem ztw{o:LI}(ho:∀c,0≤o.getD c 0∧o.getD c 0≤255)(h3:o.getD 3 0=255)(j:Nat):q65 o o o j=o.getD (j%4) 0:=by
 unfold q65 qs6
 split
 ·rename_i h
  rw[h,h3]
 ·rw[Int.sub_self,Int.mul_zero,Int.mul_zero,Int.add_zero,Int.zero_add]
  have:=ho (j%4)
  rw[show(4*o.getD (j%4) 0+2)/4=o.getD (j%4) 0 by omega,zwl this]
theorem zwm{n:LI}(h:ok3 n)(p:Bool):tab 64 (qf5 (layV n n n) p)=oneT fun c=>(qez (n.getD 0 0) (n.getD 1 0) (n.getD 2 0)).getD c 0:=by
 unfold oneT
 refine q0b fun j hj=> ?_
 rw[lay_dec]
 unfold z03
 obtain⟨h1,h2,h3⟩:=zq4 (o:=n) (h:=n) (v:=n) ⟨h,h,h⟩
 rw[h1,h2,h3,ztw (ztv _ _ _) rfl]
theorem layB_is{x y z:Int}(h:ok3 [x,y,z]):qjj 600 [x,y,z] [x,y,z] [x,y,z]=some (layV [x,y,z] [x,y,z] [x,y,z],0,()):=by
 obtain⟨⟨a1,a2⟩,⟨b1,b2⟩,⟨c1,c2⟩⟩:=h
 simp only[yt,yu]at a1 a2 b1 b2 c1 c2
 have r:Rg 127 [x,y,z]:=q1z (by omega) (q1z (by omega) (q1z (by omega) (qs7 (by decide))))
 have h64:∀i,I64 (([x,y,z]++([x,y,z]++[x,y,z])).getD i 0):=fun i=>by
  have:=qbt r (qbt r r) i
  unfold I64
  omega
 have hk:ok3 [x,y,z]:=⟨⟨a1,a2⟩,⟨b1,b2⟩,⟨c1,c2⟩⟩
 rw[(zw9 rfl rfl rfl h64).1,iP ⟨hk,hk,hk⟩]
theorem table0:q44 600 0=some ([-3,-6,-9,-15,2,5,8,14],()):=by kernel_rfl
theorem table13:q44 600 13=some ([-1,-2,-3,-10,0,1,2,9],()):=by kernel_rfl
theorem qhg{base times table n:Int}(h1:0≤base∧base≤255)(h2:0≤times∧times≤15)(h3:0≤table∧table≤15)(h4:0≤n∧n≤7):EacFit base times table (q37 n):=
 ⟨h1,h2,h3,z2p n,fun i hi=>by rw[qhf n hi];exact h4⟩
theorem zh6{base times table n:Int}(h1:0≤base∧base≤255)(h2:0≤times∧times≤15)(h3:0≤table∧table≤15)(h4:0≤n∧n≤7):
  hv (eacJ base times table (q37 n) 19) 0 8=base∧hv (eacJ base times table (q37 n) 19) 8 4=times∧hv (eacJ base times table (q37 n) 19) 12 4=table∧∀i,i<16→(eacW (eacJ base times table (q37 n) 19)).getD i 0=n:=by
 have hf:=qhg h1 h2 h3 h4
 refine⟨qw1 hf (j:=0) (by decide),qw1 hf (j:=1) (by decide),qw1 hf (j:=2) (by decide),fun i hi=> ?_⟩
 rw[zkv _ hi]
 have:=qw1 hf (j:=i+3) (by omega)
 rw[show eacV base times table (q37 n) (i+3)=(q37 n).getD i 0 from rfl,qhf n hi]at this
 exact this
theorem ztx{n:Int}(h:0≤n∧n≤255):eacL (eacJ n 0 0 (q37 0) 19) false=q37 n:=by
 obtain⟨p1,p2,p3,p4⟩:=zh6 (base:=n) (times:=0) (table:=0) (n:=0) h (by decide) (by decide) (by decide)
 unfold eacL
 rw[p1,p2,p3,table0]
 show tab 16 _=tab 16 _
 refine q0b fun i hi=> ?_
 rw[p4 i hi]
 unfold qd6
 simp only[yn,if_false,Int.mul_zero,Int.add_zero]
 omega
theorem zd2{n:Int}(h:0≤n∧n≤255):eacL (eacJ n 1 13 (q37 4) 19) true=q37 (8*n+4):=by
 obtain⟨p1,p2,p3,p4⟩:=zh6 (base:=n) (times:=1) (table:=13) (n:=4) h (by decide) (by decide) (by decide)
 unfold eacL
 rw[p1,p2,p3,table13]
 show tab 16 _=tab 16 _
 refine q0b fun i hi=> ?_
 rw[p4 i hi,show([-1,-2,-3,-10,0,1,2,9]:LI).getD (y6 4) 0=0 from rfl]
 unfold qd6
 rw[iP rfl,iN (by decide),Int.zero_mul,Int.add_zero]
 omega
def z7p:LI:=[0,0,0,0,255,255,0,0]
theorem zd3:Bytes z7p:=fun x hx=>by
 unfold z7p at hx
 simp only[yr,List.not_mem_nil,or_false]at hx
 omega
theorem zl6:qe1 600 9 z7p=some (tab 64 fun _=>0,0,()):=by kernel_rfl
theorem zqd:tab 64 (qf5 z7p true)=oneT fun _=>0:=by
 have h:=zcv zd3 (k:=9) ⟨by decide,by decide⟩ rfl
 simp only[yp]at h
 rw[zl6]at h
 exact(Prod.mk.inj (Option.some.inj h)).1.symm
def bN(L s:LI)(c:Nat):Int:=(zcz L (colT s c):Int)
theorem z8c{L:LI}(h:0<L.length)(s:LI)(c:Nat):0≤bN L s c∧bN L s c<(L.length:Int):=by
 have:=bestV_lt (L:=L) (l:=colT s c) h
 unfold bN
 omega
theorem zl7(b:Nat):(lvW b).length=2^b:=q1y _ _
theorem zqe:lvP.length=256:=q1y _ _
theorem zqf:lvL.length=32:=q1y _ _
theorem zqg:lvF.length=256:=q1y _ _
theorem bN_W{b:Nat}(hb:1≤b∧b≤8)(s:LI)(c:Nat):0≤bN (lvW b) s c∧bN (lvW b) s c<((2^b:Nat):Int):=by
 have:=z8c (L:=lvW b) (by rw[zl7];have:=pow_b hb;omega) s c
 rwa [zl7]at this
theorem bN_P(s:LI)(c:Nat):0≤bN lvP s c∧bN lvP s c≤255:=by
 have:=z8c (L:=lvP) (by rw[zqe];decide) s c
 rw[zqe]at this
 omega
theorem bN_L(s:LI)(c:Nat):0≤bN lvL s c∧bN lvL s c≤31:=by
 have:=z8c (L:=lvL) (by rw[zqf];decide) s c
 rw[zqf]at this
 omega
theorem bN_F(s:LI)(c:Nat):0≤bN lvF s c∧bN lvF s c≤255:=by
 have:=z8c (L:=lvF) (by rw[zqg];decide) s c
 rw[zqg]at this
 omega
section
variable {t:LI} (hl:t.length=64) (ht:Rg 2047 t)
include hl ht
theorem zd4{c:Nat}(hc:c<4):qjl 600 t c=some (eacJ (bN lvF t c) 1 13 (q37 4) 19,()):=by
 have h0:=zwk hl ht hc
 have hs:=zh5 4
 have hj:=zq6 (F:=600) (by decide) (qhg (base:=bN lvF t c) (times:=1) (table:=13) (n:=4) (by have:=bN_F t c;omega) (by decide) (by decide) (by decide))
 unfold q37 bN at hj
 unfold qjl
 simp only[h0,y5,hs,hj]
 rfl
def plN(s:LI):LI:=[bN (lvW 6) s 0,bN (lvW 7) s 1,bN (lvW 6) s 2]
omit hl ht in
theorem zwn(s:LI):ok3 (plN s):=by
 have b0:=bN_W (b:=6) (by decide) s 0
 have b1:=bN_W (b:=7) (by decide) s 1
 have b2:=bN_W (b:=6) (by decide) s 2
 exact⟨⟨b0.1,b0.2⟩,⟨b1.1,b1.2⟩,⟨b2.1,b2.2⟩⟩
def plB(s:LI):LI:=layV (plN s) (plN s) (plN s)
theorem z09:qfq 600 t=some (plB t,()):=by
 have h0:=zd1 hl ht (c:=0) (by decide) (b:=6) (by decide)
 have h1:=zd1 hl ht (c:=1) (by decide) (b:=7) (by decide)
 have h2:=zd1 hl ht (c:=2) (by decide) (b:=6) (by decide)
 simp only[yp,yq,Int.natCast_one]at h0 h1 h2
 have hj:=layB_is (zwn t)
 unfold bN at hj
 unfold qfq
 simp only[h0,h1,h2,y5,hj]
 rfl
theorem zog(A T S U:LI)(hA:A.length=3):q6u 600 600 t A T S U 0=some (tab 3 fun c=>bN lvL t c,T,S,U,()):=by
 refine qbq 3 (fun c=>bN lvL t c) (fun k w i=>q6u 600 k t w T S U i) (fun w=>some (w,T,S,U,())) ?_ ?_ A hA 600 (by omega)
 ·intro k i w hi hw
  show qdt 600 (q6u 600 k) _ _ _ _ _ _=_
  unfold qdt
  have h3:(i:Int)<3:=by omega
  simp only[h3,dT,cT,ztu hl ht (show i<4 by omega),y5,yc,yd,yb,q0a (show i<1000000000000 by omega)]
  rfl
 ·intro k w hw
  rfl
def liN(s:LI):LI:=tab 3 fun c=>bN lvL s c
theorem zqh:qpn 600 t=some (zl4 (liN t),()):=by
 have hj:=liftB_is (A:=liN t) (qd7 (by decide) fun c _=>bN_L t c)
 unfold qpn
 rw[zog hl ht _ _ _ _ rfl]
 simp only[y5]
 rw[show q0o=q37 0 from rfl,show(tab 3 fun c=>bN lvL t c)=liN t from rfl,hj]
 simp only[y5]
end
theorem zoh{t:LI}(hl:t.length=64){i:Nat}(hi:i<16):∀(d c k:Nat),c+d=4→d<k→
  q35 600 k t (i:Int) (y8 4 (y9 (i*4) t)) (c:Int)=some (.inl ())∨(q35 600 k t (i:Int) (y8 4 (y9 (i*4) t)) (c:Int)=some (.inr (t,(i:Int),()))∧∀c',c≤c' →c' <4→0≤t.getD (i*4+c') 0∧t.getD (i*4+c') 0≤255):=by
 intro d
 induction d with
 |zero=>
  intro c k h1 h2
  obtain⟨k,rfl⟩:∃k',k=k' +1:=⟨k-1,by omega⟩
  obtain rfl:c=4:=by omega
  exact .inr ⟨rfl,fun c' h h' =>by omega⟩
 |succ d ih=>
  intro c k h1 h2
  obtain⟨k,rfl⟩:∃k',k=k' +1:=⟨k-1,by omega⟩
  have e:q35 600 (k+1) t (i:Int) (y8 4 (y9 (i*4) t)) (c:Int)=q8w 600 (q35 600 k) t i (y8 4 (y9 (i*4) t)) c:=rfl
  rw[e]
  unfold q8w
  have h4:(c:Int)<4:=by omega
  simp only[h4,dT,cT,yc,yd,yb,q0a (show c<1000000000000 by omega),z2o hl hi (show c<4 by omega)]
  by_cases v1:t.getD (i*4+c) 0<0
  ·left
   simp only[v1,dT,cT]
  ·simp only[v1,dF,cF]
   by_cases v2:255<t.getD (i*4+c) 0
   ·left
    simp only[v2,dT,cT]
   ·simp only[v2,dF,cF]
    rcases ih (c+1) k (by omega) (by omega)with h|⟨h,h'⟩
    ·exact .inl h
    ·refine .inr ⟨h,fun c' g1 g2=> ?_⟩
     by_cases hc:c' =c
     ·subst hc;omega
     ·exact h' c' (by omega) g2
theorem zoi{t:LI}(hl:t.length=64):∀(d i k:Nat),i+d=16→d<k→
  q3w 600 k t (i:Int)=some (.inl ())∨(q3w 600 k t (i:Int)=some (.inr ())∧∀j,i*4≤j→j<64→0≤t.getD j 0∧t.getD j 0≤255):=by
 intro d
 induction d with
 |zero=>
  intro i k h1 h2
  obtain⟨k,rfl⟩:∃k',k=k' +1:=⟨k-1,by omega⟩
  obtain rfl:i=16:=by omega
  exact .inr ⟨rfl,fun j h h' =>by omega⟩
 |succ d ih=>
  intro i k h1 h2
  obtain⟨k,rfl⟩:∃k',k=k' +1:=⟨k-1,by omega⟩
  have e:q3w 600 (k+1) t (i:Int)=q8x 600 (q3w 600 k) t i:=rfl
  rw[e]
  unfold q8x
  have h3:(i:Int)<16:=by omega
  simp only[h3,dT,cT,yc,yd,yb]
  rcases zoh hl (i:=i) (by omega) 4 0 600 (by omega) (by omega)with h|⟨h,h'⟩
  ·left
   rw[show((0:Nat):Int)=0 from rfl]at h
   rw[h]
   rfl
  ·rw[show((0:Nat):Int)=0 from rfl]at h
   rw[h]
   simp only[y5,q0a (show i<1000000000000 by omega)]
   rcases ih (i+1) k (by omega) (by omega)with g|⟨g,g'⟩
   ·exact .inl g
   ·refine .inr ⟨g,fun j h1 h2=> ?_⟩
    by_cases hj:j<(i+1)*4
    ·have:=h' (j-i*4) (by omega) (by omega)
     rwa [show i*4+(j-i*4)=j by omega]at this
    ·exact g' j (by omega) h2
theorem zl8{t:LI}(hl:t.length=64):(q8y 600 t=some (true,())∧Rg 255 t)∨q8y 600 t=some (false,()):=by
 unfold q8y
 rcases zoi hl 16 0 600 (by omega) (by omega)with h|⟨h,h'⟩
 ·right
  rw[show((0:Nat):Int)=0 from rfl]at h
  rw[h]
  rfl
 ·left
  rw[show((0:Nat):Int)=0 from rfl]at h
  rw[h]
  refine⟨rfl,fun j=> ?_⟩
  by_cases hj:j<64
  ·exact h' j (by omega) hj
  ·rw[zo5 (by omega)]
   decide
def zqi(k:Nat)(s a b:LI):LI:=if q9g k b s<q9g k a s then b else a
theorem near_is{k:Nat}(h:Fmt k){s a b:LI}(hl:s.length=64)(hs:Rg 255 s)(ha:Bytes a)(hb:Bytes b)(la:a.length=q3g k)(lb:b.length=q3g k):qpt 600 k s a b=some (zqi k s a b,()):=by
 unfold qpt zqi
 rw[qwu ha h la hl hs,qwu hb h lb hl hs]
 simp only[y5]
 by_cases hlt:q9g k b s<q9g k a s
 ·simp only[hlt,dT,cT,if_true]
 ·simp only[hlt,dF,cF,if_false]
def qhh(k:Nat)(s:LI):LI:=match k with
 |7=>zl4 (liN s)
 |8=>plB s
 |9=>zqi 9 s (plB s) z7p
 |10=>eacJ (bN lvP s 3) 0 0 (q37 0) 19++plB s
 |11=>eacJ (bN lvF s 0) 1 13 (q37 4) 19
 |_=>eacJ (bN lvF s 0) 1 13 (q37 4) 19++eacJ (bN lvF s 1) 1 13 (q37 4) 19
def Okb(n:Nat)(b:LI):Prop:=Bytes b∧b.length=n
theorem zqj{n m:Nat}{a b:LI}(ha:Okb n a)(hb:Okb m b):Okb (n+m) (a++b):=
 ⟨fun x hx=>(yk.1 hx).elim (ha.1 x) (hb.1 x),by rw[yo,ha.2,hb.2]⟩
theorem okb_near{n k:Nat}{s a b:LI}(ha:Okb n a)(hb:Okb n b):Okb n (zqi k s a b):=by
 unfold zqi
 split
 ·exact hb
 ·exact ha
theorem zwo(A:LI):Okb 8 (zl4 A):=⟨z5f _ _ _ _ _ _,zgz _ _ _ _ _ _⟩
theorem qz3(s:LI):Okb 8 (plB s):=zkr _ _ _
theorem z2q(a b c:Int)(w:LI):Okb 8 (eacJ a b c w 19):=⟨zts _ _ _ _,qca _ _ _ _⟩
theorem bareB_ok:Okb 8 z7p:=⟨zd3,rfl⟩
theorem zl9(s:LI){k:Nat}(h:Fmt k):Okb (q3g k) (qhh k s):=
 qhe (p:=fun k=>Okb (q3g k) (qhh k s)) (zwo _) (qz3 _)
  (okb_near (qz3 _) bareB_ok) (zqj (z2q _ _ _ _) (qz3 _)) (z2q _ _ _ _) (zqj (z2q _ _ _ _) (z2q _ _ _ _)) h
section
variable {t:LI} (hl:t.length=64)
include hl
theorem blk_7(ht:Rg 255 t):q3a 600 7 t=some (qhh 7 t,()):=by
 have h:=zqh hl (q3f ht (by decide))
 unfold q3a
 simp only[Int.reduceBEq,cT,cF,h,y5]
 rfl
theorem blk_8(ht:Rg 255 t):q3a 600 8 t=some (qhh 8 t,()):=by
 have h:=z09 hl (q3f ht (by decide))
 unfold q3a
 simp only[Int.reduceBEq,cT,cF,h,y5]
 rfl
theorem blk_9(ht:Rg 255 t):q3a 600 9 t=some (qhh 9 t,()):=by
 have h:=z09 hl (q3f ht (by decide))
 have h3:=near_is (k:=9) ⟨by decide,by decide⟩ hl ht (qz3 t).1 bareB_ok.1 (qz3 t).2 bareB_ok.2
 simp only[yp]at h3
 unfold q3a
 rw[show q7h=z7p from rfl]
 simp only[Int.reduceBEq,cT,cF,h,h3,y5]
 rfl
theorem blk_10(ht:Rg 255 t):q3a 600 10 t=some (qhh 10 t,()):=by
 have h:=z09 hl (q3f ht (by decide))
 have h1:=ztt hl (q3f ht (by decide)) (c:=3) (by decide)
 have h2:=zq6 (F:=600) (by decide) (qhg (base:=bN lvP t 3) (times:=0) (table:=0) (n:=0) (bN_P t 3) (by decide) (by decide) (by decide))
 simp only[yp]at h1
 unfold q37 bN at h2
 unfold q3a
 simp only[Int.reduceBEq,cT,cF,h1,zh5,h2,h,y5,(qz3 _).2,qca,show(8+8≤1099511627776)=True by simp,dT,yd]
 rfl
theorem blk_11(ht:Rg 2047 t):q3a 600 11 t=some (qhh 11 t,()):=by
 have h1:=zd4 hl ht (c:=0) (by decide)
 simp only[yq]at h1
 unfold q3a
 simp only[Int.reduceBEq,cT,cF,h1,y5]
 rfl
theorem blk_12(ht:Rg 2047 t):q3a 600 12 t=some (qhh 12 t,()):=by
 have h1:=zd4 hl ht (c:=0) (by decide)
 have h2:=zd4 hl ht (c:=1) (by decide)
 simp only[yq,Int.natCast_one]at h1 h2
 unfold q3a
 simp only[Int.reduceBEq,cT,cF,h1,h2,y5,qca,show(8+8≤1099511627776)=True by simp,dT,yd]
 rfl
theorem blk_is{k:Nat}(h:Fmt k):Rg (z5i k) t→q3a 600 k t=some (qhh k t,()):=
 qhe (p:=fun k=>Rg (z5i k) t→q3a 600 (k:Int) t=some (qhh k t,())) (fun h=>blk_7 hl h) (fun h=>blk_8 hl h) (fun h=>blk_9 hl h) (fun h=>blk_10 hl h) (fun h=>blk_11 hl h) (fun h=>blk_12 hl h) h
end
theorem sqN(x:Int):0≤x*x:=(qcb (m:=(x.natAbs:Int)) (by omega)).1
theorem zd5{m:Int}(hm:0≤m){v:Nat→Int}(h:∀c,c<4→0≤v c∧v c≤m):Rg m (oneT v):=qd7 hm fun j _=>h _ (by omega)
theorem z5j{k:Nat}(h:Fmt k){b s:LI}(hb:Bytes b)(hs:Rg 255 s):0≤q9g k b s:=
 zqa (q3f (qw3 hs) (qow k)) (q3f (z8b hb h) (qow k))
theorem zh7{k:Nat}(hk:Fmt k){t:LI}(hl:t.length=64)(ht:Rg 255 t)(hb:q8y 600 t=some (true,())):qnu 600 k t=some (qhh k (scT k t),0,()):=by
 unfold qnu
 rw[zkz 600 hk,hb]
 simp only[y5,bne_self_eq_false,cF,Bool.not_true,zl1 hk hl ht,blk_is (z08 hl) hk (qw3 ht)]
theorem lo_app{a b:LI}(la:a.length=8):lo13 (a++b)=a:=by
 unfold lo13
 rw[←la,List.take_left]
theorem hi_app{a b:LI}(la:a.length=8)(lb:b.length=8):hi13 (a++b)=b:=by
 unfold hi13
 rw[yo,la,lb,show 8+8-8=8 from rfl]
 conv=>lhs;rw[←la]
 rw[List.drop_left,List.take_of_length_le (by omega)]
theorem qqo(v:Nat→Int){j:Nat}(hj:j<64):(oneT v).getD j 0=v (j%4):=q7o hj
theorem zsc(c:Nat)(n:Int)(v:Nat→Int):wT c (q37 n) (oneT v)=oneT fun q=>if q=c then n else v q:=by
 unfold wT
 show tab 64 _=tab 64 _
 refine q0b fun j hj=> ?_
 rw[qhf n (show j/4<16 by omega),qqo v hj]
theorem zoj(a:Int):qou a=oneT fun q=>if q=3 then a else 0:=rfl
def plC(s:LI)(c:Nat):Int:=(qez (bN (lvW 6) s 0) (bN (lvW 7) s 1) (bN (lvW 6) s 2)).getD c 0
def liC(s:LI)(c:Nat):Int:=if c=3 then 255 else q0u (q0n 5 ((liN s).getD c 0)+2)
def b9(s:LI):Prop:=q9g 9 z7p s<q9g 9 (plB s) s
instance (s:LI):Decidable (b9 s):=by unfold b9;exact inferInstance
def col14(k:Nat)(s:LI):Nat→Int:=match k with
 |7=>liC s
 |8=>plC s
 |9=>if b9 s then fun _=>0 else plC s
 |10=>fun q=>if q=3 then bN lvP s 3 else plC s q
 |11=>fun q=>if q=0 then 8*bN lvF s 0+4 else if q=3 then 2047 else 0
 |_=>fun q=>if q=1 then 8*bN lvF s 1+4 else if q=0 then 8*bN lvF s 0+4 else if q=3 then 2047 else 0
theorem zwp(s:LI)(p:Bool):tab 64 (qf5 (plB s) p)=oneT (plC s):=zwm (zwn s) p
theorem dec_blk(s:LI){k:Nat}(h:Fmt k):qw2 k (qhh k s)=oneT (col14 k s):=by
 refine qhe (p:=fun k=>qw2 k (qhh k s)=oneT (col14 k s)) ?_ ?_ ?_ ?_ ?_ ?_ h
 ·exact zqc (q1y _ _) (qd7 (by decide) fun c _=>bN_L s c)
 ·exact zwp s false
 ·show tab 64 (qf5 (if b9 s then z7p else plB s) true)=oneT (if b9 s then fun _=>0 else plC s)
  split
  ·exact zqd
  ·exact zwp s true
 ·show wT 3 (eacL (lo13 (eacJ (bN lvP s 3) 0 0 (q37 0) 19++plB s)) false) (tab 64 (qf5 (hi13 (eacJ (bN lvP s 3) 0 0 (q37 0) 19++plB s)) false))=_
  rw[lo_app (qca _ _ _ _),hi_app (qca _ _ _ _) (qz3 s).2,ztx (bN_P s 3),zwp,zsc]
  rfl
 ·show wT 0 (eacL (lo13 (eacJ (bN lvF s 0) 1 13 (q37 4) 19)) true) (qou 2047)=_
  rw[lo13_8 (qca _ _ _ _),zd2 (bN_F s 0),zoj,zsc]
  rfl
 ·show wT 1 (eacL (hi13 (eacJ (bN lvF s 0) 1 13 (q37 4) 19++eacJ (bN lvF s 1) 1 13 (q37 4) 19)) true) (wT 0 (eacL (lo13 (eacJ (bN lvF s 0) 1 13 (q37 4) 19++eacJ (bN lvF s 1) 1 13 (q37 4) 19)) true) (qou 2047))=_
  rw[lo_app (qca _ _ _ _),hi_app (qca _ _ _ _) (qca _ _ _ _),zd2 (bN_F s 0),zd2 (bN_F s 1),zoj,zsc,zsc]
  rfl
theorem qox(f:Nat→Int)(n:Nat):sumN f (n+1)=sumN f n+f n:=rfl
theorem zok(f:Nat→Int):∀n,sumN f (n*4)=sumN (fun i=>f (i*4+0)+f (i*4+1)+f (i*4+2)+f (i*4+3)) n
 |0=>rfl
 |n+1=>by
  rw[show(n+1)*4=n*4+1+1+1+1 by omega,qox,qox,qox,qox,qox,zok f n,show n*4+1+1=n*4+2 by omega,show n*4+2+1=n*4+3 by omega]
  simp only[Nat.add_zero]
  omega
theorem zqk:((w8 16).all fun i=>(y0 .i64 ((16:Int)+(y0 .i64 ((3:Int)*(y0 .i64 ((y0 .i64 ((4:Int)*(yw (i:Int) (4:Int))))+(y0 .i64 (yx (i:Int) (4:Int))))))))==(qf6 i:Int)))=true:=by kernel_rfl
theorem zwq{i:Nat}(h:i<16):y0 .i64 ((16:Int)+(y0 .i64 ((3:Int)*(y0 .i64 ((y0 .i64 ((4:Int)*(yw (i:Int) (4:Int))))+(y0 .i64 (yx (i:Int) (4:Int))))))))=(qf6 i:Int):=by
 have:=List.all_eq_true.1 zqk i (by simpa using h)
 simpa using this
theorem zql{b:LI}(hb:Bytes b)(hl:b.length=8):qpp 600 b=some (hv b 0 8,hv b 8 4,hv b 12 4,eacW b,0,()):=by
 have loop:∀T:LI,q6v 600 600 b T q0o 0=some (b,T,eacW b,()):=by
  intro T
  refine qbq 16 (fun i=>hv b (qf6 i) 3) (fun k w i=>q6v 600 k b T w i) (fun w=>some (b,T,w,())) ?_ ?_ _ rfl 600 (by omega)
  ·intro k i w hi hw
   show qdw 600 (q6v 600 k) b T w i=_
   unfold qdw
   have:=z88 hi
   have e:=qhb (F:=600) (by decide) hb hl (a:=qf6 i) (n:=3) (by decide) (by omega)
   simp only[yp]at e
   have h1:(i:Int)<16:=by omega
   simp only[h1,dT,cT,zwq hi,e,y5,yc,yd,q0a (show i<1000000000000 by omega),yb]
  ·intro k w hw
   rfl
 unfold qpp
 have e1:=qhb (F:=600) (by decide) hb hl (a:=0) (n:=8) (by decide) (by decide)
 have e2:=qhb (F:=600) (by decide) hb hl (a:=8) (n:=4) (by decide) (by decide)
 have e3:=qhb (F:=600) (by decide) hb hl (a:=12) (n:=4) (by decide) (by decide)
 simp only[yp,yq]at e1 e2 e3
 have e:((b.length:Int) !=8)=false:=by rw[hl];rfl
 simp only[e,cF,loop,y5,e1,e2,e3]
theorem zd6:((w8 16).all fun n=>qpq 600 (n:Int)==q44 600 (n:Int))=true:=by kernel_rfl
theorem zqm{n:Int}(h:0≤n∧n≤15):qpq 600 n=q44 600 n:=by
 obtain⟨m,rfl⟩:=yh h.1
 have:=List.all_eq_true.1 zd6 m (by simp;omega)
 simpa using this
theorem zqn{base times number:Int}(hb:0≤base∧base≤255)(ht:0≤times∧times≤15)(hn: -15≤number∧number≤15)(wide:Bool):qpr 600 base times number wide=some (qd6 base times number wide,()):=by
 have hm:=mulB (c:=15) hn ht (by decide)
 have e8:number*(8*times)=8*(number*times):=by rw[←Int.mul_assoc,Int.mul_comm number 8,Int.mul_assoc]
 have cl:∀x m:Int,0≤m→q5f 600 x m=some (max 0 (min x m),()):=fun x m hm=>by
  unfold q5f
  by_cases h1:m<x
  ·have h2:¬m<0:=by omega
   simp only[h1,h2,dT,dF,cT,cF]
   rw[show max 0 (min x m)=m by omega]
  ·by_cases h2:x<0
   ·simp only[h1,h2,dT,dF,cT,cF]
    rw[show max 0 (min x m)=0 by omega]
   ·simp only[h1,h2,dF,cF]
    rw[show max 0 (min x m)=x by omega]
 unfold qpr qd6
 rw[cl _ 255 (by decide),cl _ 2047 (by decide),cl _ 2047 (by decide),w64 (x:=number*times) (by omega) (by omega),w64 (x:=base+number*times) (by omega) (by omega),w64 (x:=8*base) (by omega) (by omega),w64 (x:=8*base+4) (by omega) (by omega),Int.mul_one,
  w64 (x:=number) (by omega) (by omega),w64 (x:=8*base+4+number) (by omega) (by omega),w64 (x:=8*times) (by omega) (by omega),e8,w64 (x:=8*(number*times)) (by omega) (by omega),w64 (x:=8*base+4+8*(number*times)) (by omega) (by omega)]
 cases wide
 ·rfl
 ·by_cases h0:times=0
  ·subst h0
   rfl
  ·simp only[Bool.not_true,cF,beqF h0,y5,if_true,h0,if_false]
   rw[show 8*base+4+8*(number*times)=8*(base+number*times)+4 by omega]
theorem qhi{b:LI}(hb:Bytes b)(hl:b.length=8)(wide:Bool):q6o 600 b wide=some (eacL b wide,0,()):=by
 obtain⟨f1,f2,f3,f4,f5⟩:=zs9 (b:=b)
 obtain⟨tbl,h1,_,h3⟩:=zkw 600 (n:=hv b 12 4) f3
 have h1' :=zqm f3
 rw[h1]at h1'
 have loop:∀T:LI,q5k 600 600 wide T (hv b 0 8) (hv b 8 4) (hv b 12 4) (eacW b) 0=some (T,eacD (hv b 0 8) (hv b 8 4) tbl (eacW b) wide,()):=by
  intro T
  refine z48 16 (fun i=>qd6 (hv b 0 8) (hv b 8 4) (tbl.getD ((eacW b).getD i 0).toNat 0) wide) (eacW b) (fun k w i=>q5k 600 k wide T (hv b 0 8) (hv b 8 4) (hv b 12 4) w i) (fun w=>some (T,w,())) ?_ ?_ f4 600 (by omega)
  ·intro k i w hi hw hs
   show qc4 600 (q5k 600 k) wide T (hv b 0 8) (hv b 8 4) (hv b 12 4) w i=_
   unfold qc4
   have h4:(i:Int)<16:=by omega
   have h2:=f5 i hi
   have h5:(eacW b).getD i 0<8:=by omega
   have e:=hs i (wc _)
   simp only[h4,dT,cT,yc,yd,yb,h1',y5,e,h2.1,h5,zqn f1 f2 (h3 _),q0a (show i<1000000000000 by omega)]
  ·intro k w hw
   rfl
 unfold q6o
 rw[zql hb hl]
 simp only[y5,bne_self_eq_false,cF,loop]
 unfold eacL
 rw[h1]
theorem zol{c:Nat}(hc:c<4)(l t T:LI):∀(d i k:Nat),i+d=16→d<k→qav 600 k c (tab 64 (upW c i l t)) l T (i:Int)=some (tab 64 (upW c 16 l t),T,()):=by
 intro d
 induction d with
 |zero=>
  intro i k h1 h2
  obtain⟨k,rfl⟩:∃k',k=k' +1:=⟨k-1,by omega⟩
  obtain rfl:i=16:=by omega
  rfl
 |succ d ih=>
  intro i k h1 h2
  obtain⟨k,rfl⟩:∃k',k=k' +1:=⟨k-1,by omega⟩
  show qgc 600 (qav 600 k) c (tab 64 (upW c i l t)) l T i=_
  unfold qgc
  have h3:(i:Int)<16:=by omega
  have h4:(c:Int)<4:=by omega
  simp only[h3,h4,dT,cT,yc,yd,yb,zwg hc (show i<16 by omega),q0a (show i<1000000000000 by omega)]
  exact ih (i+1) k (by omega) (by omega)
theorem zla{c:Nat}(hc:c<4){l t:LI}(ht:t.length=64):q1p 600 t l c=some (wT c l t,()):=by
 have h:=zol hc l t qar 16 0 600 (by omega) (by omega)
 have e0:tab 64 (upW c 0 l t)=t:=by
  conv=>rhs;rw[qi5 ht]
  exact q0b fun j hj=>by unfold upW;rw[iN (by omega)]
 have e1:tab 64 (upW c 16 l t)=wT c l t:=q0b fun j hj=>by
  unfold upW
  by_cases h2:j%4=c
  ·rw[iP h2,iP (by omega)]
  ·rw[iN h2,iN (by omega)]
 rw[e0,e1]at h
 unfold q1p
 rw[show((0:Nat):Int)=0 from rfl]at h
 rw[h]
 rfl
theorem rblank_is:q5j 600 255=some (qou 255,())∧q5j 600 2047=some (qou 2047,()):=by constructor<;>kernel_rfl
theorem zom{b:LI}(hb:Bytes b){k:Nat}(h:Fmt k)(hl:b.length=q3g k):qlq 600 (k:Int) b=some (qw2 k b,0,()):=by
 have hlo:=qov hb
 have hhi:=qwq hb
 have hg:=qwr k
 have l1:=z8a (b:=b) (by omega)
 have l2:=zl0 (b:=b) (by omega)
 have e8:y0 .i64 ((b.length:Int)-8)=((b.length-8:Nat):Int):=by rw[w64 (by omega) (by omega)];omega
 have r7:=zca (F:=600) (by decide) hlo l1
 have r7' :=zca (F:=600) (by decide) hhi l2
 have c1:((b.length:Int) !=(q3g k:Int))=false:=by rw[hl];simp
 have c2:8≤b.length:=by omega
 have c3:b.length-8≤b.length:=by omega
 have ht:psub b.length (b.length-8)=8:=by rw[zp7];omega
 have p3:∀{l t:LI},t.length=64→q1p 600 t l 3=some (wT 3 l t,()):=fun ht=>zla (c:=3) (by decide) ht
 have p0:∀{l t:LI},t.length=64→q1p 600 t l 0=some (wT 0 l t,()):=fun ht=>zla (c:=0) (by decide) ht
 have p1:∀{l t:LI},t.length=64→q1p 600 t l 1=some (wT 1 l t,()):=fun ht=>zla (c:=1) (by decide) ht
 unfold qlq
 rw[(zsb 600 _).1,zkz 600 h]
 simp only[y5,bne_self_eq_false,cF,c1,c2,c3,dT,cT,e8,yc,yb,yd,ht]
 rw[show y8 8 b=lo13 b from rfl,show y8 8 (y9 (b.length-8) b)=hi13 b from rfl,r7,r7']
 simp only[y5]
 refine qhe (p:=fun k=>b.length=q3g k→(cond ((k:Int)==(1:Int))
       none
      (cond ((k:Int)==(2:Int))
        none
       (cond ((k:Int)==(3:Int))
         none
        (cond ((k:Int)==(4:Int))
         ((q5j 600 (255:Int)).bind fun r8437=>
         (q1p 600 r8437.1 (zvo (lo13 b)) (0:Int)).bind fun r8438=>
         some (r8438.1,(0:Int),()))
         (cond ((k:Int)==(5:Int))
          ((q5j 600 (255:Int)).bind fun r8440=>
          (q1p 600 r8440.1 (zvo (lo13 b)) (0:Int)).bind fun r8441=>
          (q1p 600 r8441.1 (zvo (hi13 b)) (1:Int)).bind fun r8442=>
          some (r8442.1,(0:Int),()))
          (cond ((k:Int)==(6:Int))
            none
           (cond ((k:Int)==(7:Int))
            ((qgu 600 b).bind fun r12480=>
            some (r12480.1,r12480.2.1,()))
            (cond ((k:Int)==(8:Int))
             ((q6k 600 b false).bind fun r13133=>
             some (r13133.1,r13133.2.1,()))
             (cond ((k:Int)==(9:Int))
              ((q6k 600 b true).bind fun r13135=>
              some (r13135.1,r13135.2.1,()))
              (cond ((k:Int)==(10:Int))
               ((q6k 600 (hi13 b) false).bind fun r13137=>
               (q6o 600 (lo13 b) false).bind fun r13248=>
               (q1p 600 r13137.1 r13248.1 (3:Int)).bind fun r13249=>
               some (r13249.1,(0:Int),()))
               ((q6o 600 (lo13 b) true).bind fun r13250=>
               (q6o 600 (hi13 b) true).bind fun r13251=>
               cond ((k:Int)==(11:Int))
                ((q5j 600 (2047:Int)).bind fun r13253=>
                (q1p 600 r13253.1 r13250.1 (0:Int)).bind fun r13254=>
                some (r13254.1,(0:Int),()))
                ((q5j 600 (2047:Int)).bind fun r13255=>
                (q1p 600 r13255.1 r13250.1 (0:Int)).bind fun r13256=>
                (q1p 600 r13256.1 r13251.1 (1:Int)).bind fun r13257=>
                some (r13257.1,(0:Int),())))))))))))))=some (qw2 k b,0,())) ?_ ?_ ?_ ?_ ?_ ?_ h hl
 ·intro hl
  simp only[yp,Int.reduceBEq,cT,cF,(zci (F:=600) (by decide) hb hl).2,y5]
  rfl
 ·intro hl
  simp only[yp,Int.reduceBEq,cT,cF,qvz hb hl false,y5]
  rfl
 ·intro hl
  simp only[yp,Int.reduceBEq,cT,cF,qvz hb hl true,y5]
  rfl
 ·intro hl
  simp only[yp,Int.reduceBEq,cT,cF,qvz hhi l2 false,qhi hlo l1 false,p3 (q1y 64 _),y5]
  rfl
 ·intro hl
  simp only[yp,Int.reduceBEq,cT,cF,qhi hlo l1 true,qhi hhi l2 true,rblank_is.2,p0 (qwp 2047),y5]
  rfl
 ·intro hl
  simp only[yp,Int.reduceBEq,cT,cF,qhi hlo l1 true,qhi hhi l2 true,rblank_is.2,p0 (qwp 2047),p1 (wT_len _ _ _),y5]
  rfl
theorem zlb{t:LI}(ht:Rg 255 t)(T:LI)(y z:Int){i:Nat}(hi:i<16):∀(d c k:Nat),c+d=4→d<k→
  q8z 600 k (tab 64 (upS (i*4+c) t)) T y z true (i:Int) (c:Int) true=some (tab 64 (upS (i*4+4) t),T,y,z,true,(i:Int),true,()):=by
 intro d
 induction d with
 |zero=>
  intro c k h1 h2
  obtain⟨k,rfl⟩:∃k',k=k' +1:=⟨k-1,by omega⟩
  obtain rfl:c=4:=by omega
  rfl
 |succ d ih=>
  intro c k h1 h2
  obtain⟨k,rfl⟩:∃k',k=k' +1:=⟨k-1,by omega⟩
  show qdu 600 (q8z 600 k) (tab 64 (upS (i*4+c) t)) T y z true i c true=_
  unfold qdu
  have h3:(i:Int)<16:=by omega
  have h4:(c:Int)<4:=by omega
  have hv:=ht (i*4+c)
  have g:(tab 64 (upS (i*4+c) t)).getD (i*4+c) 0=t.getD (i*4+c) 0:=by
   rw[q7o (by omega)]
   unfold upS
   rw[iN (by omega)]
  have e:y0 .i64 (y0 .i64 (8*t.getD (i*4+c) 0)+y0 .i64 (yx (t.getD (i*4+c) 0) 32))=scV (t.getD (i*4+c) 0):=by
   rw[q1x hv.1,w64 (x:=8*t.getD (i*4+c) 0) (by omega) (by omega),w64 (x:=t.getD (i*4+c) 0/32) (by omega) (by omega),w64 (by omega) (by omega)]
   rfl
  simp only[h3,h4,dT,cT,yc,yd,yb,g,e,zwi (t:=t) (show i*4+c<64 by omega),q0a (show c<1000000000000 by omega)]
  exact ih (c+1) k (by omega) (by omega)
theorem zlc{t:LI}(ht:Rg 255 t)(T:LI)(y z:Int):∀(d i k:Nat),i+d=16→d<k→q90 600 k (tab 64 (upS (i*4) t)) T y z true (i:Int)=some (tab 64 (upS 64 t),T,()):=by
 intro d
 induction d with
 |zero=>
  intro i k h1 h2
  obtain⟨k,rfl⟩:∃k',k=k' +1:=⟨k-1,by omega⟩
  obtain rfl:i=16:=by omega
  rfl
 |succ d ih=>
  intro i k h1 h2
  obtain⟨k,rfl⟩:∃k',k=k' +1:=⟨k-1,by omega⟩
  show qdv 600 (q90 600 k) (tab 64 (upS (i*4) t)) T y z true i=_
  unfold qdv
  have h3:(i:Int)<16:=by omega
  have h:=zlb ht T y z (i:=i) (by omega) 4 0 600 (by omega) (by omega)
  simp only[Nat.add_zero,yq]at h
  simp only[h3,dT,cT,h,y5,q0a (show i<1000000000000 by omega)]
  rw[show i*4+4=(i+1)*4 by omega]
  exact ih (i+1) k (by omega) (by omega)
theorem zon{k:Nat}(h:Fmt k){t:LI}(hl:t.length=64)(ht:Rg 255 t):qfr 600 (k:Int) t=some (scT k t,()):=by
 unfold qfr scT
 rw[(zsb 600 _).1,zkz 600 h]
 simp only[y5]
 cases qz2 k
 ·rfl
 ·have h:=zlc ht qar (q3g k:Int) (ql6 k) 16 0 600 (by omega) (by omega)
  have e0:tab 64 (upS (0*4) t)=t:=by
   conv=>rhs;rw[qi5 hl]
   exact q0b fun j hj=>by unfold upS;rw[iN (by omega)]
  have e1:tab 64 (upS 64 t)=tab 64 fun j=>scV (t.getD j 0):=q0b fun j hj=>by unfold upS;rw[iP hj]
  rw[e0,e1,show((0:Nat):Int)=0 from rfl]at h
  simp only[h,y5,if_true]
theorem zld{mask:Int}(hm:0≤mask∧mask≤15){s u:LI}(hs:Rg 2047 s)(hu:Rg 2047 u){i:Nat}(hi:i<16):∀(d c k:Nat),c+d=4→d<k→
  q95 600 k mask s u (sumN (errT mask s u) (i*4+c)) (i:Int) (c:Int)=some (mask,s,u,sumN (errT mask s u) (i*4+4),(i:Int),()):=by
 intro d
 induction d with
 |zero=>
  intro c k h1 h2
  obtain⟨k,rfl⟩:∃k',k=k' +1:=⟨k-1,by omega⟩
  obtain rfl:c=4:=by omega
  rfl
 |succ d ih=>
  intro c k h1 h2
  obtain⟨k,rfl⟩:∃k',k=k' +1:=⟨k-1,by omega⟩
  show qdx 600 (q95 600 k) mask s u (sumN (errT mask s u) (i*4+c)) i c=_
  unfold qdx
  have h3:(i:Int)<16:=by omega
  have h4:(c:Int)<4:=by omega
  have b1:=hs (i*4+c)
  have b2:=hu (i*4+c)
  have b3:=q98 (n:=i*4+c) (f:=errT mask s u) fun j _=>qwt hs hu j
  have b5:(2047*2047:Int)*((i*4+c:Nat):Int)≤2047*2047*64:=Int.mul_le_mul_of_nonneg_left (by omega) (by decide)
  have hp:(0:Int)<2^c:=qex c
  have hp0:((2:Int)^c==0)=false:=beqF (by omega)
  have m16:qjy 600 mask 16=some (mask,()):=by
   rw[zke 600 (by decide) (by omega),Int.emod_eq_of_lt (by omega) (by omega)]
  have nx:=ih (c+1) k (by omega) (by omega)
  rw[show i*4+(c+1)=(i*4+c)+1 by omega]at nx
  rw[show sumN (errT mask s u) (i*4+c+1)=sumN (errT mask s u) (i*4+c)+errT mask s u (i*4+c)from rfl]at nx
  simp only[h3,h4,dT,cT,yc,yd,yb,m16,znp (F:=600) (by decide) (show c≤8 by omega),y5,hp0,Bool.not_false,mbit_is hm (show c<4 by omega),q0a (show c<1000000000000 by omega)]
  cases hb:bitM mask c with
  |true=>
   have e:errT mask s u (i*4+c)=(s.getD (i*4+c) 0-u.getD (i*4+c) 0)*(s.getD (i*4+c) 0-u.getD (i*4+c) 0):=by
    unfold errT
    rw[iP (by rw[show(i*4+c)%4=c by omega];exact hb)]
   have b4:=qcb (x:=s.getD (i*4+c) 0-u.getD (i*4+c) 0) (m:=2047) (by omega)
   have sq:qjz 600 (y0 .i64 (s.getD (i*4+c) 0-u.getD (i*4+c) 0))=some ((s.getD (i*4+c) 0-u.getD (i*4+c) 0)*(s.getD (i*4+c) 0-u.getD (i*4+c) 0),()):=by
    unfold qjz
    rw[w64 (x:=s.getD (i*4+c) 0-u.getD (i*4+c) 0) (by omega) (by omega),w64 (by omega) (by omega)]
   rw[e]at nx
   simp only[cT,sq,y5]
   rw[w64 (by omega) (by omega)]
   exact nx
  |false=>
   have e:errT mask s u (i*4+c)=0:=by
    unfold errT
    rw[iN (by rw[show(i*4+c)%4=c by omega,hb];simp)]
   rw[e,Int.add_zero]at nx
   simp only[cF]
   exact nx
theorem zle{mask:Int}(hm:0≤mask∧mask≤15){s u:LI}(hs:Rg 2047 s)(hu:Rg 2047 u):∀(d i k:Nat),i+d=16→d<k→q96 600 k mask s u (sumN (errT mask s u) (i*4)) (i:Int)=some (errS mask s u,()):=by
 intro d
 induction d with
 |zero=>
  intro i k h1 h2
  obtain⟨k,rfl⟩:∃k',k=k' +1:=⟨k-1,by omega⟩
  obtain rfl:i=16:=by omega
  rfl
 |succ d ih=>
  intro i k h1 h2
  obtain⟨k,rfl⟩:∃k',k=k' +1:=⟨k-1,by omega⟩
  show qdy 600 (q96 600 k) mask s u (sumN (errT mask s u) (i*4)) i=_
  unfold qdy
  have h3:(i:Int)<16:=by omega
  have h:=zld hm hs hu (i:=i) (by omega) 4 0 600 (by omega) (by omega)
  simp only[Nat.add_zero,yq]at h
  simp only[h3,dT,cT,h,y5,q0a (show i<1000000000000 by omega)]
  rw[show i*4+4=(i+1)*4 by omega]
  exact ih (i+1) k (by omega) (by omega)
theorem zd7{b t:LI}(hb:Bytes b){k:Nat}(h:Fmt k)(hl:b.length=q3g k)(htl:t.length=64)(ht:Rg 255 t):qk4 600 (k:Int) b t=some (q9g k b t,0,()):=by
 have e:=zle (zoc k) (q3f (qw3 (k:=k) ht) (qow k)) (q3f (z8b hb h) (qow k)) 16 0 600 (by omega) (by omega)
 simp only[Nat.zero_mul,yq,sumN]at e
 unfold qk4 qzi
 rw[zom hb h hl,(zsb 600 _).1,zkz 600 h,zon h htl ht]
 simp only[y5,bne_self_eq_false,cF,e]
 rfl
def c12(base times table:Int):LI:=[base,16*times+table,0,0,0,0,0,0]
def j12(base times table:Int)(w:LI)(i:Nat):LI:=qj7 qf6 (fun _=>3) (fun i=>w.getD i 0) (c12 base times table) i
section
variable {base times table:Int} {w:LI} (hf:EacFit base times table w)
include hf
theorem z2r:Bytes (c12 base times table):=fun x hx=>by
 obtain⟨h1,h2,h3,_⟩:=hf
 unfold c12 at hx
 simp only[yr,List.not_mem_nil,or_false]at hx
 omega
omit hf in
theorem zwr:∀i,i<16→qf6 i+3≤8*(c12 base times table).length:=fun i hi=>by
 have:=z88 hi
 show qf6 i+3≤64
 omega
omit hf in
theorem at_apart(i j:Nat)(hi:i<16)(hj:j<16)(h:i≠j):qf6 i+3≤qf6 j∨qf6 j+3≤qf6 i:=by
 unfold qf6
 omega
theorem at_val:∀i,i<16→0≤w.getD i 0∧w.getD i 0<2^3:=fun i hi=>by
 have:=hf.2.2.2.2 i hi
 omega
theorem zqo{q:Nat}(hq:q<16):q05 (j12 base times table w 16) q=q05 (c12 base times table) q:=
 z2j (z2r hf) zwr (fun i hi h=>by have:=z88 hi;omega) 16 (wc _)
theorem j12_hv:∀i,i<19→eacV base times table w i=hv (j12 base times table w 16) (eacA i) (eacN i):=by
 have hb:=z2r hf
 obtain⟨h1,h2,h3,_⟩:=id hf
 intro i hi
 match i with
 |0=>
  refine(qwk (by show 0≤base∧base<2^8;omega) fun q g1 g2=> ?_).symm
  have g2:q<8:=g2
  rw[zqo hf (by omega)]
  unfold q05 bitL
  rw[show q/8=0 by omega,show 7-q%8=0+8-1-q by omega]
  rfl
 |1=>
  refine(qwk (by show 0≤times∧times<2^4;omega) fun q g1 g2=> ?_).symm
  have g1:8≤q:=g1
  have g2:q<12:=g2
  rw[zqo hf (by omega)]
  unfold q05 bitL
  rw[show q/8=1 by omega,show(c12 base times table).getD 1 0=16*times+table from rfl]
  show(16*times+table)/2^(7-q%8)%2=times/2^(8+4-1-q)%2
  have:q=8∨q=9∨q=10∨q=11:=by omega
  rcases this with rfl|rfl|rfl|rfl<;>simp only[Nat.reduceMod,Nat.reduceSub,Nat.reduceAdd,Int.reducePow]<;>omega
 |2=>
  refine(qwk (by show 0≤table∧table<2^4;omega) fun q g1 g2=> ?_).symm
  have g1:12≤q:=g1
  have g2:q<16:=g2
  rw[zqo hf (by omega)]
  unfold q05 bitL
  rw[show q/8=1 by omega,show(c12 base times table).getD 1 0=16*times+table from rfl]
  show(16*times+table)/2^(7-q%8)%2=table/2^(12+4-1-q)%2
  have:q=12∨q=13∨q=14∨q=15:=by omega
  rcases this with rfl|rfl|rfl|rfl<;>simp only[Nat.reduceMod,Nat.reduceSub,Nat.reduceAdd,Int.reducePow]<;>omega
 |i+3=>exact(zka (A:=qf6) (N:=fun _=>3) (V:=fun i=>w.getD i 0) hb zwr (fun i j hi hj=>at_apart i j hi hj) (at_val hf) (j:=i) (by omega)).symm
theorem j12_is:j12 base times table w 16=eacJ base times table w 19:=
 (zt7 (q3o _ _ _ (z2r hf) 16) qot (by rw[q47];rfl) (fun i hi=>(zq5 i hi).1) (fun i j hi hj=>zo3 i hi j hj) (fun i hi=>j12_hv hf i hi) (fun q hq=>zwe q hq)).symm
theorem zg8:∀(d i k:Nat),i+d=16→d<k→qax 600 k w (j12 base times table w i) (i:Int)=some (.inr (j12 base times table w 16,())):=by
 intro d
 induction d with
 |zero=>
  intro i k h1 h2
  obtain⟨k,rfl⟩:∃k',k=k' +1:=⟨k-1,by omega⟩
  obtain rfl:i=16:=by omega
  rfl
 |succ d ih=>
  intro i k h1 h2
  obtain⟨k,rfl⟩:∃k',k=k' +1:=⟨k-1,by omega⟩
  show qge 600 (qax 600 k) _ _ _=_
  unfold qge
  have h3:(i:Int)<16:=by omega
  have hw:=at_val hf i (by omega)
  have hi:qaw 600 (w.getD i 0) 7=some (true,()):=by
   have h4:w.getD i 0≤7:=by omega
   unfold qaw
   simp only[hw.1,h4,dT,cT]
  have hs:=z2d (F:=600) (by decide) (b:=j12 base times table w i) (q3o _ _ _ (z2r hf) i) (by unfold j12;rw[q47];show 8≤1099511627776;decide) (a:=qf6 i) (n:=3) (v:=w.getD i 0) (by decide) (by unfold j12;rw[q47];exact zwr i (by omega)) hw
  simp only[yp]at hs
  simp only[h3,dT,cT,yc,yd,yb,hi,y5,Bool.not_true,cF,zwq (show i<16 by omega),wu64 hw.1 (show w.getD i 0≤18446744073709551615 by omega),hs,q0a (show i<1000000000000 by omega)]
  exact ih (i+1) k (by omega) (by omega)
theorem zh8:qnt 600 base times table w=some (eacJ base times table w 19,0,()):=by
 have h:=zg8 hf 16 0 600 (by omega) (by omega)
 obtain⟨h1,h2,h3,_⟩:=id hf
 have i1:qaw 600 base 255=some (true,()):=by
  unfold qaw
  simp only[h1.1,h1.2,dT,cT]
 have i2:qaw 600 times 15=some (true,()):=by
  unfold qaw
  simp only[h2.1,h2.2,dT,cT]
 have i3:qaw 600 table 15=some (true,()):=by
  unfold qaw
  simp only[h3.1,h3.2,dT,cT]
 have e0:[y0 .u8 base,y0 .u8 (y0 .i64 (y0 .i64 (16*times)+table)),0,0,0,0,0,0]=j12 base times table w 0:=by
  rw[wu8 h1.1 h1.2,w64 (x:=16*times) (by omega) (by omega),w64 (by omega) (by omega),wu8 (by omega) (by omega)]
  rfl
 unfold qnt
 simp only[i1,i2,i3,y5,Bool.not_true,cF,e0]
 rw[show((0:Nat):Int)=0 from rfl]at h
 rw[h,j12_is hf]
 simp only[y5]
end
theorem zoo{b:Nat}(hb:b≤8):∀(d i k:Nat),i+d=b→d<k→q83 600 k (b:Int) ((2^i:Nat):Int) (i:Int)=some ((b:Int),((2^b:Nat):Int),()):=by
 intro d
 induction d with
 |zero=>
  intro i k h1 h2
  obtain⟨k,rfl⟩:∃k',k=k' +1:=⟨k-1,by omega⟩
  obtain rfl:i=b:=by omega
  show q91 600 (q83 600 k) _ _ _=_
  unfold q91
  simp only[yv,dF,cF]
 |succ d ih=>
  intro i k h1 h2
  obtain⟨k,rfl⟩:∃k',k=k' +1:=⟨k-1,by omega⟩
  show q91 600 (q83 600 k) _ _ _=_
  unfold q91
  have h3:(i:Int)<(b:Int):=by omega
  have hp:2^i≤2^8:=Nat.pow_le_pow_right (by decide) (by omega)
  have hp0:=Nat.pow_pos (n:=i) (show 0<2 by decide)
  have e:y0 .i64 (2*((2^i:Nat):Int))=((2^(i+1):Nat):Int):=by
   rw[w64 (by omega) (by omega),Nat.pow_succ]
   omega
  simp only[h3,dT,cT,e,q0a (show i<1000000000000 by omega)]
  exact ih (i+1) k (by omega) (by omega)
theorem qwv{b:Nat}(hb:1≤b∧b≤8):q6d 600 (b:Int)=some (lvW b,()):=by
 have hp:=pow_b hb
 have h1:=zoo (b:=b) hb.2 b 0 600 (by omega) (by omega)
 have h2:=ql7 (m:=2^b) (by omega) (fun i=>q0n b i) (fun k w i=>q84 600 k (b:Int) w ((2^b:Nat):Int) i) (fun w=>some (w,())) (fun k i hi=>by
   show q92 600 (q84 600 k) _ _ _ _=_
   unfold q92
   have h3:(i:Int)<((2^b:Nat):Int):=by omega
   simp only[h3,dT,cT,qj8 (F:=600) (by decide) hb (x:=(i:Int)) (by omega),y5,q1y,show i+1≤1099511627776 by omega,yd,q0a (show i<1000000000000 by omega)]) (fun k=>by
   show q92 600 (q84 600 k) _ _ _ _=_
   unfold q92
   simp only[yv,dF,cF])
 unfold q6d
 rw[show((2^0:Nat):Int)=1 from rfl,show((0:Nat):Int)=0 from rfl]at h1
 rw[h1]
 simp only[y5]
 rw[h2]
 rfl
theorem zsd{m:Nat}(hm:m≤300){a z:Int}(ha:0≤a∧a≤8)(hz:0≤z∧z≤8):qfs 600 (m:Int) a z=some (tab m fun i=>a*(i:Int)+z,()):=by
 have h2:=ql7 (m:=m) (by omega) (fun i=>a*(i:Int)+z) (fun k w i=>q86 600 k (m:Int) a z w i) (fun w=>some (w,())) (fun k i hi=>by
   show q94 600 (q86 600 k) _ _ _ _ _=_
   unfold q94
   have h3:(i:Int)<(m:Int):=by omega
   have b1:a*(i:Int)≤8*(i:Int):=Int.mul_le_mul_of_nonneg_right ha.2 (by omega)
   have b2:0≤a*(i:Int):=Int.mul_nonneg ha.1 (by omega)
   simp only[h3,dT,cT,w64 (x:=a*(i:Int)) (by omega) (by omega),w64 (x:=a*(i:Int)+z) (by omega) (by omega),q1y,show i+1≤1099511627776 by omega,yd,q0a (show i<1000000000000 by omega)]) (fun k=>by
   show q94 600 (q86 600 k) _ _ _ _ _=_
   unfold q94
   simp only[yv,dF,cF])
 unfold qfs
 rw[h2]
 rfl
theorem rlvP_is:qfs 600 256 1 0=some (lvP,()):=by
 have h:=zsd (m:=256) (by decide) (a:=1) (z:=0) (by decide) (by decide)
 rw[show((256:Nat):Int)=256 from rfl]at h
 rw[h]
 unfold lvP
 rw[q0b (f:=fun i=>(i:Int)) fun i _=>by omega]
theorem rlvF_is:qfs 600 256 8 4=some (lvF,()):=
 zsd (m:=256) (by decide) (a:=8) (z:=4) (by decide) (by decide)
theorem qjq{t:LI}(hl:t.length=64){c:Nat}(hc:c<4):q4c 600 t (c:Int)=some (colT t c,()):=by
 have h2:=ql7 (m:=16) (by omega) (fun i=>t.getD (i*4+c) 0) (fun k w i=>qat 600 k (c:Int) t w i) (fun w=>some (w,())) (fun k i hi=>by
   show qgb 600 (qat 600 k) _ _ _ _=_
   unfold qgb
   have h3:(i:Int)<16:=by omega
   have h4:(c:Int)<4:=by omega
   simp only[h3,h4,dT,cT,yc,yb,q1y,show i+1≤1099511627776 by omega,yd,q0a (show i<1000000000000 by omega)]) (fun k=>rfl)
 unfold q4c
 rw[h2]
 rfl
theorem zqp{l:LI}(hl:Rg 2047 l)(hn:l.length≤64){v:Int}(hv:0≤v∧v≤2047):∀(d i k:Nat),i+d=l.length→d<k→
  qa3 600 k v l (sumN (fun i=>(l.getD i 0-v)*(l.getD i 0-v)) i) (i:Int)=some (qsv l v,()):=by
 intro d
 induction d with
 |zero=>
  intro i k h1 h2
  obtain⟨k,rfl⟩:∃k',k=k' +1:=⟨k-1,by omega⟩
  obtain rfl:i=l.length:=by omega
  show qau 600 (qa3 600 k) _ _ _ _=_
  unfold qau
  simp only[yv,dF,cF]
  rfl
 |succ d ih=>
  intro i k h1 h2
  obtain⟨k,rfl⟩:∃k',k=k' +1:=⟨k-1,by omega⟩
  show qau 600 (qa3 600 k) _ _ _ _=_
  unfold qau
  have h3:(i:Int)<(l.length:Int):=by omega
  have b1:=hl i
  have b2:=qcb (x:=l.getD i 0-v) (m:=2047) (by omega)
  have b3:=q98 (n:=i) (f:=fun i=>(l.getD i 0-v)*(l.getD i 0-v)) (m:=2047*2047) fun j _=>qcb (m:=2047) (by have:=hl j;omega)
  have b4:(2047*2047:Int)*(i:Int)≤2047*2047*64:=Int.mul_le_mul_of_nonneg_left (by omega) (by decide)
  have sq:qjz 600 (y0 .i64 (l.getD i 0-v))=some ((l.getD i 0-v)*(l.getD i 0-v),()):=by
   unfold qjz
   rw[w64 (x:=l.getD i 0-v) (by omega) (by omega),w64 (by omega) (by omega)]
  simp only[h3,dT,cT,yc,yd,yb,sq,y5,q0a (show i<1000000000000 by omega)]
  rw[w64 (by omega) (by omega)]
  exact ih (i+1) k (by omega) (by omega)
theorem rSum_is{l:LI}(hl:Rg 2047 l)(hn:l.length≤64){v:Int}(hv:0≤v∧v≤2047):qtg 600 v l=some (qsv l v,()):=by
 have h:=zqp hl hn hv l.length 0 600 (by omega) (by omega)
 simp only[yq,sumN]at h
 unfold qtg
 rw[h]
 rfl
theorem zop{l L:LI}(hl:Rg 2047 l)(hn:l.length≤64)(hL:Rg 2047 L)(hm:L.length≤300):∀(d i k:Nat),1≤i→i+d=L.length→d<k→
  q85 600 k L l (q2d (fun i=>qsv l (L.getD i 0)) i:Int) (i:Int)=some ((zcz L l:Int),()):=by
 intro d
 induction d with
 |zero=>
  intro i k h0 h1 h2
  obtain⟨k,rfl⟩:∃k',k=k' +1:=⟨k-1,by omega⟩
  obtain rfl:i=L.length:=by omega
  show q93 600 (q85 600 k) _ _ _ _=_
  unfold q93
  simp only[yv,dF,cF]
  rfl
 |succ d ih=>
  intro i k h0 h1 h2
  obtain⟨k,rfl⟩:∃k',k=k' +1:=⟨k-1,by omega⟩
  show q93 600 (q85 600 k) _ _ _ _=_
  unfold q93
  have h3:(i:Int)<(L.length:Int):=by omega
  have hlt:=qf3 (fun i=>qsv l (L.getD i 0)) (n:=i) (by omega)
  have h4:(q2d (fun i=>qsv l (L.getD i 0)) i:Int)<(L.length:Int):=by omega
  have nx:=ih (i+1) k (by omega) (by omega) (by omega)
  unfold q2d at nx
  rw[iN (by omega)]at nx
  simp only[h3,h4,dT,cT,yc,yd,yb,rSum_is hl hn (hL _),y5,q0a (show i<1000000000000 by omega)]
  by_cases hc:qsv l (L.getD i 0)<qsv l (L.getD (q2d (fun i=>qsv l (L.getD i 0)) i) 0)
  ·rw[iP hc]at nx
   simp only[hc,dT,cT]
   exact nx
  ·rw[iN hc]at nx
   simp only[hc,dF,cF]
   exact nx
theorem z8d{s:LI}(hs:Rg 2047 s)(c:Nat){L:LI}(hL:Rg 2047 L)(hm:1≤L.length∧L.length≤300):q4d 600 L (colT s c)=some (bN L s c,()):=by
 have h:=zop (l:=colT s c) (zd0 hs c) (by rw[z2m];decide) hL hm.2 (L.length-1) 1 600 (by omega) (by omega) (by omega)
 have e:q2d (fun i=>qsv (colT s c) (L.getD i 0)) 1=0:=rfl
 rw[e]at h
 unfold q4d
 rw[show((0:Nat):Int)=0 from rfl,show((1:Nat):Int)=1 from rfl]at h
 rw[h]
 rfl
theorem rall_is(n:Int):qth 600 n=some (q37 n,()):=by
 have key:∀T w:LI,w.length=16→qa4 600 600 n T w 0=some (T,tab 16 (fun _=>n),()):=by
  intro T w hw
  refine qbq 16 (fun _=>n) (fun k w i=>qa4 600 k n T w i) (fun w=>some (T,w,())) ?_ ?_ w hw 600 (by omega)
  ·intro k i w hi hw
   show qiy 600 (qa4 600 k) n T w i=_
   unfold qiy
   have h3:(i:Int)<16:=by omega
   simp only[h3,dT,cT,yc,yd,yb,q0a (show i<1000000000000 by omega)]
  ·intro k w hw
   rfl
 unfold qth
 rw[key _ _ rfl]
 rfl
theorem zws{A:LI}(hA:Rg 31 A):qnr 600 (true,false,A,[0,0,0],[0,0],q37 0,())=some (zl4 A,0,()):=by
 rw[ztf (F:=600) (by decide),iP (zl5 hA)]
 rfl
theorem rlayB_is{x y z:Int}(h:ok3 [x,y,z]):qtc 600 [x,y,z] [x,y,z] [x,y,z]=some (layV [x,y,z] [x,y,z] [x,y,z],0,()):=by
 obtain⟨⟨a1,a2⟩,⟨b1,b2⟩,⟨c1,c2⟩⟩:=h
 simp only[yt,yu]at a1 a2 b1 b2 c1 c2
 have r:Rg 127 [x,y,z]:=q1z (by omega) (q1z (by omega) (q1z (by omega) (qs7 (by decide))))
 have h64:∀i,I64 (([x,y,z]++([x,y,z]++[x,y,z])).getD i 0):=fun i=>by
  have:=qbt r (qbt r r) i
  unfold I64
  omega
 have hk:ok3 [x,y,z]:=⟨⟨a1,a2⟩,⟨b1,b2⟩,⟨c1,c2⟩⟩
 rw[(zw9 rfl rfl rfl h64).2,iP ⟨hk,hk,hk⟩]
section
variable {t:LI} (hl:t.length=64) (ht:Rg 2047 t)
include hl ht
theorem zwt{b:Nat}(hb:1≤b∧b≤8)(c:Nat):q4d 600 (lvW b) (colT t c)=some (bN (lvW b) t c,()):=
 z8d ht c (q3f (rg_lvW hb) (by decide)) (by rw[zl7];have:=pow_b hb;omega)
theorem rbest_P(c:Nat):q4d 600 lvP (colT t c)=some (bN lvP t c,()):=
 z8d ht c (q3f rg_lvP (by decide)) (by rw[zqe];decide)
theorem rbest_L(c:Nat):q4d 600 lvL (colT t c)=some (bN lvL t c,()):=
 z8d ht c (q3f rg_lvL (by decide)) (by rw[zqf];decide)
theorem rbest_F(c:Nat):q4d 600 lvF (colT t c)=some (bN lvF t c,()):=
 z8d ht c rg_lvF (by rw[zqg];decide)
omit ht in
theorem zse:q4c 600 t 0=some (colT t 0,())∧q4c 600 t 1=some (colT t 1,())∧q4c 600 t 2=some (colT t 2,())∧q4c 600 t 3=some (colT t 3,()):=
 ⟨qjq hl (c:=0) (by decide),qjq hl (c:=1) (by decide),qjq hl (c:=2) (by decide),qjq hl (c:=3) (by decide)⟩
omit hl ht in
theorem zlf:q6d 600 4=some (lvW 4,())∧q6d 600 5=some (lvW 5,())∧q6d 600 6=some (lvW 6,())∧q6d 600 7=some (lvW 7,()):=
 ⟨qwv (b:=4) (by decide),qwv (b:=5) (by decide),qwv (b:=6) (by decide),qwv (b:=7) (by decide)⟩
theorem z4f{c:Nat}(hc:c<4):qft 600 t (c:Int)=some (eacJ (bN lvF t c) 1 13 (q37 4) 19,()):=by
 have hj:=zh8 (qhg (base:=bN lvF t c) (times:=1) (table:=13) (n:=4) (by have:=bN_F t c;omega) (by decide) (by decide) (by decide))
 unfold qft
 simp only[rlvF_is,qjq hl hc,rbest_F hl ht,rall_is,hj,y5]
theorem zoq:qct 600 t=some (plB t,()):=by
 obtain⟨p0,p1,p2,p3⟩:=zse hl
 obtain⟨w4,w5,w6,w7⟩:=zlf
 have hj:=rlayB_is (zwn t)
 unfold qct
 simp only[p0,p1,p2,w6,w7,y5,zwt hl ht (show 1≤6∧6≤8 by decide),zwt hl ht (show 1≤7∧7≤8 by decide),hj]
 rfl
omit hl ht in
theorem zor(x0:LI):q56 600 600 x0 (lvW 5) 0=some (x0,lvL,()):=by
 refine z48 32 (fun i=>q0u (q0n 5 i+2)) (lvW 5) (fun k w i=>q56 600 k x0 w i) (fun w=>some (x0,w,())) ?_ ?_ (zl7 5) 600 (by omega)
 ·intro k i w hi hw hs
  show q7g 600 (q56 600 k) x0 w i=_
  unfold q7g
  have h3:(i:Int)<32:=by omega
  have e:=hs i (wc _)
  have e1:(lvW 5).getD i 0=q0n 5 i:=q7o (by show i<32;omega)
  have wb:=q1k (b:=5) (by decide) (i:Int)
  have e2:y0 .i64 (q0n 5 (i:Int)+2)=q0n 5 (i:Int)+2:=w64 (by omega) (by omega)
  simp only[hw,yp,h3,dT,cT,yc,yd,yb,e,e1,e2,qzy,y5,q0a (show i<1000000000000 by omega)]
 ·intro k w hw
  show q7g 600 (q56 600 k) x0 w (32:Nat)=_
  unfold q7g
  simp only[hw,yv,dF,cF]
theorem zos(A x3 x4 x5:LI)(hA:A.length=3):q6w 600 600 t lvL A x3 x4 x5 0=some (liN t,x3,x4,x5,()):=by
 refine qbq 3 (fun c=>bN lvL t c) (fun k w i=>q6w 600 k t lvL w x3 x4 x5 i) (fun w=>some (w,x3,x4,x5,())) ?_ ?_ A hA 600 (by omega)
 ·intro k i w hi hw
  show qdz 600 (q6w 600 k) _ _ _ _ _ _ _=_
  unfold qdz
  have h3:(i:Int)<3:=by omega
  simp only[h3,dT,cT,qjq hl (show i<4 by omega),rbest_L hl ht,y5,yc,yd,yb,q0a (show i<1000000000000 by omega)]
 ·intro k w hw
  rfl
theorem zqq:qps 600 t=some (zl4 (liN t),()):=by
 obtain⟨w4,w5,w6,w7⟩:=zlf
 have hj:=zws (A:=liN t) (qd7 (by decide) fun c _=>bN_L t c)
 unfold qps
 simp only[w5,zor,y5]
 rw[zos hl ht _ _ _ _ rfl]
 simp only[y5]
 rw[show q0o=q37 0 from rfl,hj]
 simp only[y5]
end
section
variable {t:LI} (hl:t.length=64) (ht:Rg 255 t)
include hl ht
end
theorem zd8{t:LI}(hl:t.length=64)(ht:Rg 255 t):q55 600 t=some (true,()):=by
 have l2:∀(i:Nat),i<16→∀(d c k:Nat),c+d=4→d<k→q14 600 k t (i:Int) (c:Int)=some (.inr (t,(i:Int),())):=by
  intro i hi d
  induction d with
  |zero=>
   intro c k h1 h2
   obtain⟨k,rfl⟩:∃k',k=k' +1:=⟨k-1,by omega⟩
   obtain rfl:c=4:=by omega
   rfl
  |succ d ih=>
   intro c k h1 h2
   obtain⟨k,rfl⟩:∃k',k=k' +1:=⟨k-1,by omega⟩
   show q4a 600 (q14 600 k) t i c=_
   unfold q4a
   have h3:(i:Int)<16:=by omega
   have h4:(c:Int)<4:=by omega
   have hr:=ht (i*4+c)
   have v1:¬t.getD (i*4+c) 0<0:=by omega
   have v2:¬255<t.getD (i*4+c) 0:=by omega
   simp only[h3,h4,dT,cT,yc,yd,yb,q0a (show c<1000000000000 by omega),v1,v2,dF,cF]
   exact ih (c+1) k (by omega) (by omega)
 have l0:∀(d i k:Nat),i+d=16→d<k→q15 600 k t (i:Int)=some (.inr ()):=by
  intro d
  induction d with
  |zero=>
   intro i k h1 h2
   obtain⟨k,rfl⟩:∃k',k=k' +1:=⟨k-1,by omega⟩
   obtain rfl:i=16:=by omega
   rfl
  |succ d ih=>
   intro i k h1 h2
   obtain⟨k,rfl⟩:∃k',k=k' +1:=⟨k-1,by omega⟩
   show q4b 600 (q15 600 k) t i=_
   unfold q4b
   have h3:(i:Int)<16:=by omega
   have h:=l2 i (by omega) 4 0 600 (by omega) (by omega)
   rw[show((0:Nat):Int)=0 from rfl]at h
   simp only[h3,dT,cT,h,y5,q0a (show i<1000000000000 by omega)]
   exact ih (i+1) k (by omega) (by omega)
 have h:=l0 16 0 600 (by omega) (by omega)
 rw[show((0:Nat):Int)=0 from rfl]at h
 unfold q55
 rw[h]
 rfl
section
variable {t:LI} (hl:t.length=64) (ht:Rg 255 t)
include hl ht
theorem zqr{k:Nat}(h:Fmt k):q6x 600 (k:Int) t=some (qhh k (scT k t),0,()):=by
 have hr:=q3f (m:=255) (m' :=2047) ht (by decide)
 obtain⟨p0,p1,p2,p3⟩:=zse hl
 obtain⟨w4,w5,w6,w7⟩:=zlf
 have pl:=zoq hl hr
 have ln:∀{n m:Nat},n=8→m=8→decide (n+m≤1099511627776)=true:=fun h1 h2=>by rw[h1,h2];rfl
 have go:∀k:Nat,Fmt k→qlp 600 (k:Int)=some (((q3g k:Int),ql6 k,qz2 k,()),0,())∧qfr 600 (k:Int) t=some (scT k t,()):=fun k h=>⟨by rw[(zsb 600 _).1,zkz 600 h],zon h hl ht⟩
 have bw:=zd8 hl ht
 refine qhe (p:=fun k=>q6x 600 (k:Int) t=some (qhh k (scT k t),0,())) ?_ ?_ ?_ ?_ ?_ ?_ h
 ·have g:=go 7 ⟨by decide,by decide⟩
  simp only[yp]at g⊢
  unfold q6x
  simp only[g.1,g.2,bw,y5,bne_self_eq_false,cF,Bool.not_true,Int.reduceBEq,beq_self_eq_true,cT,zqq hl hr]
  rfl
 ·have g:=go 8 ⟨by decide,by decide⟩
  simp only[yp]at g⊢
  unfold q6x
  simp only[g.1,g.2,bw,y5,bne_self_eq_false,cF,Bool.not_true,Int.reduceBEq,beq_self_eq_true,cT,pl]
  rfl
 ·have g:=go 9 ⟨by decide,by decide⟩
  have e0:=zd7 (k:=9) (qz3 t).1 ⟨by decide,by decide⟩ (qz3 t).2 hl ht
  have e1:=zd7 (k:=9) bareB_ok.1 ⟨by decide,by decide⟩ bareB_ok.2 hl ht
  simp only[yp]at g e0 e1⊢
  have hn:zqi 9 t (plB t) z7p=qhh 9 (scT 9 t):=rfl
  unfold q6x
  rw[show q7h=z7p from rfl,←hn]
  simp only[g.1,g.2,bw,y5,bne_self_eq_false,cF,Bool.not_true,Int.reduceBEq,beq_self_eq_true,cT,pl,e0,e1]
  unfold zqi
  by_cases hc:q9g 9 z7p t<q9g 9 (plB t) t
  ·simp only[hc,dT,cT,if_true]
  ·simp only[hc,dF,cF,if_false]
 ·have g:=go 10 ⟨by decide,by decide⟩
  have j:=zh8 (qhg (base:=bN lvP t 3) (times:=0) (table:=0) (n:=0) (bN_P t 3) (by decide) (by decide) (by decide))
  simp only[yp]at g⊢
  unfold q6x
  rw[show qe0=q37 0 from rfl]
  simp only[g.1,g.2,bw,y5,bne_self_eq_false,cF,Bool.not_true,Int.reduceBEq,beq_self_eq_true,cT,rlvP_is,p3,rbest_P hl hr,j,pl,ln (qca _ _ _ _) (qz3 _).2,yd]
  rfl
 ·have g:=go 11 ⟨by decide,by decide⟩
  have f0:=z4f (t:=scT 11 t) (z08 hl) (qw3 (k:=11) ht) (c:=0) (by decide)
  simp only[yp,yq]at g f0⊢
  unfold q6x
  simp only[g.1,g.2,bw,y5,bne_self_eq_false,cF,Bool.not_true,Int.reduceBEq,beq_self_eq_true,cT,f0]
  rfl
 ·have g:=go 12 ⟨by decide,by decide⟩
  have f0:=z4f (t:=scT 12 t) (z08 hl) (qw3 (k:=12) ht) (c:=0) (by decide)
  have f1:=z4f (t:=scT 12 t) (z08 hl) (qw3 (k:=12) ht) (c:=1) (by decide)
  simp only[yp,yq,Int.natCast_one]at g f0 f1⊢
  unfold q6x
  simp only[g.1,g.2,bw,y5,bne_self_eq_false,cF,Bool.not_true,Int.reduceBEq,beq_self_eq_true,cT,f0,f1,ln (qca _ _ _ _) (qca _ _ _ _),yd]
  rfl
end
theorem zh9{σ ρ:Type}{N:Nat}(hN:N≤500)(L:Nat→σ→Int→Option ρ)(I:Nat→σ→Prop)(R:ρ→Prop)
  (step:∀k i s,i<N→I i s→∃s',I (i+1) s' ∧L (k+1) s (i:Int)=L k s' ((i+1:Nat):Int))
  (stop:∀k s,I N s→∃r,R r∧L (k+1) s (N:Int)=some r) (i0:Nat) (hi:i0≤N) {s:σ} (h0:I i0 s) (k:Nat) (hk:N-i0<k):∃r,R r∧L k s (i0:Int)=some r:=by
 have key:∀(d i k:Nat) (s:σ),i+d=N→d<k→I i s→∃r,R r∧L k s (i:Int)=some r:=by
  intro d
  induction d with
  |zero=>
   intro i k s h1 h2 hI
   obtain⟨k,rfl⟩:∃k',k=k' +1:=⟨k-1,by omega⟩
   obtain rfl:i=N:=by omega
   exact stop k s hI
  |succ d ih=>
   intro i k s h1 h2 hI
   obtain⟨k,rfl⟩:∃k',k=k' +1:=⟨k-1,by omega⟩
   obtain⟨s',h3,h4⟩:=step k i s (by omega) hI
   rw[h4]
   exact ih (i+1) k s' (by omega) (by omega) h3
 exact key (N-i0) i0 k s (by omega) hk h0
theorem q0f{σ ρ:Type}{N:Nat}(hN:N≤500)(L:Nat→σ→Int→Option ρ)(I:Nat→σ→Prop)(R:ρ→Prop)
  (step:∀k i s,i<N→I i s→∃s',I (i+1) s' ∧L (k+1) s (i:Int)=L k s' ((i+1:Nat):Int))
  (stop:∀k s,I N s→∃r,R r∧L (k+1) s (N:Int)=some r) {s:σ} (h0:I 0 s):∃r,R r∧L 600 s 0=some r:=
 zh9 hN L I R step stop 0 (by omega) h0 600 (by omega)
def cstL(wide:Bool)(base times:Int)(l:LI)(u:Int)(k:Nat):Int:=(qd6 base times (l.getD k 0) wide-u)*(qd6 base times (l.getD k 0) wide-u)
theorem zd9(base times n:Int)(wide:Bool):0≤qd6 base times n wide∧qd6 base times n wide≤2047:=by
 have:=z5h base times n wide
 cases wide<;>simp only[yn,if_false,if_true]at this<;>omega
theorem qww(wide:Bool)(base times:Int)(l:LI){u:Int}(hu:0≤u∧u≤2047)(k:Nat):0≤cstL wide base times l u k∧cstL wide base times l u k≤2047*2047:=by
 have h:=zd9 base times (l.getD k 0) wide
 exact qcb (m:=2047) (by omega)
def L15(l:LI):Prop:=∀i,-15≤l.getD i 0∧l.getD i 0≤15
section
variable {base times:Int} (hb:0≤base∧base≤255) (ht:0≤times∧times≤15) {l:LI} (hl:L15 l) (wide:Bool) {row:LI} {c:Nat} (hc:c<4) (hu:0≤row.getD c 0∧row.getD c 0≤2047)
include hb ht hl hc hu
theorem zwu{k:Nat}(hk:k<8):q2x 600 (k:Int) base times l wide row (c:Int)=some (cstL wide base times l (row.getD c 0) k,()):=by
 have h1:(k:Int)<8:=by omega
 have h2:(c:Int)<4:=by omega
 have h3:=zd9 base times (l.getD k 0) wide
 have h4:=qww wide base times l hu k
 unfold cstL at h4⊢
 unfold q2x
 simp only[h1,h2,dT,cT,yc,yd,yb,zkx 600 hb ht (hl k),y5]
 rw[w64 (x:=qd6 base times (l.getD k 0) wide-row.getD c 0) (by omega) (by omega),w64 (by omega) (by omega)]
theorem zot:∀(d i k:Nat),1≤i→i+d=8→d<k→q0c 600 k 8 base times l wide row (c:Int) (q2d (cstL wide base times l (row.getD c 0)) i:Int) (i:Int)=some ((q2d (cstL wide base times l (row.getD c 0)) 8:Int),()):=by
 intro d
 induction d with
 |zero=>
  intro i k h0 h1 h2
  obtain⟨k,rfl⟩:∃k',k=k' +1:=⟨k-1,by omega⟩
  obtain rfl:i=8:=by omega
  rfl
 |succ d ih=>
  intro i k h0 h1 h2
  obtain⟨k,rfl⟩:∃k',k=k' +1:=⟨k-1,by omega⟩
  show q0p 600 (q0c 600 k) _ _ _ _ _ _ _ _ _=_
  unfold q0p
  have h3:(i:Int)<8:=by omega
  have hlt:=qf3 (cstL wide base times l (row.getD c 0)) (n:=i) (by omega)
  have nx:=ih (i+1) k (by omega) (by omega) (by omega)
  rw[show q2d (cstL wide base times l (row.getD c 0)) (i+1)=if i=0 then 0 else if cstL wide base times l (row.getD c 0) i<cstL wide base times l (row.getD c 0) (q2d (cstL wide base times l (row.getD c 0)) i)then i else q2d (cstL wide base times l (row.getD c 0)) i from rfl,iN (by omega)]at nx
  simp only[h3,dT,cT,zwu hb ht hl wide hc hu (show i<8 by omega),zwu hb ht hl wide hc hu (show q2d (cstL wide base times l (row.getD c 0)) i<8 by omega),y5,q0a (show i<1000000000000 by omega)]
  by_cases hc' :cstL wide base times l (row.getD c 0) i<cstL wide base times l (row.getD c 0) (q2d (cstL wide base times l (row.getD c 0)) i)
  ·rw[iP hc']at nx
   simp only[hc',dT,cT]
   exact nx
  ·rw[iN hc']at nx
   simp only[hc',dF,cF]
   exact nx
theorem zou:q16 600 8 base times l wide row (c:Int)=some ((q2d (cstL wide base times l (row.getD c 0)) 8:Int),()):=by
 have h:=zot hb ht hl wide hc hu 7 1 600 (by omega) (by omega) (by omega)
 have e:q2d (cstL wide base times l (row.getD c 0)) 1=0:=rfl
 rw[e]at h
 unfold q16
 rw[show((0:Nat):Int)=0 from rfl,show((1:Nat):Int)=1 from rfl]at h
 rw[h]
 rfl
end
def whL(wide:Bool)(base times:Int)(l t:LI)(c:Nat)(i:Nat):Int:=(q2d (cstL wide base times l (t.getD (i*4+c) 0)) 8:Int)
def sumL(wide:Bool)(base times:Int)(l t:LI)(c:Nat):Int:=sumN (fun i=>cstL wide base times l (t.getD (i*4+c) 0) (q2d (cstL wide base times l (t.getD (i*4+c) 0)) 8)) 16
theorem whL_lt(wide:Bool)(base times:Int)(l t:LI)(c i:Nat):0≤whL wide base times l t c i∧whL wide base times l t c i≤7:=by
 have:=qf3 (cstL wide base times l (t.getD (i*4+c) 0)) (n:=8) (by decide)
 unfold whL
 omega
theorem row16{t:LI}(hl:t.length=64){i:Nat}(hi:i<16):y8 4 (y9 (i*4) t)=tab 4 fun c=>t.getD (i*4+c) 0:=q7p hl (by omega)
section
variable {t:LI} (tl:t.length=64) (tr:Rg 2047 t) {c:Nat} (hc:c<4)
include tl tr hc
theorem c1_l0_in{base times:Int}(hb:0≤base∧base≤255)(ht:0≤times∧times≤15){l:LI}(hl:L15 l)(wide:Bool)(table less:Int)(best:LI):∀(d i k:Nat),i+d=16→d<k→
  q24 600 k table wide (c:Int) less best base times (tab 16 (upT i (whL wide base times l t c))) l (sumN (fun i=>cstL wide base times l (t.getD (i*4+c) 0) (q2d (cstL wide base times l (t.getD (i*4+c) 0)) 8)) i) t (i:Int)=
   some (table,less,best,base,times,tab 16 (whL wide base times l t c),sumL wide base times l t c,()):=by
 intro d
 induction d with
 |zero=>
  intro i k h1 h2
  obtain⟨k,rfl⟩:∃k',k=k' +1:=⟨k-1,by omega⟩
  obtain rfl:i=16:=by omega
  rw[zki]
  rfl
 |succ d ih=>
  intro i k h1 h2
  obtain⟨k,rfl⟩:∃k',k=k' +1:=⟨k-1,by omega⟩
  show q4e 600 (q24 600 k) _ _ _ _ _ _ _ _ _ _ _ _=_
  unfold q4e
  have h3:(i:Int)<16:=by omega
  have hr:(tab 4 fun c=>t.getD (i*4+c) 0).getD c 0=t.getD (i*4+c) 0:=q7o hc
  have hu:=tr (i*4+c)
  have hn:=zou hb ht hl wide (row:=tab 4 fun c=>t.getD (i*4+c) 0) hc (by rw[hr];exact hu)
  rw[hr]at hn
  have hlt:=qf3 (cstL wide base times l (t.getD (i*4+c) 0)) (n:=8) (by decide)
  have hk:=zwu hb ht hl wide (row:=tab 4 fun c=>t.getD (i*4+c) 0) hc (by rw[hr];exact hu) hlt
  rw[hr]at hk
  have e1:(tab 16 (upT i (whL wide base times l t c))).set i (q2d (cstL wide base times l (t.getD (i*4+c) 0)) 8:Int)=tab 16 (upT (i+1) (whL wide base times l t c)):=zkh _
  have e2:(tab 16 (upT (i+1) (whL wide base times l t c))).getD i 0=(q2d (cstL wide base times l (t.getD (i*4+c) 0)) 8:Int):=by
   rw[q7o (by omega)]
   unfold upT
   rw[iP (by omega)]
   rfl
  have b1:=qww wide base times l hu (q2d (cstL wide base times l (t.getD (i*4+c) 0)) 8)
  have b2:=q98 (n:=i) (f:=fun i=>cstL wide base times l (t.getD (i*4+c) 0) (q2d (cstL wide base times l (t.getD (i*4+c) 0)) 8)) (m:=2047*2047) fun j _=>qww wide base times l (tr _) _
  have b3:(2047*2047:Int)*(i:Int)≤2047*2047*16:=Int.mul_le_mul_of_nonneg_left (by omega) (by decide)
  simp only[h3,dT,cT,yc,yd,yb,row16 tl (show i<16 by omega),hn,y5,e1,e2,hk,q0a (show i<1000000000000 by omega)]
  rw[w64 (by omega) (by omega)]
  exact ih (i+1) k (by omega) (by omega)
end
theorem zty(base times n:Int)(wide:Bool):∃v,qgy 600 base times n wide=some (v,()):=by
 unfold qgy q32
 cases wide
 ·exact⟨_,rfl⟩
 ·by_cases h:times=0
  ·subst h
   exact⟨_,rfl⟩
  ·simp only[beqF h,Bool.not_true,cF]
   exact⟨_,rfl⟩
theorem zlg{c:Nat}(hc:c<4)(base times:Int)(l:LI)(wide:Bool)(row:LI){k:Nat}(hk:k<8):∃v,q2x 600 (k:Int) base times l wide row (c:Int)=some (v,()):=by
 obtain⟨v,hv⟩:=zty base times (l.getD k 0) wide
 have h1:(k:Int)<8:=by omega
 have h2:(c:Int)<4:=by omega
 unfold q2x
 simp only[h1,h2,dT,cT,yc,yd,yb,hv,y5]
 exact⟨_,rfl⟩
theorem zg9{c:Nat}(hc:c<4)(base times:Int)(l:LI)(wide:Bool)(row:LI):∃n:Nat,n<8∧q16 600 8 base times l wide row (c:Int)=some ((n:Int),()):=by
 obtain⟨r,⟨n,hn,rfl⟩,h⟩:=zh9 (N:=8) (by decide) (fun k (s:Nat) i=>q0c 600 k 8 base times l wide row (c:Int) (s:Int) i) (fun _ s=>s<8) (fun r=>∃n:Nat,n<8∧r=((n:Int),()))
  (fun k i s hi hs=>by
   show∃s',s' <8∧q0p 600 (q0c 600 k) _ _ _ _ _ _ _ _ _=_
   unfold q0p
   have h3:(i:Int)<8:=by omega
   obtain⟨v,hv⟩:=zlg hc base times l wide row hi
   obtain⟨u,hu⟩:=zlg hc base times l wide row hs
   by_cases hlt:v<u
   ·refine⟨i,hi,?_⟩
    simp only[h3,dT,cT,hv,hu,y5,hlt,q0a (show i<1000000000000 by omega)]
   ·refine⟨s,hs,?_⟩
    simp only[h3,dT,cT,hv,hu,y5,hlt,dF,cF,q0a (show i<1000000000000 by omega)])
  (fun k s hs=>⟨_,⟨s,hs,rfl⟩,rfl⟩) 1 (by decide) (s:=0) (by decide) 600 (by decide)
 refine⟨n,hn,?_⟩
 unfold q16
 rw[show((0:Nat):Int)=0 from rfl,show((1:Nat):Int)=1 from rfl]at h
 rw[h]
 rfl
theorem ztz{c:Nat}(hc:c<4)(base times:Int)(l:LI)(wide:Bool)(t:LI)(table less:Int)(best:LI):∃w n,q24 600 600 table wide (c:Int) less best base times q01 l 0 t 0=some (table,less,best,base,times,w,n,()):=by
 obtain⟨r,⟨w,n,rfl⟩,h⟩:=q0f (N:=16) (by decide) (fun k (s:LI×Int) i=>q24 600 k table wide (c:Int) less best base times s.1 l s.2 t i) (fun _ s=>s.1.length=16) (fun r=>∃w n,r=(table,less,best,base,times,w,n,()))
  (fun k i s hi hs=>by
   show∃s' :LI×Int,s'.1.length=16∧q4e 600 (q24 600 k) _ _ _ _ _ _ _ _ _ _ _ _=_
   unfold q4e
   have h3:(i:Int)<16:=by omega
   obtain⟨q,hq,hn⟩:=zg9 hc base times l wide (y8 4 (y9 (i*4) t))
   have e2:(s.1.set i (q:Int)).getD i 0=(q:Int):=by rw[qgm _ _ _ _ (by omega),iP rfl]
   obtain⟨v,hv⟩:=zlg hc base times l wide (y8 4 (y9 (i*4) t)) hq
   refine⟨(s.1.set i (q:Int),y0 .i64 (s.2+v)),by rw[List.length_set];exact hs,?_⟩
   simp only[h3,dT,cT,yc,yd,yb,hn,y5,e2,hv,q0a (show i<1000000000000 by omega)])
  (fun k s hs=>⟨_,⟨s.1,s.2,rfl⟩,rfl⟩) (s:=(q01,0)) rfl
 exact⟨w,n,h⟩
theorem zwv{x:Int}(h:(-9223372036854775808≤x∧x<0)∨(255<x∧x≤9223372036854775807)):256≤y0 .u64 x∧y0 .u64 x≤18446744073709551615:=by
 have hb:=has_iff.1 (qlg .u64 x)
 simp only[loB,hiB]at hb
 rcases h with h|h
 ·have e:y0 .u64 x=x+18446744073709551616:=by
   have h1:=wu64 (x:=x+18446744073709551616) (by omega) (by omega)
   rw[←h1]
   unfold y0
   simp only[IntKind.bits,IntKind.signed]
   simp
  omega
 ·rw[wu64 (by omega) (by omega)]
  omega
theorem Join_bad{base:Int}(h:(-9223372036854775808≤base∧base<0)∨(255<base∧base≤9223372036854775807))(times table:Int)(w:LI):qlo 600 base times table w=some ([],1,()):=by
 have e1:=z4c (F:=600) base times table w eac_JoinT0 600 0 (by omega) (by omega)
 have hlen:(eacF base times table w 16).length/3=19:=by rw[z89]
 have e0:eacF base times table w 0=[0,8,base,8,4,times,12,4,table]:=rfl
 rw[e0,yq]at e1
 have hb:=zwv h
 have hf:qvr 8 0 8 (y0 .u64 base)≠0:=fun h0=>by
  have:=(fits0 h0).2 (by decide)
  rw[show((2:Int)^y6 8)=256 from rfl]at this
  omega
 have hs:=z47 (F:=600) (by decide) (b:=eac_JoinT0) qot (by decide) (a:=0) (n:=8) (v:=y0 .u64 base) (by decide) ⟨by omega,hb.2⟩
 rw[show eac_JoinT0.length=8 from rfl]at hs
 have e2:q9z 600 600 eac_JoinT0 (eacF base times table w 16) 19 0=some (eac_JoinT0,false,()):=by
  show qgx 600 (q9z 600 599) _ _ _ _=_
  unfold qgx
  have h2:=zs8 base times table w (i:=0) (by decide)
  rw[Nat.zero_mul,List.drop_zero]at h2
  simp only[hlen,show decide ((0:Int)<19)=true from rfl,cT,show decide ((0:Int)≤0)=true from rfl,yd,show y6 0=0 from rfl,Nat.zero_mul,List.drop_zero,and_self,if_true,h2,yt,yu]
  rw[show(eacA 0:Int)=0 from rfl,show(eacN 0:Int)=8 from rfl,show eacV base times table w 0=base from rfl,hs]
  simp only[y5,bneT hf,cT]
  rfl
 unfold qlo
 simp only[and_self,if_true]
 rw[e1]
 simp only[y5,hlen,yp]
 rw[e2]
 rfl
def tblE(n:Int):LI:=match q44 600 n with
 |some (l,_)=>l
 |none=>[]
theorem zww{n:Int}(h:0≤n∧n≤15):q44 600 n=some (tblE n,())∧L15 (tblE n):=by
 obtain⟨l,h1,_,h3⟩:=zkw 600 h
 unfold tblE
 rw[h1]
 exact⟨rfl,h3⟩
def LineB(wide:Bool)(t:LI)(c:Nat)(less:Int)(best:LI):Prop:=
 ∃base times table:Int,∃w:Nat→Int,EacFit base times table (tab 16 w)∧best=eacJ base times table (tab 16 w) 19∧less=sumN (fun i=>cstL wide base times (tblE table) (t.getD (i*4+c) 0) (w i).toNat) 16
def z4g(wide:Bool)(t:LI)(c:Nat)(less:Int)(best:LI):Prop:=(less<0∧best=[])∨(0≤less∧LineB wide t c less best)
def Le(less Z:Int):Prop:=0≤less∧less≤Z
section
variable {t:LI} (tl:t.length=64) (tr:Rg 2047 t) {c:Nat} (hc:c<4) (wide:Bool)
include tl tr hc
theorem zqs(base times:Int)(l:LI):0≤sumL wide base times l t c:=
 (q98 (n:=16) (m:=2047*2047) fun i _=>qww wide base times l (tr _) _).1
theorem zwx{base:Int}(hb: -1000≤base∧base≤1000){times table:Int}(ht:0≤times∧times≤15)(htb:0≤table∧table≤15){less:Int}{best:LI}(hI:z4g wide t c less best):
  ∃less' best',q6y 600 base times table t wide (c:Int) less best=some (less',best',())∧z4g wide t c less' best' ∧(∀Z,Le less Z→Le less' Z)∧(0≤base∧base≤255→Le less' (sumL wide base times (tblE table) t c)):=by
 obtain⟨hT,hL⟩:=zww htb
 by_cases hin:0≤base∧base≤255
 ·have h0:=c1_l0_in tl tr hc hin ht hL wide table less best 16 0 600 (by omega) (by omega)
  rw[z83,show(tab 16 fun _=>(0:Int))=q01 from rfl,show((0:Nat):Int)=0 from rfl]at h0
  simp only[sumN]at h0
  have hfit:EacFit base times table (tab 16 (whL wide base times (tblE table) t c)):=⟨hin,ht,htb,q1y _ _,fun i hi=>by rw[q7o hi];exact whL_lt _ _ _ _ _ _ _⟩
  have hj:=zq6 (F:=600) (by decide) hfit
  have hn:=zqs tl tr hc wide base times (tblE table)
  have hB:LineB wide t c (sumL wide base times (tblE table) t c) (eacJ base times table (tab 16 (whL wide base times (tblE table) t c)) 19):=by
   refine⟨base,times,table,whL wide base times (tblE table) t c,hfit,rfl,?_⟩
   unfold sumL
   exact qws fun i _=>by unfold whL;rw[yb]
  have e:q6y 600 base times table t wide (c:Int) less best=(cond (decide (less<0)) (some (sumL wide base times (tblE table) t c,eacJ base times table (tab 16 (whL wide base times (tblE table) t c)) 19,())) (cond (decide (sumL wide base times (tblE table) t c<less)) (some (sumL wide base times (tblE table) t c,eacJ base times table (tab 16 (whL wide base times (tblE table) t c)) 19,())) (some (less,best,())))):=by
   unfold q6y
   rw[hT]
   simp only[y5]
   rw[h0]
   simp only[y5]
   rw[hj]
   simp only[y5,beq_self_eq_true,cT]
  rw[e]
  by_cases h1:less<0
  ·refine⟨_,_,by simp only[h1,dT,cT],.inr ⟨hn,hB⟩,fun Z h=> ?_,fun _=>⟨hn,Int.le_refl _⟩⟩
   have:=h.1
   omega
  ·by_cases h2:sumL wide base times (tblE table) t c<less
   ·refine⟨_,_,by simp only[h1,h2,dT,dF,cT,cF],.inr ⟨hn,hB⟩,fun Z h=>⟨hn,by have:=h.2;omega⟩,fun _=>⟨hn,Int.le_refl _⟩⟩
   ·exact⟨_,_,by simp only[h1,h2,dF,cF],hI,fun Z h=>h,fun _=>⟨by omega,by omega⟩⟩
 ·obtain⟨w,n,h0⟩:=ztz hc base times (tblE table) wide t table less best
  have hj:=Join_bad (base:=base) (by omega) times table w
  refine⟨less,best,?_,hI,fun Z h=>h,fun h=>absurd h hin⟩
  unfold q6y
  rw[hT]
  simp only[y5]
  rw[h0]
  simp only[y5]
  rw[hj]
  simp only[y5,Int.reduceBEq,cF]
theorem lineL6{mid d table:Int}(hm:0≤mid∧mid≤255)(hd:0≤d∧d≤2)(htb:0≤table∧table≤15)(x0 x9 x10:Int){less:Int}{best:LI}(hI:z4g wide t c less best):
  ∃less' best',q70 600 600 x0 best t wide (c:Int) less mid d table x9 x10 0=some (x0,best',t,wide,(c:Int),less',mid,d,x9,x10,())∧z4g wide t c less' best' ∧(∀Z,Le less Z→Le less' Z)∧(d=0→∀times:Nat,times<16→Le less' (sumL wide mid times (tblE table) t c)):=by
 obtain⟨r,⟨less',best',rfl,h1,h2,h3⟩,h⟩:=q0f (N:=16) (by decide) (fun k (s:Int×LI) i=>q70 600 k x0 s.2 t wide (c:Int) s.1 mid d table x9 x10 i)
  (fun i s=>z4g wide t c s.1 s.2∧(∀Z,Le less Z→Le s.1 Z)∧(d=0→∀times:Nat,times<i→Le s.1 (sumL wide mid times (tblE table) t c)))
  (fun r=>∃less' best',r=(x0,best',t,wide,(c:Int),less',mid,d,x9,x10,())∧z4g wide t c less' best' ∧(∀Z,Le less Z→Le less' Z)∧(d=0→∀times:Nat,times<16→Le less' (sumL wide mid times (tblE table) t c)))
  (fun k i s hi hs=>by
   obtain⟨g1,g2,g3⟩:=hs
   obtain⟨l1,b1,e1,a1,a2,a3⟩:=zwx tl tr hc wide (base:=mid+d) (by omega) (times:=(i:Int)) (by omega) htb g1
   obtain⟨l2,b2,e2,c1,c2,c3⟩:=zwx tl tr hc wide (base:=mid-d) (by omega) (times:=(i:Int)) (by omega) htb a1
   refine⟨(l2,b2),⟨c1,fun Z h=>c2 Z (a2 Z (g2 Z h)),fun hd0 times hlt=> ?_⟩,?_⟩
   ·by_cases he:times=i
    ·subst he
     subst hd0
     rw[Int.add_zero]at a3
     exact c2 _ (a3 hm)
    ·exact c2 _ (a2 _ (g3 hd0 times (by omega)))
   ·show qe3 600 (q70 600 k) _ _ _ _ _ _ _ _ _ _ _ _=_
    unfold qe3
    have h3:(i:Int)<16:=by omega
    simp only[h3,dT,cT,w64 (x:=mid+d) (by omega) (by omega),w64 (x:=mid-d) (by omega) (by omega),e1,e2,y5,q0a (show i<1000000000000 by omega)])
  (fun k s hs=>⟨_,⟨s.1,s.2,rfl,hs.1,hs.2.1,hs.2.2⟩,rfl⟩) (s:=(less,best)) ⟨hI,fun Z h=>h,fun _ times h=>absurd h (by omega)⟩
 exact⟨less',best',h,h1,h2,h3⟩
theorem zwy{mid d:Int}(hm:0≤mid∧mid≤255)(hd:0≤d∧d≤2)(x0 x8:Int){less:Int}{best:LI}(hI:z4g wide t c less best):
  ∃less' best',q57 600 600 x0 best t wide (c:Int) less mid d x8 0=some (x0,best',t,wide,(c:Int),less',mid,x8,())∧z4g wide t c less' best' ∧(∀Z,Le less Z→Le less' Z)∧(d=0→∀table times:Nat,table<16→times<16→Le less' (sumL wide mid times (tblE table) t c)):=by
 obtain⟨r,⟨less',best',rfl,h1,h2,h3⟩,h⟩:=q0f (N:=16) (by decide) (fun k (s:Int×LI) i=>q57 600 k x0 s.2 t wide (c:Int) s.1 mid d x8 i)
  (fun i s=>z4g wide t c s.1 s.2∧(∀Z,Le less Z→Le s.1 Z)∧(d=0→∀table times:Nat,table<i→times<16→Le s.1 (sumL wide mid times (tblE table) t c)))
  (fun r=>∃less' best',r=(x0,best',t,wide,(c:Int),less',mid,x8,())∧z4g wide t c less' best' ∧(∀Z,Le less Z→Le less' Z)∧(d=0→∀table times:Nat,table<16→times<16→Le less' (sumL wide mid times (tblE table) t c)))
  (fun k i s hi hs=>by
   obtain⟨g1,g2,g3⟩:=hs
   obtain⟨l1,b1,e1,a1,a2,a3⟩:=lineL6 tl tr hc wide hm hd (table:=(i:Int)) (by omega) x0 x8 (i:Int) g1
   refine⟨(l1,b1),⟨a1,fun Z h=>a2 Z (g2 Z h),fun hd0 table times hlt ht=> ?_⟩,?_⟩
   ·by_cases he:table=i
    ·subst he
     exact a3 hd0 times ht
    ·exact a2 _ (g3 hd0 table times (by omega) ht)
   ·show qe4 600 (q57 600 k) _ _ _ _ _ _ _ _ _ _=_
    unfold qe4
    have h3:(i:Int)<16:=by omega
    simp only[h3,dT,cT,e1,y5,q0a (show i<1000000000000 by omega)])
  (fun k s hs=>⟨_,⟨s.1,s.2,rfl,hs.1,hs.2.1,hs.2.2⟩,rfl⟩) (s:=(less,best)) ⟨hI,fun Z h=>h,fun _ table times h=>absurd h (by omega)⟩
 exact⟨less',best',h,h1,h2,h3⟩
def Done(less mid:Int):Prop:=∀table times:Nat,table<16→times<16→Le less (sumL wide mid times (tblE table) t c)
theorem lineL2{mid:Int}(hm:0≤mid∧mid≤255)(effort:Int):∃less best,q17 600 600 effort [] t wide (c:Int) (-1) mid 0=some (best,())∧z4g wide t c less best∧Done (t:=t) (c:=c) wide less mid:=by
 have h0:z4g wide t c (-1) []:= .inl ⟨by decide,rfl⟩
 obtain⟨l1,b1,e1,a1,a2,a3⟩:=zwy tl tr hc wide hm (d:=0) (by decide) effort 0 h0
 have st:∀l b,q17 600 597 effort b t wide (c:Int) l mid 3=some (b,()):=fun l b=>rfl
 obtain⟨l2,b2,e2,c1,c2,c3⟩:=zwy tl tr hc wide hm (d:=1) (by decide) effort 1 a1
 obtain⟨l3,b3,e3,f1,f2,f3⟩:=zwy tl tr hc wide hm (d:=2) (by decide) effort 2 c1
 have s0:q17 600 600 effort [] t wide (c:Int) (-1) mid 0=q17 600 599 effort b1 t wide (c:Int) l1 mid 1:=by
  show q2m 600 (q17 600 599) _ _ _ _ _ _ _ _=_
  unfold q2m
  simp only[show decide ((0:Int)<3)=true from rfl,show decide ((0:Int)<0)=false from rfl,cT,cF,e1,y5]
  rfl
 have d1:Done (t:=t) (c:=c) wide l1 mid:=a3 rfl
 by_cases hf:effort<2
 ·refine⟨l1,b1,?_,a1,d1⟩
  rw[s0]
  show q2m 600 (q17 600 598) _ _ _ _ _ _ _ _=_
  unfold q2m
  simp only[show decide ((1:Int)<3)=true from rfl,show decide ((0:Int)<1)=true from rfl,cT,hf,dT]
 ·refine⟨l3,b3,?_,f1,fun table times h1 h2=>f2 _ (c2 _ (d1 table times h1 h2))⟩
  rw[s0]
  show q2m 600 (q17 600 598) _ _ _ _ _ _ _ _=_
  unfold q2m
  simp only[show decide ((1:Int)<3)=true from rfl,show decide ((0:Int)<1)=true from rfl,cT,cF,hf,dF,e2,y5]
  rw[show y0 .i64 (1+1)=2 from rfl]
  show q2m 600 (q17 600 597) _ _ _ _ _ _ _ _=_
  unfold q2m
  simp only[show decide ((2:Int)<3)=true from rfl,show decide ((0:Int)<2)=true from rfl,cT,cF,hf,dF,e3,y5]
  rw[show y0 .i64 (2+1)=3 from rfl]
  exact st _ _
theorem lineL0{m:Int}(hm:Rg m t)(x0:Int)(x1:LI):∃lo hi,q6z 600 600 x0 x1 (c:Int) wide (t.getD c 0) (t.getD c 0) t 0=some (x0,x1,(c:Int),wide,lo,hi,())∧(0≤lo∧lo≤m)∧(0≤hi∧hi≤m)∧(∀s,(∀i,i<16→t.getD (i*4+c) 0=s)→lo=s∧hi=s):=by
 have hz:=hm c
 obtain⟨r,⟨lo,hi,rfl,h1,h2,h3⟩,h⟩:=q0f (N:=16) (by decide) (fun k (s:Int×Int) i=>q6z 600 k x0 x1 (c:Int) wide s.1 s.2 t i)
  (fun i s=>(0≤s.1∧s.1≤m)∧(0≤s.2∧s.2≤m)∧(∀v,(∀i,i<16→t.getD (i*4+c) 0=v)→s.1=v∧s.2=v))
  (fun r=>∃lo hi,r=(x0,x1,(c:Int),wide,lo,hi,())∧(0≤lo∧lo≤m)∧(0≤hi∧hi≤m)∧(∀s,(∀i,i<16→t.getD (i*4+c) 0=s)→lo=s∧hi=s))
  (fun k i s hi hs=>by
   obtain⟨g1,g2,g3⟩:=hs
   have hv:=hm (i*4+c)
   refine⟨(min s.1 (t.getD (i*4+c) 0),max s.2 (t.getD (i*4+c) 0)),⟨by show 0≤min _ _∧min _ _≤m;omega,by show 0≤max _ _∧max _ _≤m;omega,fun v hall=> ?_⟩,?_⟩
   ·have:=g3 v hall
    have:=hall i hi
    show min _ _=v∧max _ _=v
    omega
   ·show qe2 600 (q6z 600 k) _ _ _ _ _ _ _ _=_
    unfold qe2
    have h3:(i:Int)<16:=by omega
    have h4:(c:Int)<4:=by omega
    simp only[h3,h4,dT,cT,yc,yd,yb,z2o tl hi hc,q0a (show i<1000000000000 by omega)])
  (fun k s hs=>⟨_,⟨s.1,s.2,rfl,hs.1,hs.2.1,hs.2.2⟩,rfl⟩) (s:=(t.getD c 0,t.getD c 0)) ⟨hz,hz,fun v hall=>by have:=hall 0 (by decide);rw[Nat.zero_mul,Nat.zero_add]at this;exact⟨this,this⟩⟩
 exact⟨lo,hi,h,h1,h2,h3⟩
theorem zlh(hw:wide=false→Rg 255 t)(effort:Int):∃less best mid,qa6 600 t (c:Int) wide effort=some (best,())∧(0≤less∧LineB wide t c less best)∧Done (t:=t) (c:=c) wide less mid∧(0≤mid∧mid≤255)∧(∀s,(∀i,i<16→t.getD (i*4+c) 0=s)→mid=if wide then s/8 else s):=by
 have h4:(c:Int)<4:=by omega
 have fin:∀{less best} {mid:Int},z4g wide t c less best→Done (t:=t) (c:=c) wide less mid→0≤less∧LineB wide t c less best:=fun hI hD=>by
  have:=(hD 0 0 (by decide) (by decide)).1
  rcases hI with h|h
  ·omega
  ·exact h
 cases wide with
 |true=>
  obtain⟨lo,hi,e0,b1,b2,b3⟩:=lineL0 tl tr hc true tr effort t
  have em:y0 .i64 (yx (y0 .i64 (yx (y0 .i64 (lo+hi)) 2)) 8)=(lo+hi)/2/8:=by
   rw[w64 (x:=lo+hi) (by omega) (by omega),q1x (x:=lo+hi) (by omega),w64 (x:=(lo+hi)/2) (by omega) (by omega),q1x (x:=(lo+hi)/2) (by omega),w64 (by omega) (by omega)]
  obtain⟨less,best,e1,c1,c2⟩:=lineL2 tl tr hc true (mid:=(lo+hi)/2/8) (by omega) effort
  refine⟨less,best,_,?_,fin c1 c2,c2,by omega,fun s hs=> ?_⟩
  ·unfold qa6
   simp only[h4,dT,cT,yc,yd,yb]
   rw[e0]
   simp only[y5,cT,em]
   rw[e1]
   rfl
  ·have:=b3 s hs
   simp only[if_true]
   omega
 |false=>
  obtain⟨lo,hi,e0,b1,b2,b3⟩:=lineL0 tl tr hc false (hw rfl) effort t
  have em:y0 .i64 (yx (y0 .i64 (yx (y0 .i64 (lo+hi)) 2)) 1)=(lo+hi)/2:=by
   rw[w64 (x:=lo+hi) (by omega) (by omega),q1x (x:=lo+hi) (by omega),w64 (x:=(lo+hi)/2) (by omega) (by omega),Int.tdiv_one,w64 (by omega) (by omega)]
  obtain⟨less,best,e1,c1,c2⟩:=lineL2 tl tr hc false (mid:=(lo+hi)/2) (by omega) effort
  refine⟨less,best,_,?_,fin c1 c2,c2,by omega,fun s hs=> ?_⟩
  ·unfold qa6
   simp only[h4,dT,cT,yc,yd,yb]
   rw[e0]
   simp only[y5,cF,em]
   rw[e1]
   rfl
  ·have:=b3 s hs
   simp only[yn,if_false]
   omega
end
theorem LineB.okb{wide:Bool}{t:LI}{c:Nat}{less:Int}{best:LI}(h:LineB wide t c less best):Okb 8 best:=by
 unfold LineB at h
 obtain⟨base,times,table,w,hf,hb,hl⟩:=h
 rw[hb]
 exact z2q _ _ _ _
theorem LineB.tells{wide:Bool}{t:LI}{c:Nat}{less:Int}{best:LI}(h:LineB wide t c less best):less=sumN (fun i=>((eacL best wide).getD i 0-t.getD (i*4+c) 0)*((eacL best wide).getD i 0-t.getD (i*4+c) 0)) 16:=by
 unfold LineB at h
 obtain⟨base,times,table,w,hf,hb,hl⟩:=h
 rw[hl,hb]
 have p1:hv (eacJ base times table (tab 16 w) 19) 0 8=base:=qw1 hf (j:=0) (by decide)
 have p2:hv (eacJ base times table (tab 16 w) 19) 8 4=times:=qw1 hf (j:=1) (by decide)
 have p3:hv (eacJ base times table (tab 16 w) 19) 12 4=table:=qw1 hf (j:=2) (by decide)
 have e:eacL (eacJ base times table (tab 16 w) 19) wide=eacD base times (tblE table) (eacW (eacJ base times table (tab 16 w) 19)) wide:=by
  unfold eacL
  rw[p1,p2,p3,(zww hf.2.2.1).1]
 refine qws fun i hi=> ?_
 have hg:(eacL (eacJ base times table (tab 16 w) 19) wide).getD i 0=qd6 base times ((tblE table).getD (w i).toNat 0) wide:=by
  rw[e]
  unfold eacD
  rw[qgo _ hi,zkv _ hi]
  have hq:=qw1 hf (j:=i+3) (by omega)
  rw[show eacV base times table (tab 16 w) (i+3)=(tab 16 w).getD i 0 from rfl,q7o hi]at hq
  rw[show hv (eacJ base times table (tab 16 w) 19) (qf6 i) 3=w i from hq]
 rw[hg]
 rfl
def valO(x:Option (Int×Unit)):Int:=match x with
 |some (v,_)=>v
 |none=>0
theorem valO_of{x:Option (Int×Unit)}(h:∃v,x=some (v,())):x=some (valO x,()):=by
 obtain⟨v,rfl⟩:=h
 rfl
theorem zda{N:Nat}(hN:1≤N∧N≤500){g:Int→Option (Int×Unit)}{f:Nat→Int}{L:Nat→Int→Int→Option (Int×Unit)}(hg:∀i:Nat,i<N→g (i:Int)=some (f i,()))
  (hL:∀k (s x:Int),L (k+1) s x=cond (decide (x<(N:Int))) ((g x).bind fun a=>(g s).bind fun b=>cond (decide (a.1<b.1)) (L k x (y0 .i64 (x+1))) (L k s (y0 .i64 (x+1)))) (some (s,()))):L 600 0 1=some ((q2d f N:Int),()):=by
 have key:∀(d i k:Nat),1≤i→i+d=N→d<k→L k (q2d f i:Int) (i:Int)=some ((q2d f N:Int),()):=by
  intro d
  induction d with
  |zero=>
   intro i k h0 h1 h2
   obtain⟨k,rfl⟩:∃k',k=k' +1:=⟨k-1,by omega⟩
   obtain rfl:i=N:=by omega
   rw[hL]
   simp only[yv,dF,cF]
  |succ d ih=>
   intro i k h0 h1 h2
   obtain⟨k,rfl⟩:∃k',k=k' +1:=⟨k-1,by omega⟩
   have h3:(i:Int)<(N:Int):=by omega
   have hlt:=qf3 f (n:=i) (by omega)
   have nx:=ih (i+1) k (by omega) (by omega) (by omega)
   rw[show q2d f (i+1)=if i=0 then 0 else if f i<f (q2d f i)then i else q2d f i from rfl,iN (by omega)]at nx
   rw[hL]
   simp only[h3,dT,cT,hg i (by omega),hg _ (show q2d f i<N by omega),y5,q0a (show i<1000000000000 by omega)]
   by_cases hc' :f i<f (q2d f i)
   ·rw[iP hc']at nx
    simp only[hc',dT,cT]
    exact nx
   ·rw[iN hc']at nx
    simp only[hc',dF,cF]
    exact nx
 exact key (N-1) 1 600 (by omega) (by omega) (by omega)
theorem qw4{N:Nat}(hN:1≤N∧N≤500){g:Int→Option (Int×Unit)}{L:Nat→Int→Int→Option (Int×Unit)}(hg:∀i:Nat,i<N→∃v,g (i:Int)=some (v,()))
  (hL:∀k (s x:Int),L (k+1) s x=cond (decide (x<(N:Int))) ((g x).bind fun a=>(g s).bind fun b=>cond (decide (a.1<b.1)) (L k x (y0 .i64 (x+1))) (L k s (y0 .i64 (x+1)))) (some (s,()))):∃n:Nat,n<N∧L 600 0 1=some ((n:Int),()):=
 ⟨q2d (fun i=>valO (g i)) N,qf3 _ (by omega),zda hN (f:=fun i=>valO (g i)) (fun i hi=>valO_of (hg i hi)) hL⟩
theorem zli(a b:LI):∃v,qjn 600 a b=some (v,()):=by
 obtain⟨r,⟨v,rfl⟩,h⟩:=q0f (N:=4) (by decide) (fun k (s:Int) i=>qay 600 k a b s i) (fun _ _=>True) (fun r=>∃v,r=(v,()))
  (fun k i s hi hs=>by
   have h3:(i:Int)<4:=by omega
   refine⟨y0 .i64 (s+y0 .i64 (y0 .i64 (a.getD i 0-b.getD i 0)*y0 .i64 (a.getD i 0-b.getD i 0))),trivial,?_⟩
   show qgg 600 (qay 600 k) _ _ _ _=_
   unfold qgg
   simp only[h3,dT,cT,yc,yd,yb,q0a (show i<1000000000000 by omega)])
  (fun k s hs=>⟨_,⟨s,rfl⟩,rfl⟩) (s:=0) trivial
 refine⟨v,?_⟩
 unfold qjn
 rw[h]
 rfl
theorem zwz(a l:LI){i:Nat}(hi:i<4):∃v,q19 600 (i:Int) a l=some (v,()):=by
 obtain⟨v,hv⟩:=zli a (y8 4 (y9 (i*4) l))
 have h3:(i:Int)<4:=by omega
 refine⟨v,?_⟩
 unfold q19
 simp only[h3,dT,cT,yc,yd,yb,hv,y5]
theorem c2_ends(a l:LI){i:Nat}(hi:i<4):∃v,q2i 600 (i:Int) a l=some (v,()):=by
 obtain⟨v,hv⟩:=zli a (y8 4 (y9 (i*4) l))
 have h3:(i:Int)<4:=by omega
 refine⟨v,?_⟩
 unfold q2i
 simp only[h3,dT,cT,yc,yd,yb,hv,y5]
theorem zlj(a l:LI):∃n:Nat,n<4∧q1o 600 4 a l=some ((n:Int),()):=by
 obtain⟨n,hn,h⟩:=qw4 (N:=4) (by decide) (g:=fun x=>q19 600 x a l) (L:=fun k s x=>q0h 600 k 4 a l s x) (fun i hi=>zwz a l hi) (fun k s x=>rfl)
 refine⟨n,hn,?_⟩
 unfold q1o
 rw[h]
 rfl
theorem zga(a l:LI):∃n:Nat,n<4∧q2b 600 4 a l=some ((n:Int),()):=by
 obtain⟨n,hn,h⟩:=qw4 (N:=4) (by decide) (g:=fun x=>q2i 600 x a l) (L:=fun k s x=>q0s 600 k 4 a l s x) (fun i hi=>c2_ends a l hi) (fun k s x=>rfl)
 refine⟨n,hn,?_⟩
 unfold q2b
 rw[h]
 rfl
theorem zdb(x0:Bool)(x1 x2 x3:LI){i:Nat}(hi:i<4)(x5:Int)(x6:LI)(x7:Int):∃l,q18 600 600 x0 x1 x2 x3 (i:Int) x5 x6 x7 0=some (x0,x1,x2,l,(i:Int),x6,x7,()):=by
 obtain⟨r,⟨l,rfl⟩,h⟩:=q0f (N:=3) (by decide) (fun k (s:LI) c=>q18 600 k x0 x1 x2 s (i:Int) x5 x6 x7 c) (fun _ _=>True) (fun r=>∃l,r=(x0,x1,x2,l,(i:Int),x6,x7,()))
  (fun k c s hc hs=>by
   have h3:(c:Int)<3:=by omega
   have h4:(c:Int)<4:=by omega
   have h5:(i:Int)<4:=by omega
   refine⟨s.set (i*4+c) (q0u (y0 .i64 (x1.getD c 0+x5))),trivial,?_⟩
   show q9l 600 (q18 600 k) _ _ _ _ _ _ _ _ _=_
   unfold q9l
   simp only[h3,h4,h5,dT,cT,yc,yd,yb,qb6,y5,q0a (show c<1000000000000 by omega)])
  (fun k s hs=>⟨_,⟨s,rfl⟩,rfl⟩) (s:=x3) trivial
 exact⟨l,h⟩
theorem z5k(a:LI)(n:Int)(solid:Bool):∃l,qbh 600 a n solid=some (l,()):=by
 obtain⟨r,⟨l,rfl⟩,h⟩:=q0f (N:=4) (by decide) (fun k (s:LI) i=>q5e 600 k solid a q01 s (qey (n%8).toNat) i) (fun _ _=>True) (fun r=>∃l,r=(q01,l,()))
  (fun k i s hi hs=>by
   have h3:(i:Int)<4:=by omega
   have hz:∀x5,∃l,q18 600 600 solid a q01 s (i:Int) x5 (qey (n%8).toNat) (i:Int) 0=some (solid,a,q01,l,(i:Int),qey (n%8).toNat,(i:Int),()):=fun x5=>zdb solid a _ s hi x5 _ _
   show∃s',True∧q9m 600 (q5e 600 k) _ _ _ _ _ _=_
   unfold q9m
   cases solid with
   |true=>
    obtain⟨l,e⟩:=hz ((qey (n%8).toNat).getD i 0)
    simp only[h3,dT,cT,cF,Bool.not_true,yc,yd,yb,e,y5,q0a (show i<1000000000000 by omega)]
    exact⟨_,trivial,rfl⟩
   |false=>
    by_cases h0:i=0
    ·subst h0
     obtain⟨l,e⟩:=hz 0
     rw[show((0:Nat):Int)=0 from rfl]at e
     simp only[show((0:Nat):Int)=0 from rfl,dT,cT,cF,Bool.not_false,yc,yd,yb,beq_self_eq_true,e,y5,show decide ((0:Int)<4)=true from rfl,show decide ((0:Int)≤0)=true from rfl,show((0:Int)==2)=false from rfl]
     exact⟨_,trivial,rfl⟩
    ·obtain⟨l,e⟩:=hz ((qey (n%8).toNat).getD i 0)
     have hb:((i:Int)==0)=false:=by rw[beq_eq_false_iff_ne];omega
     simp only[h3,dT,cT,cF,Bool.not_false,yc,yd,yb,hb,e,y5,q0a (show i<1000000000000 by omega)]
     cases((i:Int)==2)<;>exact⟨_,trivial,rfl⟩)
  (fun k s hs=>⟨_,⟨s,rfl⟩,rfl⟩) (s:=q01) trivial
 refine⟨l,?_⟩
 unfold qbh
 rw[z4a]
 simp only[y5]
 rw[h]
 rfl
theorem zov(a0 a1:LI)(a2:Int)(a3:LI)(a4:Int){i:Nat}(hi:i<16):∃l,q6p 600 a0 a1 a2 a3 a4 (i:Int)=some (l,()):=by
 have h3:(i:Int)<16:=by omega
 unfold q6p
 simp only[h3,dT,cT,yc,yd]
 cases a2 !=9<;>exact⟨_,rfl⟩
theorem zlk(x:Int)(a1:LI){h:Nat}(hh:h<2)(s d f:Bool)(A B T W ah b:LI)(k:Int)(t:LI)(n:Int):∃v,q2h 600 x a1 (h:Int) s d f A B T W ah b k t n=some (v,()):=by
 obtain⟨l,hl⟩:=z5k (y8 4 (y9 (h*4) a1)) x s
 obtain⟨r,⟨v,rfl⟩,e⟩:=q0f (N:=16) (by decide) (fun q (s:Int) i=>q1a 600 q (h:Int) d f A B T W ah b k t n l s i) (fun _ _=>True) (fun r=>∃v,r=(v,()))
  (fun q i s hi hs=>by
   have h3:(i:Int)<16:=by omega
   obtain⟨t4,e1⟩:=zov ah b k t n hi
   obtain⟨m,hm,e2⟩:=zlj t4 l
   obtain⟨v,e3⟩:=zli t4 (y8 4 (y9 (m*4) l))
   have hm4:(m:Int)<4:=by omega
   show∃s',True∧q3i 600 (q1a 600 q) _ _ _ _ _ _ _ _ _ _ _ _ _ _ _=_
   unfold q3i
   rw[(ql3 600 f (i:Int)).1]
   simp only[h3,hm4,dT,cT,yc,yd,yb,e1,e2,e3,y5,q0a (show i<1000000000000 by omega)]
   cases((q2p f (i:Int):Int)==(h:Int))<;>exact⟨_,trivial,rfl⟩)
  (fun q s hs=>⟨_,⟨s,rfl⟩,rfl⟩) (s:=0) trivial
 refine⟨v,?_⟩
 have h2:(h:Int)<2:=by omega
 unfold q2h
 simp only[h2,dT,cT,yc,yd,yb,hl,y5]
 rw[e]
 rfl
theorem zll(a1:LI){h:Nat}(hh:h<2)(s d f:Bool)(A B T W ah b:LI)(k:Int)(t:LI)(n:Int):∃m:Nat,m<8∧q2a 600 8 a1 (h:Int) s d f A B T W ah b k t n=some ((m:Int),()):=by
 obtain⟨m,hm,e⟩:=qw4 (N:=8) (by decide) (g:=fun x=>q2h 600 x a1 (h:Int) s d f A B T W ah b k t n) (L:=fun q y x=>q0r 600 q 8 a1 (h:Int) s d f A B T W ah b k t n y x) (fun i hi=>zlk _ a1 hh s d f A B T W ah b k t n) (fun q y x=>rfl)
 refine⟨m,hm,?_⟩
 unfold q2a
 rw[e]
 rfl
def Inv(k:Nat)(t b:LI)(n:Int):Prop:=Okb (q3g k) b∧n=q9g k b t
def Ahd(k:Nat)(ah:LI):Prop:=Bytes ah∧ah.length+8=q3g k
abbrev FR:=Int×LI×LI×LI×Int×Unit
def Stp(k:Nat)(t ah:LI)(n:Int)(r:Option FR):Prop:=∃b' n',r=some ((k:Int),t,ah,b',n',())∧Inv k t b' n' ∧n' ≤n
section
variable {k:Nat} (hk:Fmt k) {t:LI} (tl:t.length=64) (tr:Rg 255 t)
include hk tl tr
theorem zqt(ah b:LI)(n:Int){new:LI}(hI:Inv k t b n)(hn:Okb (q3g k) new):∃b' n',q4f 600 ah b (k:Int) t n new=some ((k:Int),t,ah,b',n',())∧Inv k t b' n' ∧n' ≤n∧n' ≤q9g k new t:=by
 have e:=qwu hn.1 hk hn.2 tl tr
 unfold q4f
 rw[e]
 simp only[y5,beq_self_eq_true,cT]
 by_cases hlt:q9g k new t<n
 ·exact⟨_,_,by simp only[hlt,dT,cT],⟨hn,rfl⟩,by omega,Int.le_refl _⟩
 ·exact⟨_,_,by simp only[hlt,dF,cF],hI,Int.le_refl _,by omega⟩
theorem z2s{ah:LI}(ha:Ahd k ah)(b:LI)(n:Int){new:LI}(hI:Inv k t b n)(hn:Okb 8 new):∃b' n',q29 600 ah b (k:Int) t n new=some ((k:Int),t,ah,b',n',())∧Inv k t b' n' ∧n' ≤n∧n' ≤q9g k (ah++new) t:=by
 have hb:=qwr k
 have hal:ah.length≤8:=by
  have:=ha.2
  omega
 obtain⟨b',n',e,h1,h2,h3⟩:=zqt hk tl tr ah b n hI (new:=ah++new) ⟨fun x hx=>(yk.1 hx).elim (ha.1 x) (hn.1 x),by rw[yo,hn.2];exact ha.2⟩
 refine⟨b',n',?_,h1,h2,h3⟩
 have g1:ah.length+new.length≤1099511627776:=by rw[hn.2];omega
 have g2:0<new.length:=by rw[hn.2];decide
 unfold q29
 simp only[yc,yb,wc,dT,yd,cT,g1,g2,List.take_length,e,y5]
theorem Stp.refl{ah b:LI}{n:Int}(hI:Inv k t b n):Stp k t ah n (some ((k:Int),t,ah,b,n,())):=⟨b,n,rfl,hI,Int.le_refl _⟩
end
theorem zx0{m:Int}{l:LI}(h:Rg m l)(i:Nat){v:Int}(hv:0≤v∧v≤m):Rg m (l.set i v):=fun j=>by
 by_cases hi:i<l.length
 ·rw[qgm _ _ _ _ hi]
  split
  ·exact hv
  ·exact h j
 ·rw[List.set_eq_of_length_le (by omega)]
  exact h j
theorem Rg.i64{m:Int}{l:LI}(h:Rg m l)(hm:m≤9000000000000000000):Is64 l:=fun i=>by
 have:=h i
 exact has_iff.2 (show-9223372036854775808≤_∧_≤9223372036854775807 by omega)
section
variable (s d f:Bool) (A B ah b:LI) (k:Int) (t:LI) (n:Int)
theorem zlm(T bases l:LI){h:Int}(x15:Int){W:LI}(hW:Rg 3 W):∃W',Rg 3 W' ∧q1f 600 600 ah b k t n d f A B T W s bases h l x15 0=some (ah,b,k,t,n,d,f,A,B,T,W',s,bases,x15,()):=by
 obtain⟨r,⟨W',hW',rfl⟩,e⟩:=q0f (N:=16) (by decide) (fun q (w:LI) i=>q1f 600 q ah b k t n d f A B T w s bases h l x15 i) (fun _ w=>Rg 3 w) (fun r=>∃W',Rg 3 W' ∧r=(ah,b,k,t,n,d,f,A,B,T,W',s,bases,x15,()))
  (fun q i w hi hs=>by
   have h3:(i:Int)<16:=by omega
   obtain⟨t4,e1⟩:=zov ah b k t n hi
   obtain⟨m,hm,e2⟩:=zga t4 l
   show∃s',Rg 3 s' ∧q4s 600 (q1f 600 q) _ _ _ _ _ _ _ _ _ _ _ _ _ _ _ _ _=_
   unfold q4s
   rw[(ql3 600 f (i:Int)).1]
   simp only[h3,dT,cT,yc,yd,yb,e1,e2,y5,q0a (show i<1000000000000 by omega)]
   cases((q2p f (i:Int):Int)==h)
   ·exact⟨_,hs,rfl⟩
   ·exact⟨_,zx0 hs i (by omega),rfl⟩)
  (fun q w hw=>⟨_,⟨w,hw,rfl⟩,rfl⟩) (s:=W) hW
 exact⟨W',hW',e⟩
theorem zln(bases:LI){T W:LI}(hT:Rg 7 T)(hW:Rg 3 W):∃T' W',Rg 7 T' ∧Rg 3 W' ∧q1g 600 600 ah b k t n d f A B T W s bases 0=some (ah,b,k,t,n,d,f,A,B,T',W',s,()):=by
 obtain⟨r,⟨T',W',h1,h2,rfl⟩,e⟩:=q0f (N:=2) (by decide) (fun q (w:LI×LI) i=>q1g 600 q ah b k t n d f A B w.1 w.2 s bases i) (fun _ w=>Rg 7 w.1∧Rg 3 w.2) (fun r=>∃T' W',Rg 7 T' ∧Rg 3 W' ∧r=(ah,b,k,t,n,d,f,A,B,T',W',s,()))
  (fun q i w hi hs=>by
   have h3:(i:Int)<2:=by omega
   obtain⟨m,hm,e1⟩:=zll bases hi s d f A B w.1 w.2 ah b k t n
   obtain⟨l,e2⟩:=z5k (y8 4 (y9 (i*4) bases)) ((w.1.set i (m:Int)).getD i 0) s
   obtain⟨W',hW',e3⟩:=zlm s d f A B ah b k t n (w.1.set i (m:Int)) bases l (h:=(i:Int)) (i:Int) hs.2
   refine⟨(w.1.set i (m:Int),W'),⟨zx0 hs.1 i (by omega),hW'⟩,?_⟩
   show q4t 600 (q1g 600 q) _ _ _ _ _ _ _ _ _ _ _ _ _ _=_
   unfold q4t
   simp only[h3,dT,cT,yc,yd,yb,e1,e2,e3,y5,q0a (show i<1000000000000 by omega)])
  (fun q w hw=>⟨_,⟨w.1,w.2,hw.1,hw.2,rfl⟩,rfl⟩) (s:=(T,W)) ⟨hT,hW⟩
 exact⟨T',W',h1,h2,e⟩
end
theorem zha(d f:Bool)(A B T W:LI):Okb 8 (qfg d f A B T W):=⟨z5f d f A B T W,zgz d f A B T W⟩
section
variable {k:Nat} (hk:Fmt k) {t:LI} (tl:t.length=64) (tr:Rg 255 t) {ah:LI} (ha:Ahd k ah)
include hk tl tr ha
theorem zlo{b:LI}{n:Int}(hI:Inv k t b n)(d f:Bool){A B T W:LI}(hf:qig A B)(hT:Rg 7 T)(hW:Rg 3 W)(s:Bool):Stp k t ah n (q09 600 ah b (k:Int) t n (d,f,A,B,T,W,()) s):=by
 unfold q09
 rw[qwm (by decide) d f hf T W]
 simp only[y5]
 by_cases h3:qlf d A B=3
 ·obtain⟨T',W',h1,h2,e⟩:=zln s d f A B ah b (k:Int) t n (q1l d A B) hT hW
  have hA:Is64 A:=fun i=>has_iff.2 (by have:=hf.2.2.1 i;show-9223372036854775808≤_∧_≤9223372036854775807;omega)
  have hB:Is64 B:=fun i=>has_iff.2 (by have:=hf.2.2.2 i;show-9223372036854775808≤_∧_≤9223372036854775807;omega)
  have j:=zck (F:=600) (by decide) d f hA hB (h1.i64 (by decide)) (h2.i64 (by decide))
  rw[h3]
  simp only[bne_self_eq_false,cF]
  rw[e]
  simp only[y5]
  rw[j]
  by_cases hok:Ok10 d A B T' W'
  ·rw[iP hok]
   simp only[y5,bne_self_eq_false,cF]
   have ob:=zha d f A B T' W'
   cases s with
   |true=>
    obtain⟨b',n',e1,g1,g2,_⟩:=z2s hk tl tr ha b n hI ob
    simp only[Bool.not_true,cF,e1,y5]
    exact⟨b',n',rfl,g1,g2⟩
   |false=>
    have hs:=qjp (F:=600) (by decide) ob.1 (by rw[ob.2];decide) (a:=30) (n:=1) (v:=0) (by decide) (by rw[ob.2];decide) (by decide)
    obtain⟨b',n',e1,g1,g2,_⟩:=z2s hk tl tr ha b n hI (new:=hset (qfg d f A B T' W') 30 1 0) ⟨qjo ob.1 _ _ _,by rw[qwj];exact ob.2⟩
    rw[show((30:Nat):Int)=30 from rfl,show((1:Nat):Int)=1 from rfl]at hs
    simp only[Bool.not_false,cT,hs,e1,y5]
    exact⟨b',n',rfl,g1,g2⟩
  ·rw[iN hok]
   simp only[y5,show((1:Int) !=0)=true from rfl,cT]
   exact Stp.refl hk tl tr hI
 ·have hb:(qlf d A B !=3)=true:=by rw[bne_iff_ne];exact h3
  simp only[hb,cT]
  exact Stp.refl hk tl tr hI
end
section
variable {k:Nat} (hk:Fmt k) {t:LI} (tl:t.length=64) (tr:Rg 255 t) (ah b:LI) (n:Int)
include hk tl tr
theorem zu0(fl:Bool)(h:Int)(x2:LI){i:Nat}(hi:i<16){s:LI}(hs:Rg (255*i) s):∃s',Rg (255*(i+1:Nat)) s' ∧q1w 600 600 fl h x2 s t (i:Int) (y8 4 (y9 (i*4) t)) 0=some (fl,h,x2,s',t,(i:Int),()):=by
 obtain⟨r,⟨s',hs',rfl⟩,e⟩:=q0f (N:=4) (by decide) (fun q (s:LI) c=>q1w 600 q fl h x2 s t (i:Int) (y8 4 (y9 (i*4) t)) c)
  (fun c s=>∀j,0≤s.getD j 0∧s.getD j 0≤255*i+(if j<c then 255 else 0)) (fun r=>∃s',Rg (255*(i+1:Nat)) s' ∧r=(fl,h,x2,s',t,(i:Int),()))
  (fun q c s hc hs=>by
   have h3:(c:Int)<4:=by omega
   have hr:=z2o tl hi hc
   have hv:=tr (i*4+c)
   have hsc:=hs c
   rw[iN (by omega)]at hsc
   refine⟨s.set c (y0 .i64 (s.getD c 0+t.getD (i*4+c) 0)),fun j=> ?_,?_⟩
   ·rw[w64 (by omega) (by omega)]
    have hj:=hs j
    by_cases hcl:c<s.length
    ·rw[qgm _ _ _ _ hcl]
     by_cases hcj:c=j
     ·subst hcj
      rw[iP rfl,iP (by omega)]
      omega
     ·rw[iN hcj]
      split at hj
      ·rw[iP (by omega)]
       omega
      ·split<;>omega
    ·rw[List.set_eq_of_length_le (by omega)]
     split at hj
     ·rw[iP (by omega)]
      omega
     ·split<;>omega
   ·show q5s 600 (q1w 600 q) _ _ _ _ _ _ _ _=_
    unfold q5s
    simp only[h3,dT,cT,yc,yd,yb,hr,q0a (show c<1000000000000 by omega)])
  (fun q s hs=>⟨_,⟨s,fun j=>by
   have:=hs j
   split at this<;>omega,rfl⟩,rfl⟩) (s:=s) (fun j=>by
   have:=hs j
   rw[iN (by omega)]
   omega)
 exact⟨s',hs',e⟩
theorem zx1(fl:Bool)(h:Int):∃l,Rg 4080 l∧q1n 600 ah b (k:Int) t n fl h=some (l,()):=by
 obtain⟨r,⟨s,hs,rfl⟩,e⟩:=q0f (N:=16) (by decide) (fun q (s:LI) i=>q2y 600 q fl h [0,0,0,0] s t i) (fun i s=>Rg (255*i) s) (fun r=>∃s,Rg 4080 s∧r=([0,0,0,0],s,()))
  (fun q i s hi hs=>by
   have h3:(i:Int)<16:=by omega
   obtain⟨s',hs',e1⟩:=zu0 hk tl tr fl h [0,0,0,0] hi hs
   show∃s',Rg (255*(i+1:Nat)) s' ∧q5t 600 (q2y 600 q) _ _ _ _ _ _=_
   unfold q5t
   rw[(ql3 600 fl (i:Int)).1]
   simp only[h3,dT,cT,yc,yd,yb,e1,y5,q0a (show i<1000000000000 by omega)]
   cases((q2p fl (i:Int):Int)==h)
   ·exact⟨s,q3f hs (by omega),rfl⟩
   ·exact⟨s',hs',rfl⟩)
  (fun q s hs=>⟨_,⟨s,q3f hs (by decide),rfl⟩,rfl⟩) (s:=[0,0,0,0]) (q1z (by decide) (q1z (by decide) (q1z (by decide) (q1z (by decide) (qs7 (by decide))))))
 obtain⟨r,⟨l,hl,rfl⟩,e2⟩:=q0f (N:=4) (by decide) (fun q (s:LI) i=>q2z 600 q [0,0,0,0] s i) (fun i s=>Rg 4080 s) (fun r=>∃s,Rg 4080 s∧r=([0,0,0,0],s,()))
  (fun q i s hi hs=>by
   have h3:(i:Int)<4:=by omega
   have hv:=hs i
   refine⟨s.set i (y0 .i64 (yx (s.getD i 0) 8)),zx0 hs i (by rw[q1x hv.1,w64 (by omega) (by omega)];omega),?_⟩
   show q5u 600 (q2z 600 q) _ _ _=_
   unfold q5u
   simp only[h3,dT,cT,yc,yd,yb,q0a (show i<1000000000000 by omega)])
  (fun q s hs=>⟨_,⟨s,hs,rfl⟩,rfl⟩) (s:=s) hs
 refine⟨l,hl,?_⟩
 unfold q1n
 rw[e]
 simp only[y5]
 rw[e2]
 rfl
end
theorem zdc{b:Nat}(hb:1≤b∧b≤8){v:Int}(hv:0≤v∧v≤4080):∃m:Nat,m<2^b∧qal 600 v (b:Int)=some ((m:Int),()):=
 ⟨qzv b v (2^b),by
  have:=zry b v (2^b)
  have:0<2^b:=Nat.two_pow_pos b
  omega,Near_is (by decide) hb ⟨by omega,by omega⟩⟩
def T3(a z:Int)(l:LI):Prop:=l.length=3∧∀j,a≤l.getD j 0∧l.getD j 0≤z
theorem T3.set{a z:Int}{l:LI}(h:T3 a z l)(i:Nat){v:Int}(hv:a≤v∧v≤z):T3 a z (l.set i v):=⟨by rw[List.length_set];exact h.1,fun j=>by
 by_cases hi:i<l.length
 ·rw[qgm _ _ _ _ hi]
  split
  ·exact hv
  ·exact h.2 j
 ·rw[List.set_eq_of_length_le (by omega)]
  exact h.2 j⟩
theorem T3.nil{a z:Int}(h:a≤0∧0≤z):T3 a z [0,0,0]:=⟨rfl,fun j=>by
 match j with
 |0=>exact h
 |1=>exact h
 |2=>exact h
 |j+3=>exact h⟩
theorem zow(ah b:LI)(k:Int)(t:LI)(n:Int)(fl:Bool)(pr:Bool×Bool×Unit)(x18:Int){m0 m1:LI}(h0:Rg 4080 m0)(h1:Rg 4080 m1):
  ∃A B A' B',qig A B∧qig A' B' ∧q0e 600 600 ah b k t n m0 m1 fl [0,0,0] [0,0,0] [0,0] q01 fl [0,0,0] [0,0,0] [0,0] q01 pr x18 0=
   some (ah,b,k,t,n,fl,A,B,[0,0],q01,fl,A',B',[0,0],q01,pr,x18,()):=by
 obtain⟨r,⟨A,B,A',B',g1,g2,rfl⟩,e⟩:=q0f (N:=3) (by decide) (fun q (s:LI×LI×LI×LI) c=>q0e 600 q ah b k t n m0 m1 fl s.1 s.2.1 [0,0] q01 fl s.2.2.1 s.2.2.2 [0,0] q01 pr x18 c)
  (fun c s=>T3 0 31 s.1∧T3 (-4) 3 s.2.1∧T3 0 15 s.2.2.1∧T3 0 15 s.2.2.2)
  (fun r=>∃A B A' B',qig A B∧qig A' B' ∧r=(ah,b,k,t,n,fl,A,B,[0,0],q01,fl,A',B',[0,0],q01,pr,x18,()))
  (fun q c s hc hs=>by
   have h3:(c:Int)<3:=by omega
   have h4:(c:Int)<4:=by omega
   obtain⟨p0,hp0,e0⟩:=zdc (b:=5) (by decide) (h0 c)
   obtain⟨p1,hp1,e1⟩:=zdc (b:=5) (by decide) (h1 c)
   obtain⟨p2,hp2,e2⟩:=zdc (b:=4) (by decide) (h0 c)
   obtain⟨p3,hp3,e3⟩:=zdc (b:=4) (by decide) (h1 c)
   rw[show((5:Nat):Int)=5 from rfl]at e0 e1
   rw[show((4:Nat):Int)=4 from rfl]at e2 e3
   rw[show 2^5=32 from rfl]at hp0 hp1
   rw[show 2^4=16 from rfl]at hp2 hp3
   refine⟨(s.1.set c p0,s.2.1.set c (max (-4) (min (y0 .i64 ((p1:Int)-(s.1.set c (p0:Int)).getD c 0)) 3)),s.2.2.1.set c p2,s.2.2.2.set c p3),⟨hs.1.set c (by omega),hs.2.1.set c (by omega),hs.2.2.1.set c (by omega),hs.2.2.2.set c (by omega)⟩,?_⟩
   show q4g 600 (q0e 600 q) _ _ _ _ _ _ _ _ _ _ _ _ _ _ _ _ _ _ _ _=_
   unfold q4g
   simp only[h3,h4,dT,cT,yc,yd,yb,e0,e1,e2,e3,y5,q0a (show c<1000000000000 by omega)])
  (fun q s hs=>⟨_,⟨s.1,s.2.1,s.2.2.1,s.2.2.2,⟨hs.1.1,hs.2.1.1,hs.1.2,fun c=>by have:=hs.2.1.2 c;omega⟩,⟨hs.2.2.1.1,hs.2.2.2.1,fun c=>by have:=hs.2.2.1.2 c;omega,fun c=>by have:=hs.2.2.2.2 c;omega⟩,rfl⟩,rfl⟩)
  (s:=([0,0,0],[0,0,0],[0,0,0],[0,0,0])) ⟨T3.nil (by decide),T3.nil (by decide),T3.nil (by decide),T3.nil (by decide)⟩
 exact⟨A,B,A',B',g1,g2,e⟩
theorem rg_zz:Rg 7 [0,0]:=q1z (by decide) (q1z (by decide) (qs7 (by decide)))
theorem zx2:Rg 3 q01:=qd7 (N:=16) (g:=fun _=>0) (by decide) fun j _=>by omega
section
variable {k:Nat} (hk:Fmt k) {t:LI} (tl:t.length=64) (tr:Rg 255 t) {ah:LI} (ha:Ahd k ah)
include hk tl tr ha
theorem pair_is{b:LI}{n:Int}(hI:Inv k t b n)(fl:Bool){A B A' B' :LI}(g1:qig A B)(g2:qig A' B'):∃b1 n1 b2 n2,q09 600 ah b (k:Int) t n (true,fl,A,B,[0,0],q01,()) true=some ((k:Int),t,ah,b1,n1,())∧
  (cond ((k:Int)==9) (q09 600 ah b1 (k:Int) t n1 (true,fl,A,B,[0,0],q01,()) false) (q09 600 ah b1 (k:Int) t n1 (false,fl,A',B',[0,0],q01,()) true))=some ((k:Int),t,ah,b2,n2,())∧Inv k t b2 n2∧n2≤n:=by
 obtain⟨b1,n1,e1,i1,l1⟩:=zlo hk tl tr ha hI true fl g1 rg_zz zx2 true
 cases h9:((k:Int)==9)with
 |true=>
  obtain⟨b2,n2,e2,i2,l2⟩:=zlo hk tl tr ha i1 true fl g1 rg_zz zx2 false
  exact⟨b1,n1,b2,n2,e1,e2,i2,by omega⟩
 |false=>
  obtain⟨b2,n2,e2,i2,l2⟩:=zlo hk tl tr ha i1 false fl g2 rg_zz zx2 true
  exact⟨b1,n1,b2,n2,e1,e2,i2,by omega⟩
theorem z0a{b:LI}{n:Int}(hI:Inv k t b n):Stp k t ah n (q1c 600 ah b (k:Int) t n):=by
 have round:∀(q:Nat) (x:Int) (b:LI) (n:Int),x=0∨x=1→Inv k t b n→∃b' n',q08 600 (q+1) ah b (k:Int) t n (false,true,()) x=q08 600 q ah b' (k:Int) t n' (false,true,()) (y0 .i64 (x+1))∧Inv k t b' n' ∧n' ≤n:=by
  intro q x b n hx hI
  have key:∀fl,∃m0 m1 A B A' B' b1 n1 b2 n2,q1n 600 ah b (k:Int) t n fl 0=some (m0,())∧q1n 600 ah b (k:Int) t n fl 1=some (m1,())∧
    q0e 600 600 ah b (k:Int) t n m0 m1 fl [0,0,0] [0,0,0] [0,0] q01 fl [0,0,0] [0,0,0] [0,0] q01 (false,true,()) x 0=some (ah,b,(k:Int),t,n,fl,A,B,[0,0],q01,fl,A',B',[0,0],q01,(false,true,()),x,())∧
    q09 600 ah b (k:Int) t n (true,fl,A,B,[0,0],q01,()) true=some ((k:Int),t,ah,b1,n1,())∧
    (cond ((k:Int)==9) (q09 600 ah b1 (k:Int) t n1 (true,fl,A,B,[0,0],q01,()) false) (q09 600 ah b1 (k:Int) t n1 (false,fl,A',B',[0,0],q01,()) true))=some ((k:Int),t,ah,b2,n2,())∧Inv k t b2 n2∧n2≤n:=by
   intro fl
   obtain⟨m0,hm0,e0⟩:=zx1 hk tl tr ah b n fl 0
   obtain⟨m1,hm1,e1⟩:=zx1 hk tl tr ah b n fl 1
   obtain⟨A,B,A',B',g1,g2,e2⟩:=zow ah b (k:Int) t n fl (false,true,()) x hm0 hm1
   obtain⟨b1,n1,b2,n2,p1,p2,p3,p4⟩:=pair_is hk tl tr ha hI fl g1 g2
   exact⟨m0,m1,A,B,A',B',b1,n1,b2,n2,e0,e1,e2,p1,p2,p3,p4⟩
  rcases hx with rfl|rfl
  ·obtain⟨m0,m1,A,B,A',B',b1,n1,b2,n2,e0,e1,e2,p1,p2,p3,p4⟩:=key false
   refine⟨b2,n2,?_,p3,p4⟩
   show q1q 600 (q08 600 q) _ _ _ _ _ _ _=_
   unfold q1q
   simp only[show decide ((0:Int)<2)=true from rfl,cT,beq_self_eq_true,e0,e1,y5,e2,p1]
   cases h9:((k:Int)==9)with
   |true=>
    rw[h9]at p2
    simp only[cT]at p2⊢
    rw[p2]
    rfl
   |false=>
    rw[h9]at p2
    simp only[cF]at p2⊢
    rw[p2]
    rfl
  ·obtain⟨m0,m1,A,B,A',B',b1,n1,b2,n2,e0,e1,e2,p1,p2,p3,p4⟩:=key true
   refine⟨b2,n2,?_,p3,p4⟩
   show q1q 600 (q08 600 q) _ _ _ _ _ _ _=_
   unfold q1q
   simp only[show decide ((1:Int)<2)=true from rfl,cT,cF,show((1:Int)==0)=false from rfl,beq_self_eq_true,e0,e1,y5,e2,p1]
   cases h9:((k:Int)==9)with
   |true=>
    rw[h9]at p2
    simp only[cT]at p2⊢
    rw[p2]
    rfl
   |false=>
    rw[h9]at p2
    simp only[cF]at p2⊢
    rw[p2]
    rfl
 obtain⟨b1,n1,e1,i1,l1⟩:=round 599 0 b n (.inl rfl) hI
 obtain⟨b2,n2,e2,i2,l2⟩:=round 598 1 b1 n1 (.inr rfl) i1
 refine⟨b2,n2,?_,i2,by omega⟩
 unfold q1c
 rw[show q08 600 600=q08 600 (599+1)from rfl,e1,show y0 .i64 (0+1)=1 from rfl,show q08 600 599=q08 600 (598+1)from rfl,e2]
 rfl
end
def sqS(t:LI)(c:Nat)(u:Int):Int:=sumN (fun i=>(t.getD (i*4+c) 0-u)*(t.getD (i*4+c) 0-u)) 16
def solA(t:LI)(tb w:Nat)(c:Nat):Nat:=q2d (fun v=>sqS t c (q0u (q0n 5 (v:Int)+(qey tb).getD w 0))) 32
def solB(t:LI)(tb w:Nat):LI:=qfg true false (tab 3 fun c=>(solA t tb w c:Int)) [0,0,0] [(tb:Int),(tb:Int)] (q37 (w:Int))
theorem zqu(t:LI)(tb w c:Nat):solA t tb w c<32:=qf3 _ (by decide)
theorem zx3(t:LI){tb w:Nat}(htb:tb<8)(hw:w<4):Ok10 true (tab 3 fun c=>(solA t tb w c:Int)) [0,0,0] [(tb:Int),(tb:Int)] (q37 (w:Int)):=by
 refine⟨fun c hc=> ?_,fun i hi=> ?_,?_,?_⟩
 ·rw[q7o hc,iP rfl]
  have:=zqu t tb w c
  refine⟨by omega,?_⟩
  have:=(T3.nil (a:=0) (z:=0) (by decide)).2 c
  omega
 ·rw[qhf _ hi]
  omega
 ·show 0≤(tb:Int)∧(tb:Int)≤7
  omega
 ·show 0≤(tb:Int)∧(tb:Int)≤7
  omega
section
variable {k:Nat} (hk:Fmt k) {t:LI} (tl:t.length=64) (tr:Rg 255 t) {ah:LI} (ha:Ahd k ah)
include hk tl tr ha
theorem zx4{c:Nat}{u:Int}(hu:0≤u∧u≤255)(i:Nat):0≤sumN (fun i=>(t.getD (i*4+c) 0-u)*(t.getD (i*4+c) 0-u)) i∧sumN (fun i=>(t.getD (i*4+c) 0-u)*(t.getD (i*4+c) 0-u)) i≤255*255*i:=
 q98 (m:=255*255) fun j _=>qcb (m:=255) (by have:=tr (j*4+c);omega)
theorem zqv(v:Nat){m:Int}(hm: -183≤m∧m≤183)(b:LI)(n:Int){c:Nat}(hc:c<4):q2j 600 (v:Int) m ah b (k:Int) t n (c:Int)=some (sqS t c (q0u (q0n 5 (v:Int)+m)),()):=by
 have hw:=q1k (b:=5) (by decide) (v:Int)
 have hu:=q0z (q0n 5 (v:Int)+m)
 obtain⟨r,rfl,e⟩:=q0f (N:=16) (by decide) (fun q (s:Int) i=>q1b 600 q (c:Int) (q0u (q0n 5 (v:Int)+m)) s t i) (fun i s=>s=sumN (fun i=>(t.getD (i*4+c) 0-q0u (q0n 5 (v:Int)+m))*(t.getD (i*4+c) 0-q0u (q0n 5 (v:Int)+m))) i) (fun r=>r=(sqS t c (q0u (q0n 5 (v:Int)+m)),()))
  (fun q i s hi hs=>by
   subst hs
   have h3:(i:Int)<16:=by omega
   have h4:(c:Int)<4:=by omega
   have hx:=tr (i*4+c)
   have b1:=zx4 hk tl tr ha (c:=c) hu i
   have b2:=qcb (x:=t.getD (i*4+c) 0-q0u (q0n 5 (v:Int)+m)) (m:=255) (by omega)
   refine⟨_,rfl,?_⟩
   show q3j 600 (q1b 600 q) _ _ _ _ _=_
   unfold q3j
   simp only[h3,h4,dT,cT,yc,yd,yb,z2o tl hi hc,q0a (show i<1000000000000 by omega),qox]
   rw[w64 (x:=t.getD (i*4+c) 0-q0u (q0n 5 (v:Int)+m)) (by omega) (by omega),w64 (x:=(t.getD (i*4+c) 0-q0u (q0n 5 (v:Int)+m))*(t.getD (i*4+c) 0-q0u (q0n 5 (v:Int)+m))) (by omega) (by omega),w64 (by omega) (by omega)])
  (fun q s hs=>⟨_,rfl,by subst hs;rfl⟩) (s:=0) rfl
 unfold q2j
 have hW:=qna (F:=600) (by decide) (b:=5) (by decide) (v:Int)
 rw[show((5:Nat):Int)=5 from rfl]at hW
 rw[hW]
 simp only[y5,qb6]
 rw[w64 (x:=q0n 5 (v:Int)+m) (by omega) (by omega),e]
 rfl
theorem zlp{m:Int}(hm: -183≤m∧m≤183)(b:LI)(n:Int){c:Nat}(hc:c<4):q2c 600 32 m ah b (k:Int) t n (c:Int)=some ((q2d (fun v=>sqS t c (q0u (q0n 5 (v:Int)+m))) 32:Int),()):=by
 have e:=zda (N:=32) (by decide) (g:=fun x=>q2j 600 x m ah b (k:Int) t n (c:Int)) (L:=fun q y x=>q0t 600 q 32 m ah b (k:Int) t n (c:Int) y x) (fun i hi=>zqv hk tl tr ha i hm b n hc) (fun q y x=>rfl)
 unfold q2c
 rw[e]
 rfl
theorem zqw(b:LI)(n:Int)(x5:Int)(w:Nat)(x7:Int)(A B T:LI)(x12:Int)(x13:LI)(x14:Int):q1h 600 600 ah b (k:Int) t n x5 (w:Int) x7 A B T q01 x12 x13 x14 0=some (ah,b,(k:Int),t,n,x5,x7,A,B,T,q37 (w:Int),x12,x13,x14,()):=by
 obtain⟨r,rfl,e⟩:=q0f (N:=16) (by decide) (fun q (s:LI) i=>q1h 600 q ah b (k:Int) t n x5 (w:Int) x7 A B T s x12 x13 x14 i) (fun i s=>s=tab 16 (upT i fun _=>(w:Int))) (fun r=>r=(ah,b,(k:Int),t,n,x5,x7,A,B,T,q37 (w:Int),x12,x13,x14,()))
  (fun q i s hi hs=>by
   subst hs
   have h3:(i:Int)<16:=by omega
   have e1:(tab 16 (upT i fun _=>(w:Int))).set i (w:Int)=tab 16 (upT (i+1) fun _=>(w:Int)):=zkh (fun _=>(w:Int))
   refine⟨_,rfl,?_⟩
   show q4u 600 (q1h 600 q) _ _ _ _ _ _ _ _ _ _ _ _ _ _ _ _=_
   unfold q4u
   simp only[h3,dT,cT,yc,yd,yb,e1,q0a (show i<1000000000000 by omega)])
  (fun q s hs=>⟨_,rfl,by subst hs;rw[zki];rfl⟩) (s:=q01) (by rw[z83];rfl)
 exact e
theorem zqx(b:LI)(n:Int)(x5:Int)(tb w:Nat)(B T W:LI)(x11:Int)(x12:LI)(x13:Int):q1i 600 600 ah b (k:Int) t n x5 ((qey tb).getD w 0) [0,0,0] B T W x11 x12 x13 0=some (ah,b,(k:Int),t,n,x5,tab 3 fun c=>(solA t tb w c:Int),B,T,W,x11,x12,x13,()):=by
 obtain⟨r,rfl,e⟩:=q0f (N:=3) (by decide) (fun q (s:LI) i=>q1i 600 q ah b (k:Int) t n x5 ((qey tb).getD w 0) s B T W x11 x12 x13 i) (fun i s=>s=tab 3 (upT i fun c=>(solA t tb w c:Int))) (fun r=>r=(ah,b,(k:Int),t,n,x5,tab 3 fun c=>(solA t tb w c:Int),B,T,W,x11,x12,x13,()))
  (fun q i s hi hs=>by
   subst hs
   have h3:(i:Int)<3:=by omega
   have e0:=zlp hk tl tr ha (qzx tb w) b n (c:=i) (by omega)
   have e1:(tab 3 (upT i fun c=>(solA t tb w c:Int))).set i (solA t tb w i:Int)=tab 3 (upT (i+1) fun c=>(solA t tb w c:Int)):=zkh (fun c=>(solA t tb w c:Int))
   have e2:(q2d (fun v=>sqS t i (q0u (q0n 5 (v:Int)+(qey tb).getD w 0))) 32:Int)=(solA t tb w i:Int):=rfl
   refine⟨_,rfl,?_⟩
   show q4v 600 (q1i 600 q) _ _ _ _ _ _ _ _ _ _ _ _ _ _ _=_
   unfold q4v
   rw[e0,e2]
   simp only[h3,dT,cT,yc,yd,yb,e1,y5,q0a (show i<1000000000000 by omega)])
  (fun q s hs=>⟨_,rfl,by subst hs;rw[zki];rfl⟩) (s:=[0,0,0]) (by rw[z83];rfl)
 exact e
theorem zqy{b:LI}{n:Int}(hI:Inv k t b n){tb:Nat}(htb:tb<8):∃b' n',q1j 600 600 ah b (k:Int) t n (tb:Int) (tb:Int) (qey tb) 0=some (ah,b',(k:Int),t,n',(tb:Int),())∧Inv k t b' n' ∧n' ≤n∧∀w,w<4→n' ≤q9g k (ah++solB t tb w) t:=by
 obtain⟨r,⟨b',n',g1,g2,g3,rfl⟩,e⟩:=q0f (N:=4) (by decide) (fun q (s:LI×Int) i=>q1j 600 q ah s.1 (k:Int) t s.2 (tb:Int) (tb:Int) (qey tb) i)
  (fun i s=>Inv k t s.1 s.2∧s.2≤n∧∀w,w<i→s.2≤q9g k (ah++solB t tb w) t)
  (fun r=>∃b' n',Inv k t b' n' ∧n' ≤n∧(∀w,w<4→n' ≤q9g k (ah++solB t tb w) t)∧r=(ah,b',(k:Int),t,n',(tb:Int),()))
  (fun q w s hw hs=>by
   have h3:(w:Int)<4:=by omega
   have hok:=zx3 t htb hw
   have e4:=zqw hk tl tr ha s.1 s.2 (tb:Int) w ((qey tb).getD w 0) [0,0,0] [0,0,0] [(tb:Int),(tb:Int)] (tb:Int) (qey tb) (w:Int)
   have e6:=zqx hk tl tr ha s.1 s.2 (tb:Int) tb w [0,0,0] [(tb:Int),(tb:Int)] (q37 (w:Int)) (tb:Int) (qey tb) (w:Int)
   have j:=zck (F:=600) (by decide) true false (A:=tab 3 fun c=>(solA t tb w c:Int)) (B:=[0,0,0]) (T:=[(tb:Int),(tb:Int)]) (W:=q37 (w:Int))
    (Rg.i64 (m:=31) (qd7 (by decide) fun c _=>by have:=zqu t tb w c;omega) (by decide))
    (Rg.i64 (m:=0) (T3.nil (by decide)).2 (by decide))
    (Rg.i64 (m:=7) (q1z (by omega) (q1z (by omega) (qs7 (by decide)))) (by decide))
    (Rg.i64 (m:=3) (qd7 (by decide) fun c _=>by omega) (by decide))
   rw[iP hok]at j
   obtain⟨b',n',e1,g1,g2,g3⟩:=z2s hk tl tr ha s.1 s.2 hs.1 (zha true false (tab 3 fun c=>(solA t tb w c:Int)) [0,0,0] [(tb:Int),(tb:Int)] (q37 (w:Int)))
   refine⟨(b',n'),⟨g1,by show n' ≤n;have:=hs.2.1;omega,fun w' hw' => ?_⟩,?_⟩
   ·show n' ≤_
    by_cases he:w' =w
    ·subst he
     exact g3
    ·have:=hs.2.2 w' (by omega)
     omega
   ·show q4w 600 (q1j 600 q) _ _ _ _ _ _ _ _ _=_
    unfold q4w
    simp only[h3,dT,cT,yc,yd,yb,e4,y5,e6,j,e1,q0a (show w<1000000000000 by omega)])
  (fun q s hs=>⟨_,⟨s.1,s.2,hs.1,hs.2.1,hs.2.2,rfl⟩,rfl⟩) (s:=(b,n)) ⟨hI,Int.le_refl _,fun w h=>absurd h (by omega)⟩
 exact⟨b',n',e,g1,g2,g3⟩
theorem solid_is{b:LI}{n:Int}(hI:Inv k t b n):∃b' n',q3m 600 ah b (k:Int) t n=some ((k:Int),t,ah,b',n',())∧Inv k t b' n' ∧n' ≤n∧∀tb w,tb<8→w<4→n' ≤q9g k (ah++solB t tb w) t:=by
 obtain⟨r,⟨b',n',g1,g2,g3,rfl⟩,e⟩:=q0f (N:=8) (by decide) (fun q (s:LI×Int) i=>q2k 600 q ah s.1 (k:Int) t s.2 i)
  (fun i s=>Inv k t s.1 s.2∧s.2≤n∧∀tb w,tb<i→w<4→s.2≤q9g k (ah++solB t tb w) t)
  (fun r=>∃b' n',Inv k t b' n' ∧n' ≤n∧(∀tb w,tb<8→w<4→n' ≤q9g k (ah++solB t tb w) t)∧r=(ah,b',(k:Int),t,n',()))
  (fun q tb s htb hs=>by
   have h3:(tb:Int)<8:=by omega
   obtain⟨b',n',e1,g1,g2,g3⟩:=zqy hk tl tr ha hs.1 htb
   have h8:((tb:Int)%8).toNat=tb:=by omega
   refine⟨(b',n'),⟨g1,by show n' ≤n;have:=hs.2.1;omega,fun tb' w hw' hw=> ?_⟩,?_⟩
   ·show n' ≤_
    by_cases he:tb' =tb
    ·subst he
     exact g3 w hw
    ·have:=hs.2.2 tb' w (by omega) hw
     omega
   ·show q4x 600 (q2k 600 q) _ _ _ _ _ _=_
    unfold q4x
    rw[z4a,h8]
    simp only[h3,dT,cT,y5,e1,q0a (show tb<1000000000000 by omega)])
  (fun q s hs=>⟨_,⟨s.1,s.2,hs.1,hs.2.1,hs.2.2,rfl⟩,rfl⟩) (s:=(b,n)) ⟨hI,Int.le_refl _,fun tb w h=>absurd h (by omega)⟩
 refine⟨b',n',?_,g1,g2,g3⟩
 unfold q3m
 rw[e]
 rfl
def nineOk(l:LI):Prop:=l.length=9∧∀j,0≤l.getD j 0∧l.getD j 0<if j%3=1 then 128 else 64
end
theorem nineOk.parts{l:LI}(h:nineOk l):ok3 (l.take 3)∧ok3 ((l.drop 3).take 3)∧ok3 ((l.drop 6).take 3)∧(l.take 3).length=3∧((l.drop 3).take 3).length=3∧((l.drop 6).take 3).length=3∧∀i,I64 ((l.take 3++((l.drop 3).take 3++(l.drop 6).take 3)).getD i 0):=by
 obtain⟨hl,hr⟩:=h
 match l,hl with
 |[a0,a1,a2,a3,a4,a5,a6,a7,a8],_=>
  have r0:=hr 0
  have r1:=hr 1
  have r2:=hr 2
  have r3:=hr 3
  have r4:=hr 4
  have r5:=hr 5
  have r6:=hr 6
  have r7:=hr 7
  have r8:=hr 8
  refine⟨⟨r0,r1,r2⟩,⟨r3,r4,r5⟩,⟨r6,r7,r8⟩,rfl,rfl,rfl,fun i=> ?_⟩
  show I64 ([a0,a1,a2,a3,a4,a5,a6,a7,a8].getD i 0)
  have:=hr i
  unfold I64
  split at this<;>omega
section
variable {k:Nat} (hk:Fmt k) {t:LI} (tl:t.length=64) (tr:Rg 255 t) {ah:LI} (ha:Ahd k ah)
include hk tl tr ha
theorem zox(b:LI)(n:Int){c:Nat}(hc:c<3){e:Nat}(he:e=if c=1 then 7 else 6)(x9:LI)(x10:Int){l:LI}(hl:nineOk l):∃l',nineOk l' ∧q11 600 600 ah b (k:Int) t n l (c:Int) (e:Int) (t.getD c 0) x9 x10 [0,3,12] 0=some (ah,b,(k:Int),t,n,l',x9,x10,()):=by
 obtain⟨r,⟨l',g1,rfl⟩,e1⟩:=q0f (N:=3) (by decide) (fun q (s:LI) i=>q11 600 q ah b (k:Int) t n s (c:Int) (e:Int) (t.getD c 0) x9 x10 [0,3,12] i) (fun i s=>nineOk s)
  (fun r=>∃l',nineOk l' ∧r=(ah,b,(k:Int),t,n,l',x9,x10,()))
  (fun q i s hi hs=>by
   have h3:(i:Int)<3:=by omega
   have hc3:(c:Int)<3:=by omega
   have hc4:(c:Int)<4:=by omega
   obtain⟨p,hp,hp'⟩:∃p:Nat,([0,3,12]:LI).getD i 0=(p:Int)∧p<16:=by
    match i,hi with
    |0,_=>exact⟨0,rfl,by decide⟩
    |1,_=>exact⟨3,rfl,by decide⟩
    |2,_=>exact⟨12,rfl,by decide⟩
   have hp16:(p:Int)<16:=by omega
   have hb:1≤e∧e≤8:=by rw[he];split<;>omega
   obtain⟨v,hv⟩:∃v,v=y0 .i64 (t.getD c 0+y0 .i64 (yx (y0 .i64 (y0 .i64 (t.getD (p*4+c) 0-t.getD c 0)*4)) 3)):=⟨_,rfl⟩
   have hcl:=q0z v
   obtain⟨m,hm,em⟩:=zdc hb (v:=q0u v) (by omega)
   refine⟨s.set (i*3+c) (m:Int),⟨by rw[List.length_set];exact hs.1,fun j=> ?_⟩,?_⟩
   ·rw[qgm _ _ _ _ (by rw[hs.1];omega)]
    have hj:=hs.2 j
    by_cases hij:i*3+c=j
    ·rw[iP hij]
     have hjc:j%3=c:=by omega
     have h2:(2:Nat)^e=if j%3=1 then 128 else 64:=by
      rw[he,hjc]
      split<;>rfl
     rw[h2]at hm
     split at hm
     ·rename_i h1
      rw[iP h1]
      omega
     ·rename_i h1
      rw[iN h1]
      omega
    ·rw[iN hij]
     exact hj
   ·show q4h 600 (q11 600 q) _ _ _ _ _ _ _ _ _ _ _ _ _=_
    unfold q4h
    simp only[h3,hc3,hc4,hp,hp16,dT,cT,yc,yd,yb,qb6,y5,←hv,em,q0a (show i<1000000000000 by omega)])
  (fun q s hs=>⟨_,⟨s,hs,rfl⟩,rfl⟩) (s:=l) hl
 exact⟨l',g1,e1⟩
theorem zqz{b:LI}{n:Int}(hI:Inv k t b n):Stp k t ah n (q3b 600 ah b (k:Int) t n):=by
 unfold q3b
 cases h7:((k:Int)==7)with
 |true=>
  simp only[cT]
  exact Stp.refl hk tl tr hI
 |false=>
  simp only[cF]
  obtain⟨r,⟨l,g1,rfl⟩,e⟩:=q0f (N:=3) (by decide) (fun q (s:LI) i=>q25 600 q ah b (k:Int) t n s [6,7,6] i) (fun i s=>nineOk s)
   (fun r=>∃l',nineOk l' ∧r=(ah,b,(k:Int),t,n,l',()))
   (fun q c s hc hs=>by
    have h3:(c:Int)<3:=by omega
    have h4:(c:Int)<4:=by omega
    obtain⟨e,he,he'⟩:∃e:Nat,([6,7,6]:LI).getD c 0=(e:Int)∧e=if c=1 then 7 else 6:=by
     match c,hc with
     |0,_=>exact⟨6,rfl,rfl⟩
     |1,_=>exact⟨7,rfl,rfl⟩
     |2,_=>exact⟨6,rfl,rfl⟩
    obtain⟨l',hl',e1⟩:=zox hk tl tr ha b n hc he' [6,7,6] (c:Int) hs
    refine⟨l',hl',?_⟩
    show q4i 600 (q25 600 q) _ _ _ _ _ _ _ _=_
    unfold q4i
    simp only[h3,h4,dT,cT,yc,yd,yb,he,e1,y5,q0a (show c<1000000000000 by omega)])
   (fun q s hs=>⟨_,⟨s,hs,rfl⟩,rfl⟩) (s:=q5l) ⟨rfl,fun j=>by
    have h0:q5l=tab 9 fun _=>0:=rfl
    rw[h0]
    by_cases hj:j<9
    ·rw[q7o hj]
     split<;>decide
    ·rw[zo5 (by rw[q1y];omega)]
     split<;>decide⟩
  obtain⟨o1,o2,o3,q1,q2,q3,q4⟩:=g1.parts
  have la:=(zw9 q1 q2 q3 q4).1
  rw[iP ⟨o1,o2,o3⟩]at la
  obtain⟨b',n',e1,i1,i2,_⟩:=z2s hk tl tr ha b n hI (zkr (l.take 3) ((l.drop 3).take 3) ((l.drop 6).take 3))
  rw[e]
  simp only[y5]
  rw[la]
  simp only[y5,e1]
  exact⟨b',n',rfl,i1,i2⟩
end
theorem Ahd.nil{k:Nat}(h:q3g k=8):Ahd k []:=⟨fun x hx=>absurd hx List.not_mem_nil,by rw[h];rfl⟩
theorem zu1{t:LI}{less:Int}{best:LI}(h:LineB true (scT 11 t) 0 less best):q9g 11 best t=less:=by
 rw[h.tells]
 have ob:=h.okb
 unfold q9g errS
 rw[show 64=16*4 from rfl,zok]
 refine qws fun i hi=> ?_
 unfold errT
 rw[show(i*4+0)%4=0 by omega,show(i*4+1)%4=1 by omega,show(i*4+2)%4=2 by omega,show(i*4+3)%4=3 by omega]
 rw[show bitM (ql6 11) 0=true from rfl,show bitM (ql6 11) 1=false from rfl,show bitM (ql6 11) 2=false from rfl,show bitM (ql6 11) 3=false from rfl,iP rfl,iN (by decide),iN (by decide),iN (by decide)]
 have hd:(qw2 11 best).getD (i*4+0) 0=(eacL best true).getD i 0:=by
  show(wT 0 (eacL (lo13 best) true) (qou 2047)).getD (i*4+0) 0=_
  unfold wT
  rw[q7o (by omega),iP (by omega),lo13_8 ob.2,show(i*4+0)/4=i by omega]
 rw[hd]
 have hz:∀x:Int,x+0+0+0=x:=fun x=>by omega
 rw[hz]
 rw[show(scT 11 t).getD (i*4+0) 0-(eacL best true).getD i 0= -((eacL best true).getD i 0-(scT 11 t).getD (i*4+0) 0) by omega,Int.neg_mul_neg]
theorem zhb{t:LI}(hl:t.length=64)(ht:Rg 255 t):q8y 600 t=some (true,()):=by
 have l2:∀i:Nat,i<16→q35 600 600 t (i:Int) (y8 4 (y9 (i*4) t)) 0=some (.inr (t,(i:Int),())):=fun i hi=>by
  obtain⟨r,rfl,e⟩:=q0f (N:=4) (by decide) (fun q (_:Unit) c=>q35 600 q t (i:Int) (y8 4 (y9 (i*4) t)) c) (fun _ _=>True) (fun r=>r= .inr (t,(i:Int),()))
   (fun q c s hc hs=>by
    have h4:(c:Int)<4:=by omega
    have hr:=ht (i*4+c)
    refine⟨(),trivial,?_⟩
    show q8w 600 (q35 600 q) _ _ _ _=_
    unfold q8w
    simp only[h4,dT,cT,yc,yd,yb,z2o hl hi hc,q0a (show c<1000000000000 by omega),show¬t.getD (i*4+c) 0<0 by omega,show¬255<t.getD (i*4+c) 0 by omega,dF,cF])
   (fun q s hs=>⟨_,rfl,rfl⟩) (s:=()) trivial
  exact e
 obtain⟨r,rfl,e⟩:=q0f (N:=16) (by decide) (fun q (_:Unit) i=>q3w 600 q t i) (fun _ _=>True) (fun r=>r= .inr ())
  (fun q i s hi hs=>by
   have h3:(i:Int)<16:=by omega
   refine⟨(),trivial,?_⟩
   show q8x 600 (q3w 600 q) _ _=_
   unfold q8x
   simp only[h3,dT,cT,yc,yd,yb,l2 i hi,y5,q0a (show i<1000000000000 by omega)])
  (fun q s hs=>⟨_,rfl,rfl⟩) (s:=()) trivial
 unfold q8y
 rw[e]
 rfl
def Rnd(k:Nat)(t x3 b:LI)(n i:Int)(x3' b' :LI)(n' :Int):Prop:=
 ∀q (e:Int),i≤e→q12 600 (q+1) (k:Int) e t x3 b (k:Int) t n (scT k t) i=q12 600 q (k:Int) e t x3' b' (k:Int) t n' (scT k t) (y0 .i64 (i+1))
section
variable {t:LI} (tl:t.length=64) (tr:Rg 255 t)
include tl tr
theorem zsf{k:Nat}(hk:Fmt k){ah:LI}(ha:Ahd k ah){b:LI}{n:Int}(hI:Inv k t b n):∃b1 n1 b2 n2 b3 n3,q1c 600 ah b (k:Int) t n=some ((k:Int),t,ah,b1,n1,())∧
  q3m 600 ah b1 (k:Int) t n1=some ((k:Int),t,ah,b2,n2,())∧q3b 600 ah b2 (k:Int) t n2=some ((k:Int),t,ah,b3,n3,())∧Inv k t b3 n3∧n3≤n∧∀tb w,tb<8→w<4→n3≤q9g k (ah++solB t tb w) t:=by
 obtain⟨b1,n1,e1,i1,l1⟩:=z0a hk tl tr ha hI
 obtain⟨b2,n2,e2,i2,l2,g2⟩:=solid_is hk tl tr ha i1
 obtain⟨b3,n3,e3,i3,l3⟩:=zqz hk tl tr ha i2
 exact⟨b1,n1,b2,n2,b3,n3,e1,e2,e3,i3,by omega,fun tb w h1 h2=>by have:=g2 tb w h1 h2;omega⟩
theorem zx5{k:Nat}(hk:Fmt k)(h8:q3g k=8)(h11:((k:Int)==11)=false)(h12:((k:Int)==12)=false)(h10:((k:Int)==10)=false){b:LI}{n:Int}(hI:Inv k t b n){i:Int}(hi:i=1∨i=2):
  ∃b' n',Rnd k t [] b n i [] b' n' ∧Inv k t b' n' ∧n' ≤n∧(i=2→∀tb w,tb<8→w<4→n' ≤q9g k (solB t tb w) t):=by
 rcases hi with rfl|rfl
 ·obtain⟨b',n',e,h1,h2⟩:=z0a hk tl tr (Ahd.nil h8) hI
  refine⟨b',n',fun q e' he=> ?_,h1,h2,fun h=>absurd h (by decide)⟩
  show q0m 600 (q12 600 q) _ _ _ _ _ _ _ _ _ _=_
  unfold q0m
  simp only[he,dT,cT,h11,h12,h10,cF,show((1:Int)==2)=false from rfl,e,y5]
 ·obtain⟨b1,n1,b2,n2,b3,n3,e1,e2,e3,h1,h2,h3⟩:=zsf tl tr hk (Ahd.nil h8) hI
  refine⟨b3,n3,fun q e' he=> ?_,h1,h2,fun _ tb w g1 g2=>by have:=h3 tb w g1 g2;rwa [List.nil_append]at this⟩
  show q0m 600 (q12 600 q) _ _ _ _ _ _ _ _ _ _=_
  unfold q0m
  simp only[he,dT,cT,h11,h12,h10,cF,beq_self_eq_true,e1,e2,e3,y5]
theorem zsg{x3 b:LI}{n:Int}(hI:Inv 10 t b n){i:Int}(hi:i=1∨i=2):∃x3' b' n',Rnd 10 t x3 b n i x3' b' n' ∧Inv 10 t b' n' ∧n' ≤n:=by
 have hk:Fmt 10:=by unfold Fmt;omega
 obtain⟨less,best,mid,el,⟨_,hB⟩,_⟩:=zlh tl (q3f tr (by decide)) (c:=3) (by decide) false (fun _=>tr) i
 have ha:Ahd 10 best:=⟨hB.okb.1,by rw[hB.okb.2];rfl⟩
 rw[show((3:Nat):Int)=3 from rfl]at el
 rcases hi with rfl|rfl
 ·obtain⟨b',n',e,h1,h2⟩:=z0a hk tl tr ha hI
  refine⟨best,b',n',fun q e' he=> ?_,h1,h2⟩
  show q0m 600 (q12 600 q) _ _ _ _ _ _ _ _ _ _=_
  unfold q0m
  rw[show((10:Nat):Int)=10 from rfl]at e⊢
  simp only[he,dT,cT,show((10:Int)==11)=false from rfl,show((10:Int)==12)=false from rfl,beq_self_eq_true,cF,show((1:Int)==2)=false from rfl,el,e,y5]
 ·obtain⟨b1,n1,b2,n2,b3,n3,e1,e2,e3,h1,h2,h3⟩:=zsf tl tr hk ha hI
  refine⟨best,b3,n3,fun q e' he=> ?_,h1,h2⟩
  show q0m 600 (q12 600 q) _ _ _ _ _ _ _ _ _ _=_
  unfold q0m
  rw[show((10:Nat):Int)=10 from rfl]at e1 e2 e3⊢
  simp only[he,dT,cT,show((10:Int)==11)=false from rfl,show((10:Int)==12)=false from rfl,beq_self_eq_true,cF,el,e1,e2,e3,y5]
def Redd(t:LI)(n:Int):Prop:=∀s,(∀i,i<16→(scT 11 t).getD (i*4) 0=s)→∀table times:Nat,table<16→times<16→n≤sumL true (s/8) times (tblE table) (scT 11 t) 0
theorem zsh{x3 b:LI}{n:Int}(hI:Inv 11 t b n)(i:Int):∃b' n',Rnd 11 t x3 b n i x3 b' n' ∧Inv 11 t b' n' ∧n' ≤n∧Redd t n' :=by
 have hk:Fmt 11:=by unfold Fmt;omega
 obtain⟨less,best,mid,el,⟨_,hB⟩,hD,_,hm⟩:=zlh (z08 (k:=11) tl) (q3f (qw3 (k:=11) tr) (by decide)) (c:=0) (by decide) true (fun h=>by cases h) i
 obtain⟨b',n',e,h1,h2,h3⟩:=zqt hk tl tr x3 b n hI hB.okb
 rw[zu1 hB]at h3
 rw[show((0:Nat):Int)=0 from rfl]at el
 refine⟨b',n',fun q e' he=> ?_,h1,h2,fun s hs table times ht1 ht2=> ?_⟩
 ·show q0m 600 (q12 600 q) _ _ _ _ _ _ _ _ _ _=_
  unfold q0m
  rw[show((11:Nat):Int)=11 from rfl]at e⊢
  simp only[he,dT,cT,beq_self_eq_true,el,e,y5]
 ·have hmid:=hm s hs
  rw[iP rfl]at hmid
  subst hmid
  have:=(hD table times ht1 ht2).2
  omega
theorem zsi{x3 b:LI}{n:Int}(hI:Inv 12 t b n)(i:Int):∃b' n',Rnd 12 t x3 b n i x3 b' n' ∧Inv 12 t b' n' ∧n' ≤n:=by
 have hk:Fmt 12:=by unfold Fmt;omega
 obtain⟨less,best,mid,el,⟨_,hB⟩,_⟩:=zlh (z08 (k:=12) tl) (q3f (qw3 (k:=12) tr) (by decide)) (c:=0) (by decide) true (fun h=>by cases h) i
 obtain⟨less2,best2,mid2,el2,⟨_,hB2⟩,_⟩:=zlh (z08 (k:=12) tl) (q3f (qw3 (k:=12) tr) (by decide)) (c:=1) (by decide) true (fun h=>by cases h) i
 obtain⟨b',n',e,h1,h2,h3⟩:=zqt hk tl tr x3 b n hI (zqj hB.okb hB2.okb)
 rw[show((0:Nat):Int)=0 from rfl]at el
 rw[show((1:Nat):Int)=1 from rfl]at el2
 refine⟨b',n',fun q e' he=> ?_,h1,h2⟩
 show q0m 600 (q12 600 q) _ _ _ _ _ _ _ _ _ _=_
 unfold q0m
 rw[show((12:Nat):Int)=12 from rfl]at e⊢
 simp only[he,dT,cT,show((12:Int)==11)=false from rfl,cF,beq_self_eq_true,el,el2,y5,hB.okb.2,hB2.okb.2,show decide (8+8≤1099511627776)=true from by decide,yd,e]
theorem zx6{k:Nat}(hk:Fmt k){b:LI}{n:Int}(hI:Inv k t b n):∃x1 b1 n1 x2 b2 n2,Rnd k t [] b n 1 x1 b1 n1∧Rnd k t x1 b1 n1 2 x2 b2 n2∧Inv k t b1 n1∧Inv k t b2 n2∧n1≤n∧n2≤n1∧
  (k=7∨k=8→∀tb w,tb<8→w<4→n2≤q9g k (solB t tb w) t)∧(k=11→Redd t n1):=by
 have zte:∀{k:Nat},Fmt k→q3g k=8→((k:Int)==11)=false→((k:Int)==12)=false→((k:Int)==10)=false→∀{b:LI} {n:Int},Inv k t b n→∃x1 b1 n1 x2 b2 n2,Rnd k t [] b n 1 x1 b1 n1∧Rnd k t x1 b1 n1 2 x2 b2 n2∧Inv k t b1 n1∧Inv k t b2 n2∧n1≤n∧n2≤n1∧
   (k=7∨k=8→∀tb w,tb<8→w<4→n2≤q9g k (solB t tb w) t)∧(k=11→Redd t n1):=by
  intro k hk h8 h11 h12 h10 b n hI
  obtain⟨b1,n1,r1,i1,l1,_⟩:=zx5 tl tr hk h8 h11 h12 h10 hI (.inl rfl)
  obtain⟨b2,n2,r2,i2,l2,g2⟩:=zx5 tl tr hk h8 h11 h12 h10 i1 (.inr rfl)
  exact⟨[],b1,n1,[],b2,n2,r1,r2,i1,i2,l1,l2,fun _=>g2 rfl,fun h=>by subst h;cases h11⟩
 rcases show k=7∨k=8∨k=9∨k=10∨k=11∨k=12 by unfold Fmt at hk;omega with rfl|rfl|rfl|rfl|rfl|rfl
 ·exact zte hk rfl rfl rfl rfl hI
 ·exact zte hk rfl rfl rfl rfl hI
 ·exact zte hk rfl rfl rfl rfl hI
 ·obtain⟨x1,b1,n1,r1,i1,l1⟩:=zsg tl tr (x3:=[]) hI (.inl rfl)
  obtain⟨x2,b2,n2,r2,i2,l2⟩:=zsg tl tr (x3:=x1) i1 (.inr rfl)
  exact⟨x1,b1,n1,x2,b2,n2,r1,r2,i1,i2,l1,l2,fun h=>by omega,fun h=>by omega⟩
 ·obtain⟨b1,n1,r1,i1,l1,g1⟩:=zsh tl tr (x3:=[]) hI 1
  obtain⟨b2,n2,r2,i2,l2,g2⟩:=zsh tl tr (x3:=[]) i1 2
  exact⟨[],b1,n1,[],b2,n2,r1,r2,i1,i2,l1,l2,fun h=>by omega,fun _=>g1⟩
 ·obtain⟨b1,n1,r1,i1,l1⟩:=zsi tl tr (x3:=[]) hI 1
  obtain⟨b2,n2,r2,i2,l2⟩:=zsi tl tr (x3:=[]) i1 2
  exact⟨[],b1,n1,[],b2,n2,r1,r2,i1,i2,l1,l2,fun h=>by omega,fun h=>by omega⟩
theorem zx7{k:Nat}(hk:Fmt k):∃b1 n1 b2 n2,q0l 600 (k:Int) t 0=some (qhh k (scT k t),q9g k (qhh k (scT k t)) t,0,())∧q0l 600 (k:Int) t 1=some (b1,n1,0,())∧q0l 600 (k:Int) t 2=some (b2,n2,0,())∧
  Inv k t b1 n1∧Inv k t b2 n2∧n1≤q9g k (qhh k (scT k t)) t∧n2≤n1∧(k=7∨k=8→∀tb w,tb<8→w<4→n2≤q9g k (solB t tb w) t)∧(k=11→Redd t n1):=by
 have hok:=zl9 (scT k t) hk
 obtain⟨x1,b1,n1,x2,b2,n2,r1,r2,i1,i2,l1,l2,g1,g2⟩:=zx6 tl tr hk (b:=qhh k (scT k t)) (n:=q9g k (qhh k (scT k t)) t) ⟨hok,rfl⟩
 have h7:¬(k:Int)<7:=by unfold Fmt at hk;omega
 have h12:¬(12:Int)<(k:Int):=by unfold Fmt at hk;omega
 have e:∀a2:Int,0≤a2→a2≤2→q0l 600 (k:Int) t a2=(q12 600 600 (k:Int) a2 t [] (qhh k (scT k t)) (k:Int) t (q9g k (qhh k (scT k t)) t) (scT k t) 1).bind fun r=>some (r.2.1,r.2.2.2.2.1,(0:Int),()):=by
  intro a2 h0 h2
  unfold q0l
  rw[zh7 hk tl tr (zhb tl tr)]
  simp only[qwu hok.1 hk hok.2 tl tr,zl1 hk tl tr,h7,h12,dF,cF,y5,bne_self_eq_false,show¬a2<0 by omega,show¬2<a2 by omega]
 have stop:∀q (a2 x:Int) x3 b n,a2<x→q12 600 (q+1) (k:Int) a2 t x3 b (k:Int) t n (scT k t) x=some (x3,b,(k:Int),t,n,()):=by
  intro q a2 x x3 b n h
  show q0m 600 (q12 600 q) _ _ _ _ _ _ _ _ _ _=_
  unfold q0m
  simp only[show¬x≤a2 by omega,dF,cF]
 refine⟨b1,n1,b2,n2,?_,?_,?_,i1,i2,l1,l2,g1,g2⟩
 ·rw[e 0 (by decide) (by decide),stop 599 0 1 _ _ _ (by decide)]
  rfl
 ·rw[e 1 (by decide) (by decide),r1 599 1 (by decide),show y0 .i64 (1+1)=2 from rfl,stop 598 1 2 _ _ _ (by decide)]
  rfl
 ·rw[e 2 (by decide) (by decide),r1 599 2 (by decide),show y0 .i64 (1+1)=2 from rfl,r2 598 2 (by decide),show y0 .i64 (2+1)=3 from rfl,stop 597 2 3 _ _ _ (by decide)]
  rfl
end
def q3c(A:LI)(tb w:Nat)(c:Nat):Int:=if c=3 then 255 else q0u (q0n 5 (A.getD c 0)+(qey tb).getD w 0)
theorem zoy{A:LI}(hl:A.length=3){tb w:Nat}(htb:tb<8)(hw:w<4):qck true false A [0,0,0] [(tb:Int),(tb:Int)] (q37 (w:Int))=oneT (q3c A tb w):=by
 rw[qi5 (qqm true false A [0,0,0] [(tb:Int),(tb:Int)] (q37 (w:Int)))]
 unfold oneT
 refine q0b fun j hj=> ?_
 rw[←zq8,show((qck true false A [0,0,0] [(tb:Int),(tb:Int)] (q37 (w:Int))).drop (j/4*4)).take 4=zg4 (q1l true A [0,0,0]) [(tb:Int),(tb:Int)] (q37 (w:Int)) false (j/4)from qmc _ (fun _ _=>rfl) (by omega)]
 have hh:=qoq false ((j/4:Nat):Int)
 have hs:q2p false ((j/4:Nat):Int)=0∨q2p false ((j/4:Nat):Int)=1:=by omega
 have h8:((tb:Int)%8).toNat=tb:=by omega
 have h4:((w:Int)%4).toNat=w:=by omega
 have ha:zkm [(tb:Int),(tb:Int)] (q37 (w:Int)) false (j/4)=(qey tb).getD w 0:=by
  unfold zkm
  rw[qhf (w:Int) (by omega),h4]
  have ht:([(tb:Int),(tb:Int)]:LI).getD (q2p false ((j/4:Nat):Int)) 0=(tb:Int):=by
   rcases hs with h0|h0<;>rw[h0]<;>rfl
  rw[ht,h8]
 have hz:∀x:Int,x+0=x:=Int.add_zero
 unfold zg4 q3c
 rw[ha]
 generalize (qey tb).getD w 0=m
 have hc:j%4=0∨j%4=1∨j%4=2∨j%4=3:=by omega
 have b0:n10 true A [0,0,0] 0=A.getD 0 0:=hz _
 have b1:n10 true A [0,0,0] 1=A.getD 1 0:=hz _
 have b2:n10 true A [0,0,0] 2=A.getD 2 0:=hz _
 unfold q1l
 rw[b0,b1,b2]
 rcases hs with h0|h0<;>rcases hc with h5|h5|h5|h5<;>rw[h5,h0]<;>rfl
theorem qg1(A:LI)(tb w c:Nat):0≤q3c A tb w c∧q3c A tb w c≤255:=by
 unfold q3c
 split
 ·decide
 ·exact q0z _
theorem solB_dec(t:LI){tb w:Nat}(htb:tb<8)(hw:w<4):zch (solB t tb w)=oneT (q3c (tab 3 fun c=>(solA t tb w c:Int)) tb w)∧tab 64 (qf5 (solB t tb w) false)=oneT (q3c (tab 3 fun c=>(solA t tb w c:Int)) tb w):=by
 have h:=zvt (f:=false) (zx3 t htb hw) (q1y _ _) rfl rfl (z2p _)
 have e:zch (solB t tb w)=qck true false (tab 3 fun c=>(solA t tb w c:Int)) [0,0,0] [(tb:Int),(tb:Int)] (q37 (w:Int)):=by
  unfold eP at h
  simp only[ym]at h
  obtain⟨h1,h2,h3,h4,h5,h6,_⟩:=h
  unfold zch solB
  rw[h5,h6,h3,h4,h1,h2]
 rw[zoy (q1y _ _) htb hw]at e
 refine⟨e,?_⟩
 rw[←e]
 refine dec_old ?_
 unfold eP at h
 simp only[ym]at h
 obtain⟨h1,h2,h3,h4,h5,h6,_⟩:=h
 unfold solB
 rw[h3,h4,h1]
 have hc:∀c,c<3→¬qbf (tab 3 fun c=>(solA t tb w c:Int)) [0,0,0] c:=fun c hc=>by
  have h0:([0,0,0]:LI).getD c 0=0:=by
   have:=(T3.nil (a:=0) (z:=0) (by decide)).2 c
   omega
  have:=zqu t tb w c
  unfold qbf n10
  rw[iP rfl,q7o hc,h0]
  omega
 unfold qlf
 rw[iP rfl,iN (hc 0 (by decide)),iN (hc 1 (by decide)),iN (hc 2 (by decide))]
theorem zx8{A:LI}(hA:∀c,c<3→0≤A.getD c 0∧A.getD c 0≤31){tb w:Nat}(htb:tb<8)(hw:w<4){k:Nat}(hk:k=7∨k=8):q9g k (solB (oneT (q3c A tb w)) tb w) (oneT (q3c A tb w))=0:=by
 have hrt:Rg 255 (oneT (q3c A tb w)):=zd5 (by decide) fun c _=>qg1 A tb w c
 have hru:Rg 255 (oneT (q3c (tab 3 fun c=>(solA (oneT (q3c A tb w)) tb w c:Int)) tb w)):=zd5 (by decide) fun c _=>qg1 _ tb w c
 have hd:=solB_dec (oneT (q3c A tb w)) htb hw
 have key:errS 7 (oneT (q3c A tb w)) (oneT (q3c (tab 3 fun c=>(solA (oneT (q3c A tb w)) tb w c:Int)) tb w))=0:=by
  rw[zo9 (q3f hrt (by decide)) (q3f hru (by decide))]
  intro j hj hb
  rw[qqo _ hj,qqo _ hj]
  have hc:j%4<3:=by
   by_cases h3:j%4=3
   ·rw[h3]at hb
    cases hb
   ·omega
  generalize j%4=c at hc
  have hz:sqS (oneT (q3c A tb w)) c (q3c A tb w c)=0:=by
   unfold sqS
   rw[z2l fun i _=>sqN _]
   intro i hi
   rw[qqo _ (by omega),show(i*4+c)%4=c by omega,Int.sub_self]
   rfl
  have hl:=zcy (fun v=>sqS (oneT (q3c A tb w)) c (q0u (q0n 5 (v:Int)+(qey tb).getD w 0))) (n:=32) (i:=(A.getD c 0).toNat) (by have:=hA c hc;omega)
  have e1:q0u (q0n 5 (((A.getD c 0).toNat:Nat):Int)+(qey tb).getD w 0)=q3c A tb w c:=by
   unfold q3c
   rw[iN (by omega),Int.toNat_of_nonneg (hA c hc).1]
  simp only[e1,hz]at hl
  have e2:q3c (tab 3 fun c=>(solA (oneT (q3c A tb w)) tb w c:Int)) tb w c=q0u (q0n 5 (solA (oneT (q3c A tb w)) tb w c:Int)+(qey tb).getD w 0):=by
   unfold q3c
   rw[iN (by omega),q7o hc]
  have hn:0≤sqS (oneT (q3c A tb w)) c (q3c (tab 3 fun c=>(solA (oneT (q3c A tb w)) tb w c:Int)) tb w c):=(q98 (m:=255*255) fun i _=>qcb (m:=255) (by
   have h1:=hrt (i*4+c)
   have h2:=qg1 (tab 3 fun c=>(solA (oneT (q3c A tb w)) tb w c:Int)) tb w c
   omega)).1
  rw[e2]at hn⊢
  have h0:sqS (oneT (q3c A tb w)) c (q0u (q0n 5 (solA (oneT (q3c A tb w)) tb w c:Int)+(qey tb).getD w 0))=0:=Int.le_antisymm hl hn
  unfold sqS at h0
  rw[z2l fun i _=>sqN _]at h0
  have h1:=sq_zero.1 (h0 0 (by decide))
  rw[qqo _ (by omega),show(0*4+c)%4=c by omega]at h1
  omega
 rcases hk with rfl|rfl
 ·show errS 7 (oneT (q3c A tb w)) (zch _)=0
  rw[hd.1]
  exact key
 ·show errS 7 (oneT (q3c A tb w)) (tab 64 (qf5 _ false))=0
  rw[hd.2]
  exact key
theorem zr0(w:Int)(A B T:LI):q87 600 600 w q5d A B T q01 0=some (q5d,A,B,T,q37 w,()):=by
 obtain⟨r,rfl,e⟩:=q0f (N:=16) (by decide) (fun q (s:LI) i=>q87 600 q w q5d A B T s i) (fun i s=>s=tab 16 (upT i fun _=>w)) (fun r=>r=(q5d,A,B,T,q37 w,()))
  (fun q i s hi hs=>by
   subst hs
   have h3:(i:Int)<16:=by omega
   have e1:(tab 16 (upT i fun _=>w)).set i w=tab 16 (upT (i+1) fun _=>w):=zkh (fun _=>w)
   refine⟨_,rfl,?_⟩
   show qgf 600 (q87 600 q) _ _ _ _ _ _ _=_
   unfold qgf
   simp only[h3,dT,cT,yc,yd,yb,e1,q0a (show i<1000000000000 by omega)])
  (fun q s hs=>⟨_,rfl,by subst hs;rw[zki];rfl⟩) (s:=q01) (by rw[z83];rfl)
 exact e
theorem Held_ok{A:LI}(hl:A.length=3){tb w:Nat}(htb:tb<8)(hw:w<4)(hA:∀c,c<3→0≤A.getD c 0∧A.getD c 0≤31):qjm 600 A (tb:Int) (w:Int)=some (oneT (q3c A tb w),true,()):=by
 have hok:Ok10 true A [0,0,0] [(tb:Int),(tb:Int)] (q37 (w:Int)):=by
  refine⟨fun c hc=> ?_,fun i hi=> ?_,?_,?_⟩
  ·rw[iP rfl]
   have:=(T3.nil (a:=0) (z:=0) (by decide)).2 c
   exact⟨hA c hc,by omega⟩
  ·rw[qhf _ hi]
   omega
  ·show 0≤(tb:Int)∧(tb:Int)≤7
   omega
  ·show 0≤(tb:Int)∧(tb:Int)≤7
   omega
 unfold qjm
 rw[zr0]
 simp only[y5]
 rw[zs2 (by decide)]
 simp only[y5,hok,dT,Bool.not_true,cF]
 rw[z00 (by decide) true false (hok.fair hl rfl) (hok.which (z2p _)),zoy hl htb hw]
 rfl
theorem held_fit{A:LI}(hA:∀c,c<3→0≤A.getD c 0∧A.getD c 0≤31){tb w:Nat}(htb:tb<8)(hw:w<4){k:Nat}(hk:k=7∨k=8):∃b,q0l 600 (k:Int) (oneT (q3c A tb w)) 2=some (b,0,0,())∧Okb 8 b∧q9g k b (oneT (q3c A tb w))=0:=by
 have hkf:Fmt k:=by unfold Fmt;omega
 have hrt:Rg 255 (oneT (q3c A tb w)):=zd5 (by decide) fun c _=>qg1 A tb w c
 obtain⟨b1,n1,b2,n2,_,_,e,_,i2,_,_,g,_⟩:=zx7 (t:=oneT (q3c A tb w)) (q1y _ _) hrt hkf
 have h1:=g hk tb w htb hw
 rw[zx8 hA htb hw hk]at h1
 have h2:=z5j hkf i2.1.1 hrt
 have h3:=i2.2
 have h0:n2=0:=by omega
 rw[h0]at e
 exact⟨b2,e,by rcases hk with rfl|rfl<;>exact i2.1,by omega⟩
theorem zr1:((w8 32).all fun v=>q0u (q0n 5 (v:Int)+2) !=q3c [10,20,5] 3 2 0)=true:=by kernel_rfl
theorem zr2:0<q9g 7 (qhh 7 (scT 7 (oneT (q3c [10,20,5] 3 2)))) (oneT (q3c [10,20,5] 3 2)):=by
 have hk:Fmt 7:=by unfold Fmt;omega
 have hrt:Rg 255 (oneT (q3c [10,20,5] 3 2)):=zd5 (by decide) fun c _=>qg1 _ 3 2 c
 have ob:=zl9 (scT 7 (oneT (q3c [10,20,5] 3 2))) hk
 have h0:=z5j hk ob.1 hrt
 by_cases hz:q9g 7 (qhh 7 (scT 7 (oneT (q3c [10,20,5] 3 2)))) (oneT (q3c [10,20,5] 3 2))=0
 ·exfalso
  unfold q9g at hz
  rw[zo9 (q3f (qw3 (k:=7) hrt) (by decide)) (q3f (z8b ob.1 hk) (by decide))]at hz
  have h1:=hz 0 (by decide) rfl
  rw[dec_blk _ hk,qqo _ (by decide)]at h1
  have h2:(scT 7 (oneT (q3c [10,20,5] 3 2))).getD 0 0=q3c [10,20,5] 3 2 0:=by
   show(oneT (q3c [10,20,5] 3 2)).getD 0 0=_
   rw[qqo _ (by decide)]
  rw[h2]at h1
  have h3:col14 7 (scT 7 (oneT (q3c [10,20,5] 3 2))) (0%4)=q0u (q0n 5 ((liN (scT 7 (oneT (q3c [10,20,5] 3 2)))).getD 0 0)+2):=by
   show liC _ 0=_
   unfold liC
   rw[iN (by decide)]
  rw[h3]at h1
  have hb:0≤(liN (scT 7 (oneT (q3c [10,20,5] 3 2)))).getD 0 0∧(liN (scT 7 (oneT (q3c [10,20,5] 3 2)))).getD 0 0≤31:=by
   unfold liN
   rw[q7o (by decide)]
   exact bN_L _ _
  obtain⟨v,hv⟩:∃v:Nat,(liN (scT 7 (oneT (q3c [10,20,5] 3 2)))).getD 0 0=(v:Int):=⟨((liN (scT 7 (oneT (q3c [10,20,5] 3 2)))).getD 0 0).toNat,by omega⟩
  rw[hv]at h1 hb
  have hc:=List.all_eq_true.1 zr1 v (List.mem_range.2 (by omega))
  rw[bne_iff_ne]at hc
  exact hc h1.symm
 ·omega
theorem zsj{f:Int}(h:¬(7≤f∧f≤12))(t:LI)(e:Int):q0l 600 f t e=some ([],0,5,()):=by
 unfold q0l
 by_cases h7:f<7
 ·simp only[h7,dT,cT]
 ·simp only[h7,show 12<f by omega,dT,dF,cT,cF]
theorem Fit_no(t:LI):q0l 600 1 t 1=some ([],0,5,()):=zsj (by decide) t 1
theorem zu2:qjm 600 [10,20,5] 3 2=some (oneT (q3c [10,20,5] 3 2),true,()):=
 Held_ok (A:=[10,20,5]) rfl (tb:=3) (w:=2) (by decide) (by decide) (by decide)
theorem zx9:∃b:LI,q0l 600 7 (oneT (q3c [10,20,5] 3 2)) 2=some (b,0,0,())∧b.length=8:=by
 obtain⟨b,e1,ob,_⟩:=held_fit (A:=[10,20,5]) (by decide) (tb:=3) (w:=2) (by decide) (by decide) (k:=7) (.inl rfl)
 exact⟨b,e1,ob.2⟩
theorem zu3:∃(b:LI) (n:Int),q0l 600 7 (oneT (q3c [10,20,5] 3 2)) 0=some (b,n,0,())∧0<n:=by
 obtain⟨_,_,_,_,e2,_⟩:=zx7 (t:=oneT (q3c [10,20,5] 3 2)) (q1y _ _) (zd5 (by decide) fun c _=>qg1 _ 3 2 c) (k:=7) (by unfold Fmt;omega)
 exact⟨_,_,e2,zr2⟩
theorem awake_of{T b b0:LI}{n:Int}(h0:qjm 600 [10,20,5] 3 2=some (T,true,()))(e1:q0l 600 7 T 2=some (b,0,0,()))(hb:b.length=8)(e2:q0l 600 7 T 0=some (b0,n,0,()))(hn:0<n)(e3:q0l 600 1 T 1=some ([],0,5,())):qk5 600=some (true,()):=by
 unfold qk5
 rw[h0]
 simp only[y5]
 rw[e1,e2,e3]
 simp only[y5,hb,hn,dT,cT,beq_self_eq_true,show(((8:Nat):Int)==8)=true from rfl]
theorem awake16:qk5 600=some (true,()):=by
 obtain⟨b,e1,hb⟩:=zx9
 obtain⟨b0,n,e2,hn⟩:=zu3
 exact awake_of zu2 e1 hb e2 hn (Fit_no _)
theorem Fit_wild{k:Nat}(hk:Fmt k){t:LI}(hb:q8y 600 t=some (false,()))(e:Int):q0l 600 (k:Int) t e=some ([],0,1,()):=by
 have h7:¬(k:Int)<7:=by unfold Fmt at hk;omega
 have h12:¬(12:Int)<(k:Int):=by unfold Fmt at hk;omega
 unfold q0l qnu
 rw[zkz 600 hk,hb]
 simp only[h7,h12,dF,cF,y5,bne_self_eq_false,Bool.not_false,cT,show((1:Int) !=0)=true from rfl]
theorem zu4{k:Nat}(hk:Fmt k){t:LI}(tl:t.length=64)(tr:Rg 255 t){e:Int}(he:e<0∨2<e):q0l 600 (k:Int) t e=some ([],0,1,()):=by
 have h7:¬(k:Int)<7:=by unfold Fmt at hk;omega
 have h12:¬(12:Int)<(k:Int):=by unfold Fmt at hk;omega
 unfold q0l
 rw[zh7 hk tl tr (zhb tl tr)]
 simp only[h7,h12,dF,cF,y5,bne_self_eq_false]
 by_cases h0:e<0
 ·simp only[h0,dT,cT]
 ·simp only[h0,show 2<e by omega,dT,dF,cT,cF]
theorem zxa(f:Int){t:LI}(tl:t.length=64)(e:Int):(∃x:Int,x≠0∧qgz 600 f t e 7 12=some (x,())∧q0l 600 f t e=some ([],0,x,()))∨
  (∃k:Nat,Fmt k∧f=(k:Int)∧Rg 255 t∧(e=0∨e=1∨e=2)∧qgz 600 f t e 7 12=some (0,())):=by
 by_cases hf:7≤f∧f≤12
 ·obtain⟨k,hk,rfl⟩:=fmt_of hf
  have h7:¬(k:Int)<7:=by omega
  have h12:¬(12:Int)<(k:Int):=by omega
  rcases zg6 tl with⟨hb,tr⟩|hb
  ·by_cases he:e<0∨2<e
   ·refine .inl ⟨1,by decide,?_,zu4 hk tl tr he⟩
    unfold qgz
    rw[hb]
    simp only[h7,h12,dF,cF,y5,Bool.not_true]
    by_cases h0:e<0
    ·simp only[h0,dT,cT]
    ·simp only[h0,show 2<e by omega,dT,dF,cT,cF]
   ·refine .inr ⟨k,hk,rfl,tr,by omega,?_⟩
    unfold qgz
    rw[hb]
    simp only[h7,h12,dF,cF,y5,Bool.not_true,show¬e<0 by omega,show¬2<e by omega]
  ·have hb2:q8y 600 t=some (false,()):=by
    rcases zl8 tl with⟨h,tr⟩|h
    ·rw[zd8 tl tr]at hb
     cases hb
    ·exact h
   refine .inl ⟨1,by decide,?_,Fit_wild hk hb2 e⟩
   unfold qgz
   rw[hb]
   simp only[h7,h12,dF,cF,y5,Bool.not_false,cT]
 ·refine .inl ⟨5,by decide,?_,zsj hf t e⟩
  unfold qgz
  by_cases h7:f<7
  ·simp only[h7,dT,cT]
  ·simp only[h7,show 12<f by omega,dT,dF,cT,cF]
theorem law16_EtcfitLess_true(f:Int)(t:LI)(_:IntKind.i64.has f)(ht:t.length=64∧∀x∈t,IntKind.i64.has x):∃F,qhn F f t=some (true,()):=by
 refine⟨600,?_⟩
 unfold qhn
 rw[awake16]
 simp only[y5]
 rcases zxa f ht.1 0 with⟨x,hx,hm,hF⟩|⟨k,hk,rfl,tr,he,hm⟩
 ·rw[hm]
  simp only[y5,bneT hx,cT]
 ·obtain⟨b1,n1,b2,n2,e0,e1,e2,i1,i2,l1,l2,_⟩:=zx7 ht.1 tr hk
  have ob:=zl9 (scT k t) hk
  have hs:=Same_is (F:=600) (qhh k (scT k t)) (by have:=qwr k;rw[ob.2];omega) (by decide)
  rw[hm]
  simp only[y5,bne_self_eq_false,cF,e0,e1,e2,zqr ht.1 tr hk,hs,beq_self_eq_true,cT,l1,l2,dT]
end Go.AE.Gn

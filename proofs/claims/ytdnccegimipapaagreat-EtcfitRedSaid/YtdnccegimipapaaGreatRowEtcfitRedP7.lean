/- A part of the proof, put together of my texts: PureX, Pure16a, Pure16b, Pure16c, Pure16d, Pure16e, Pure16f, Pure16g. -/
import Derived.Test.YtdnccegimipapaaGreatRowEtcfitRedP6
set_option linter.unusedSimpArgs false
set_option linter.unusedVariables false
set_option linter.unusedSectionVars false
open List renaming getD_eq_getElem?_getD → ye, getElem?_eq_none → w7, take → y8, drop → y9, getD_cons_zero → yt, getD_cons_succ → yu, mem_cons → yr, mem_append → yk, length_append → yo, range → yz
open Int renaming natCast_nonneg → yc, toNat_natCast → yb, cast_ofNat_Int → yp, natCast_zero → yq, tdiv → yw, natCast_pow → w9, toNat → y6, tmod → yv, eq_ofNat_of_zero_le → yh
open Bool renaming and_self → yd, false_eq_true → yn
open Option renaming bind_some → y5
open Go.IntKind renaming wrap → y0
open Nat renaming le_refl → w8
open Prod.mk renaming injEq → ym
namespace Go.AE.Gn
open Go Go.AE
def Rg(m:Int)(l:LI):Prop:=∀j,0≤l.getD j 0∧l.getD j 0≤m
theorem zpt{l:LI}{j:Nat}(h:l.length≤j):l.getD j 0=0:=by
 rw[ye,w7 h]
 rfl
theorem qdm{m:Int}{N:Nat}{g:Nat→Int}(hm:0≤m)(h:∀j,j<N→0≤g j∧g j≤m):Rg m (tab N g):=by
 intro j
 by_cases hj:j<N
 ·rw[q77 hj]
  exact h j hj
 ·rw[zpt (by rw[q21];omega)]
  omega
theorem q4a{m m' :Int}{l:LI}(h:Rg m l)(hm:m≤m'):Rg m' l:=fun j=>⟨(h j).1,Int.le_trans (h j).2 hm⟩
theorem qfn{m:Int}{a b:LI}(ha:Rg m a)(hb:Rg m b):Rg m (a++b):=by
 intro j
 simp only[ye,List.getElem?_append]
 split
 ·have:=ha j
  simpa[ye]using this
 ·have:=hb (j-a.length)
  simpa[ye]using this
theorem q2i{m x:Int}{a:LI}(hx:0≤x∧x≤m)(ha:Rg m a):Rg m (x::a):=by
 intro j
 cases j with
 |zero=>simpa using hx
 |succ j=>simpa using ha j
theorem qtd{m:Int}(hm:0≤m):Rg m []:=fun j=>by simp[hm]
theorem rg_tex10(d f:Bool)(A B T W:LI)(i:Nat):Rg 255 (zb4 (q1h d A B) T W f i):=
 q2i (q0y _) (q2i (q0y _) (q2i (q0y _) (q2i (qha d A B _) (qtd (by decide)))))
theorem zjs{l:LI}{j:Nat}:((l.drop (j/4*4)).take 4).getD (j%4) 0=l.getD j 0:=by
 simp only[ye,List.getElem?_take,List.getElem?_drop]
 rw[iP (by omega)]
 congr 2
 omega
theorem zc2(d f:Bool)(A B T W:LI):Rg 255 (qbb d f A B T W):=by
 intro j
 by_cases hj:j<64
 ·rw[←zjs,show((qbb d f A B T W).drop (j/4*4)).take 4=zb4 (q1h d A B) T W f (j/4)from qk6 _ (fun _ _=>rfl) (by omega)]
  exact rg_tex10 d f A B T W _ _
 ·rw[zpt (by rw[qoa];omega)]
  decide
theorem qfo(x y z:Int):Rg 255 (qal x y z):=q2i (q1u (by decide) _) (q2i (q1u (by decide) _) (q2i (q1u (by decide) _) (q2i (by decide) (qtd (by decide)))))
theorem z0g{l:LI}(h:Rg 255 l)(n:Int):Rg 255 (addV l n):=q2i (q0y _) (q2i (q0y _) (q2i (q0y _) (q2i (h 3) (qtd (by decide)))))
theorem rg_fourT(b:LI):Rg 255 (qgh b):=qfn (qfo _ _ _) (qfn (z0g (qfo _ _ _) _) (qfn (qfo _ _ _) (z0g (qfo _ _ _) _)))
theorem rg_fourH(b:LI):Rg 255 (qec b):=qfn (z0g (qfo _ _ _) _) (qfn (z0g (qfo _ _ _) _) (qfn (z0g (qfo _ _ _) _) (z0g (qfo _ _ _) _)))
theorem qwq(b:LI)(p:Bool)(j:Nat):0≤qdo b p j∧qdo b p j≤255:=by
 unfold qdo zF
 split
 ·decide
 ·unfold zhw
  split
  ·unfold z8e qo9
   split
   ·exact qha _ _ _ _
   ·exact zc2 _ _ _ _ _ _ j
  ·split
   ·exact rg_fourT b _
   ·split
    ·exact rg_fourH b _
    ·unfold qwm q5s
     split
     ·decide
     ·exact q0y _
def eacL(b:LI)(wide:Bool):LI:=match q3y 600 (hv b 12 4)with
 |some (l,_)=>eacD (hv b 0 8) (hv b 8 4) l (eacW b) wide
 |none=>[]
theorem zpu{b:LI}(hb:Bytes b)(hl:b.length=8)(wide:Bool):qhn 600 b wide=some (eacL b wide,0,()):=by
 obtain⟨tbl,h1,_,h3⟩:=zf5 600 (n:=hv b 12 4) (by have:=q0x b 12 4;omega)
 rw[zjr (by decide) hb hl wide h1 h3]
 unfold eacL
 rw[h1]
theorem zf7(b:LI)(wide:Bool):Rg (if wide then 2047 else 255) (eacL b wide):=by
 have hm:(0:Int)≤if wide then 2047 else 255:=by cases wide<;>decide
 cases hT:q3y 600 (hv b 12 4)with
 |none=>simp only[eacL,hT];exact qtd hm
 |some p=>simp only[eacL,hT];exact qdm (N:=16) hm fun j _=>z1j _ _ _ _
def wT(c:Nat)(l t:LI):LI:=tab 64 fun j=>if j%4=c then l.getD (j/4) 0 else t.getD j 0
theorem wT_len(c:Nat)(l t:LI):(wT c l t).length=64:=q21 _ _
theorem rg_wT{m:Int}(hm:0≤m){c:Nat}{l t:LI}(hl:Rg m l)(ht:Rg m t):Rg m (wT c l t):=qdm hm fun j _=>by
 split
 ·exact hl _
 ·exact ht _
def upW(c i:Nat)(l t:LI)(j:Nat):Int:=if j%4=c∧j/4<i then l.getD (j/4) 0 else t.getD j 0
theorem zpv{c i:Nat}(hc:c<4)(hi:i<16)(l t:LI):(tab 64 (upW c i l t)).set (i*4+c) (l.getD i 0)=tab 64 (upW c (i+1) l t):=by
 rw[z80]
 refine q0a fun j hj=> ?_
 unfold upW
 by_cases h:j=i*4+c
 ·subst h
  rw[iP rfl,iP (by omega),show(i*4+c)/4=i by omega]
 ·rw[iN h]
  by_cases h2:j%4=c∧j/4<i
  ·rw[iP h2,iP (by omega)]
  ·rw[iN h2,iN (by omega)]
theorem zjt{c:Nat}(hc:c<4)(l t T:LI):∀(d i k:Nat),i+d=16→d<k→q8a 600 k c (tab 64 (upW c i l t)) T l (i:Int)=some (tab 64 (upW c 16 l t),T,()):=by
 intro d
 induction d with
 |zero=>
  intro i k h1 h2
  obtain⟨k,rfl⟩:∃k',k=k' +1:=⟨k-1,by omega⟩
  obtain rfl:i=16:=by omega
  rfl
 |succ d ih=>
  intro i k h1 h2
  obtain⟨k,rfl⟩:∃k',k=k' +1:=⟨k-1,by omega⟩
  show qce 600 (q8a 600 k) c (tab 64 (upW c i l t)) T l i=_
  unfold qce
  have h3:(i:Int)<16:=by omega
  have h4:(c:Int)<4:=by omega
  simp only[h3,h4,dT,cT,yc,yd,yb,zpv hc (show i<16 by omega),q0d (show i<1000000000000 by omega)]
  exact ih (i+1) k (by omega) (by omega)
theorem zpw{c:Nat}(hc:c<4){l t:LI}(ht:t.length=64)(e:Int):qi3 600 t c l e=some (wT c l t,()):=by
 have h:=zjt hc l t q60 16 0 600 (by omega) (by omega)
 have e0:tab 64 (upW c 0 l t)=t:=by
  conv=>rhs;rw[qge ht]
  exact q0a fun j hj=>by unfold upW;rw[iN (by omega)]
 have e1:tab 64 (upW c 16 l t)=wT c l t:=q0a fun j hj=>by
  unfold upW
  by_cases h2:j%4=c
  ·rw[iP h2,iP (by omega)]
  ·rw[iN h2,iN (by omega)]
 rw[e0,e1]at h
 unfold qi3
 rw[show((0:Nat):Int)=0 from rfl]at h
 rw[h]
 rfl
def qmf(a:Int):LI:=tab 64 fun j=>if j%4=3 then a else 0
theorem qu0(a:Int):(qmf a).length=64:=q21 _ _
theorem blank_is:q97 600 false=some (qmf 255,())∧q97 600 true=some (qmf 2047,()):=by constructor<;>kernel_rfl
theorem zi1{m a:Int}(h:0≤a∧a≤m):Rg m (qmf a):=qdm (by omega) fun j _=>by
 split<;>omega
def q41(k:Nat):Nat:=match k with|1|4|7|8|9|11=>8|_=>16
def qmg(k:Nat):Int:=match k with|1|7|8=>7|2|3|6|9|10=>15|4|11=>1|_=>3
def qyn(k:Nat):Bool:=match k with|11|12=>true|_=>false
def z1k(k:Nat):Int:=if qyn k then 2047 else 255
def Fmt(k:Nat):Prop:=7≤k∧k≤12
theorem qj3{p:Nat→Prop}(h7:p 7)(h8:p 8)(h9:p 9)(h10:p 10)(h11:p 11)(h12:p 12){k:Nat}(h:Fmt k):p k:=by
 obtain⟨a,b⟩:=h
 have:k=7∨k=8∨k=9∨k=10∨k=11∨k=12:=by omega
 rcases this with rfl|rfl|rfl|rfl|rfl|rfl<;>assumption
theorem zn4(F:Nat){k:Nat}(h:Fmt k):q96 F (k:Int)=some (((q41 k:Int),qmg k,qyn k,()),0,()):=by
 refine qj3 (p:=fun k=>q96 F (k:Int)=some (((q41 k:Int),qmg k,qyn k,()),0,())) ?_ ?_ ?_ ?_ ?_ ?_ h<;>rfl
theorem Of_bad(F:Nat){f:Int}(h:¬(1≤f∧f≤12)):q96 F f=some ((0,0,false,()),5,()):=by
 have hn:∀c:Int,1≤c→c≤12→(f==c)=false:=fun c h1 h2=>beqF (by omega)
 unfold q96
 rw[hn 1 (by decide) (by decide),hn 7 (by decide) (by decide),hn 8 (by decide) (by decide),hn 2 (by decide) (by decide),hn 3 (by decide) (by decide),hn 6 (by decide) (by decide),hn 10 (by decide) (by decide),hn 9 (by decide) (by decide),hn 4 (by decide) (by decide),hn 11 (by decide) (by decide),hn 5 (by decide) (by decide),hn 12 (by decide) (by decide)]
 rfl
def lo13(b:LI):LI:=b.take 8
def hi13(b:LI):LI:=(b.drop (b.length-8)).take 8
theorem qmh{b:LI}(hb:Bytes b):Bytes (lo13 b):=fun x hx=>hb x (List.mem_of_mem_take hx)
theorem qu1{b:LI}(hb:Bytes b):Bytes (hi13 b):=fun x hx=>hb x (List.mem_of_mem_drop (List.mem_of_mem_take hx))
theorem z47{b:LI}(h:8≤b.length):(lo13 b).length=8:=by simp[lo13];omega
theorem zf8{b:LI}(h:8≤b.length):(hi13 b).length=8:=by simp[hi13];omega
theorem lo13_8{b:LI}(h:b.length=8):lo13 b=b:=List.take_of_length_le (by omega)
theorem z0h(k:Nat):8≤q41 k∧q41 k≤16:=by
 unfold q41
 split<;>decide
def qmi(k:Nat)(b:LI):LI:=match k with
 |7=>z86 b
 |8=>tab 64 (qdo b false)
 |9=>tab 64 (qdo b true)
 |10=>wT 3 (eacL (lo13 b) false) (tab 64 (qdo (hi13 b) false))
 |11=>wT 0 (eacL (lo13 b) true) (qmf 2047)
 |_=>wT 1 (eacL (hi13 b) true) (wT 0 (eacL (lo13 b) true) (qmf 2047))
theorem z48{b:LI}(hb:Bytes b){k:Nat}(h:Fmt k):Rg (z1k k) (qmi k b):=by
 have hlo:=qmh hb
 have hhi:=qu1 hb
 refine qj3 (p:=fun k=>Rg (z1k k) (qmi k b)) ?_ ?_ ?_ ?_ ?_ ?_ h
 ·exact zc2 _ _ _ _ _ _
 ·exact qdm (by decide) fun j _=>qwq _ _ _
 ·exact qdm (by decide) fun j _=>qwq _ _ _
 ·exact rg_wT (by decide) (zf7 _ false) (qdm (by decide) fun j _=>qwq _ _ _)
 ·exact rg_wT (by decide) (zf7 _ true) (zi1 (by decide))
 ·exact rg_wT (by decide) (zf7 _ true) (rg_wT (by decide) (zf7 _ true) (zi1 (by decide)))
theorem ql3{b t:LI}(hb:Bytes b)(hl:b.length=8)(ht:t.length=64){c:Nat}(hc:c<4)(x y:Int):q2k 600 t c b x y true=some (wT c (eacL b true) t,()):=by
 unfold q2k qfw
 simp only[cT,zpu hb hl,y5,zpw hc ht]
section
variable {b:LI}
theorem d13_7(hb:Bytes b)(hl:b.length=8)(x):q0t 600 7 x (lo13 b) (hi13 b) b=some (qmi 7 b,0,()):=by
 have h:=(z87 (F:=600) (by decide) hb hl).1
 unfold q0t
 simp only[Int.reduceBEq,cT,cF,h,y5]
 rfl
theorem d13_8(hb:Bytes b)(hl:b.length=8)(x):q0t 600 8 x (lo13 b) (hi13 b) b=some (qmi 8 b,0,()):=by
 have h:=qwo hb hl false
 unfold q0t
 simp only[Int.reduceBEq,cT,cF,h,y5]
 rfl
theorem d13_9(hb:Bytes b)(hl:b.length=8)(x):q0t 600 9 x (lo13 b) (hi13 b) b=some (qmi 9 b,0,()):=by
 have h:=qwo hb hl true
 unfold q0t
 simp only[Int.reduceBEq,cT,cF,h,y5]
 rfl
theorem d13_10(hb:Bytes b)(hl:b.length=16)(x):q0t 600 10 x (lo13 b) (hi13 b) b=some (qmi 10 b,0,()):=by
 have h1:=zpu (qmh hb) (z47 (b:=b) (by omega)) false
 have h2:=qwo (qu1 hb) (zf8 (b:=b) (by omega)) false
 have h3:=fun e=>zpw (c:=3) (by decide) (l:=eacL (lo13 b) false) (q21 64 (qdo (hi13 b) false)) e
 simp only[yp]at h3
 unfold q0t
 simp only[Int.reduceBEq,cT,cF,h1,h2,h3,qqz,y5]
 rfl
theorem d13_11(hb:Bytes b)(hl:b.length=8):q0t 600 11 (8,1,true,()) (lo13 b) (hi13 b) b=some (qmi 11 b,0,()):=by
 have h3:=fun x y=>ql3 (qmh hb) (z47 (by omega)) (qu0 2047) (c:=0) (by decide) x y
 simp only[yq]at h3
 unfold q0t
 simp only[Int.reduceBEq,cT,cF,blank_is.2,h3,y5]
 rfl
theorem d13_12(hb:Bytes b)(hl:b.length=16):q0t 600 12 (16,3,true,()) (lo13 b) (hi13 b) b=some (qmi 12 b,0,()):=by
 have h3:=fun x y=>ql3 (qmh hb) (z47 (by omega)) (qu0 2047) (c:=0) (by decide) x y
 have h4:=fun x y=>ql3 (qu1 hb) (zf8 (by omega)) (wT_len 0 (eacL (lo13 b) true) (qmf 2047)) (c:=1) (by decide) x y
 simp only[yq,yp]at h3 h4
 unfold q0t
 simp only[Int.reduceBEq,cT,cF,blank_is.2,h3,h4,y5]
 rfl
theorem decode13(hb:Bytes b){k:Nat}(h:Fmt k):b.length=q41 k→q0t 600 (k:Int) ((q41 k:Int),qmg k,qyn k,()) (lo13 b) (hi13 b) b=some (qmi k b,0,()):=
 qj3 (p:=fun k=>b.length=q41 k→q0t 600 (k:Int) ((q41 k:Int),qmg k,qyn k,()) (lo13 b) (hi13 b) b=some (qmi k b,0,()))
  (fun hl=>d13_7 hb hl _) (fun hl=>d13_8 hb hl _) (fun hl=>d13_9 hb hl _) (fun hl=>d13_10 hb hl _) (fun hl=>d13_11 hb hl) (fun hl=>d13_12 hb hl) h
theorem z8k(hb:Bytes b){k:Nat}(h:Fmt k)(hl:b.length=q41 k):qco 600 (k:Int) b=some (qmi k b,0,()):=by
 have g:=z0h k
 unfold qco
 rw[zn4 600 h]
 have e1:y0 .i64 ((b.length:Int)-8)=((b.length-8:Nat):Int):=by rw[w64 (by omega) (by omega)];omega
 have e2:(((b.length:Nat):Int) !=(q41 k:Int))=false:=by rw[hl];simp
 have e3:psub b.length (b.length-8)=8:=by rw[zit];omega
 simp only[y5,bne_self_eq_false,cF,e2,show 8≤b.length by omega,dT,cT,e1,yc,yb,show b.length-8≤b.length by omega,yd,e3]
 have h3:=decode13 hb h hl
 unfold lo13 hi13 at h3
 rw[h3]
 rfl
end
def scV(x:Int):Int:=8*x+x/32
def upS(n:Nat)(t:LI)(j:Nat):Int:=if j<n then scV (t.getD j 0)else t.getD j 0
theorem zpx{t:LI}{n:Nat}(hn:n<64):(tab 64 (upS n t)).set n (scV (t.getD n 0))=tab 64 (upS (n+1) t):=by
 rw[z80]
 refine q0a fun j hj=> ?_
 unfold upS
 by_cases h:j=n
 ·subst h;rw[iP rfl,iP (by omega)]
 ·rw[iN h]
  by_cases h2:j<n
  ·rw[iP h2,iP (by omega)]
  ·rw[iN h2,iN (by omega)]
theorem zi2{t:LI}(ht:Rg 255 t)(T:LI){i:Nat}(hi:i<16)(y:Int):∀(d c k:Nat),c+d=4→d<k→
  q6z 600 k (tab 64 (upS (i*4+c) t)) T (i:Int) y (tab 4 fun c=>t.getD (i*4+c) 0) (c:Int)=some (tab 64 (upS (i*4+4) t),T,y,()):=by
 intro d
 induction d with
 |zero=>
  intro c k h1 h2
  obtain⟨k,rfl⟩:∃k',k=k' +1:=⟨k-1,by omega⟩
  obtain rfl:c=4:=by omega
  rfl
 |succ d ih=>
  intro c k h1 h2
  obtain⟨k,rfl⟩:∃k',k=k' +1:=⟨k-1,by omega⟩
  show qat 600 (q6z 600 k) (tab 64 (upS (i*4+c) t)) T i y (tab 4 fun c=>t.getD (i*4+c) 0) c=_
  unfold qat
  have h3:(i:Int)<16:=by omega
  have h4:(c:Int)<4:=by omega
  have hv:=ht (i*4+c)
  have e:y0 .i64 (y0 .i64 (8*t.getD (i*4+c) 0)+y0 .i64 (yw (t.getD (i*4+c) 0) 32))=scV (t.getD (i*4+c) 0):=by
   rw[q2o hv.1,w64 (x:=8*t.getD (i*4+c) 0) (by omega) (by omega),w64 (x:=t.getD (i*4+c) 0/32) (by omega) (by omega),w64 (by omega) (by omega)]
   rfl
  simp only[h3,h4,dT,cT,yc,yd,yb,q77 (show c<4 by omega),e,zpx (t:=t) (show i*4+c<64 by omega),q0d (show c<1000000000000 by omega)]
  exact ih (c+1) k (by omega) (by omega)
theorem zi3{t:LI}(ht:Rg 255 t)(T:LI):∀(d i k:Nat),i+d=16→d<k→q70 600 k (tab 64 (upS (i*4) t)) T (i:Int)=some (tab 64 (upS 64 t),T,()):=by
 intro d
 induction d with
 |zero=>
  intro i k h1 h2
  obtain⟨k,rfl⟩:∃k',k=k' +1:=⟨k-1,by omega⟩
  obtain rfl:i=16:=by omega
  rfl
 |succ d ih=>
  intro i k h1 h2
  obtain⟨k,rfl⟩:∃k',k=k' +1:=⟨k-1,by omega⟩
  show qau 600 (q70 600 k) (tab 64 (upS (i*4) t)) T i=_
  unfold qau
  have h3:(i:Int)<16:=by omega
  have e:y8 4 (y9 (i*4) (tab 64 (upS (i*4) t)))=tab 4 fun c=>t.getD (i*4+c) 0:=by
   rw[zen (by omega)]
   exact q0a fun c hc=>by unfold upS;rw[iN (by omega)]
  have h:=zi2 ht T (i:=i) (by omega) i 4 0 600 (by omega) (by omega)
  simp only[Nat.add_zero,yq]at h
  simp only[h3,dT,cT,yc,yd,yb,e,h,y5,q0d (show i<1000000000000 by omega)]
  rw[show i*4+4=(i+1)*4 by omega]
  exact ih (i+1) k (by omega) (by omega)
def scT(k:Nat)(t:LI):LI:=if qyn k then tab 64 fun j=>scV (t.getD j 0)else t
theorem zf9{k:Nat}{t:LI}(ht:t.length=64):(scT k t).length=64:=by
 unfold scT
 split
 ·exact q21 _ _
 ·exact ht
theorem qyo{k:Nat}{t:LI}(ht:Rg 255 t):Rg (z1k k) (scT k t):=by
 unfold scT z1k
 cases qyn k
 ·exact ht
 ·exact qdm (by decide) fun j _=>by
   have:=ht j
   unfold scV
   simp only[if_true]
   omega
theorem zfa{k:Nat}(h:Fmt k){t:LI}(hl:t.length=64)(ht:Rg 255 t):qbj 600 (k:Int) t=some (scT k t,()):=by
 unfold qbj scT
 rw[zn4 600 h]
 simp only[y5]
 cases qyn k
 ·rfl
 ·have h:=zi3 ht q60 16 0 600 (by omega) (by omega)
  have e0:tab 64 (upS (0*4) t)=t:=by
   conv=>rhs;rw[qge hl]
   exact q0a fun j hj=>by unfold upS;rw[iN (by omega)]
  have e1:tab 64 (upS 64 t)=tab 64 fun j=>scV (t.getD j 0):=q0a fun j hj=>by unfold upS;rw[iP hj]
  rw[e0,e1,show((0:Nat):Int)=0 from rfl]at h
  simp only[Bool.not_true,cF,h,y5,if_true]
def bitM(mask:Int)(c:Nat):Bool:=mask/2^c%2==1
def errT(mask:Int)(s u:LI)(j:Nat):Int:=if bitM mask (j%4)then(s.getD j 0-u.getD j 0)*(s.getD j 0-u.getD j 0)else 0
def sumN(f:Nat→Int):Nat→Int
 |0=>0
 |n+1=>sumN f n+f n
theorem qa4{f:Nat→Int}{m:Int}:∀{n:Nat},(∀i,i<n→0≤f i∧f i≤m)→0≤sumN f n∧sumN f n≤m*n
 |0,_=>by simp[sumN]
 |n+1,h=>by
  have h1:=qa4 (n:=n) fun i hi=>h i (by omega)
  have h2:=h n (by omega)
  have e:m*((n+1:Nat):Int)=m*(n:Int)+m:=by
   rw[show((n+1:Nat):Int)=(n:Int)+1 by omega,Int.mul_add,Int.mul_one]
  unfold sumN
  rw[e]
  omega
theorem qu2{f g:Nat→Int}:∀{n:Nat},(∀i,i<n→f i=g i)→sumN f n=sumN g n
 |0,_=>rfl
 |n+1,h=>by unfold sumN;rw[qu2 fun i hi=>h i (by omega),h n (by omega)]
theorem qyp{f:Nat→Int}:∀{n:Nat},(∀i,i<n→0≤f i)→(sumN f n=0↔∀i,i<n→f i=0)
 |0,_=>by simp[sumN]
 |n+1,h=>by
  have h1:=qyp (n:=n) fun i hi=>h i (by omega)
  have h0:0≤sumN f n:=by
   have:∀m,m≤n→0≤sumN f m:=by
    intro m
    induction m with
    |zero=>intro _;exact Int.le_refl 0
    |succ m ih=>intro hm;unfold sumN;have:=ih (by omega);have:=h m (by omega);omega
   exact this n (w8 _)
  have h2:=h n (by omega)
  unfold sumN
  constructor
  ·intro e i hi
   by_cases hin:i=n
   ·subst hin;omega
   ·exact h1.1 (by omega) i (by omega)
  ·intro e
   have:=h1.2 fun i hi=>e i (by omega)
   have:=e n (by omega)
   omega
theorem qhe{x m:Int}(h: -m≤x∧x≤m):0≤x*x∧x*x≤m*m:=by
 have hm:0≤m:=by omega
 constructor
 ·rcases Int.le_total 0 x with h1|h1
  ·exact Int.mul_nonneg h1 h1
  ·have:=Int.mul_nonneg (a:= -x) (b:= -x) (by omega) (by omega)
   rwa [Int.neg_mul_neg]at this
 ·rcases Int.le_total 0 x with h1|h1
  ·exact Int.mul_le_mul h.2 h.2 h1 hm
  ·have:=Int.mul_le_mul (a:= -x) (b:= -x) (c:=m) (d:=m) (by omega) (by omega) (by omega) hm
   rwa [Int.neg_mul_neg]at this
theorem sq_zero{x:Int}:x*x=0↔x=0:=by
 rw[Int.mul_eq_zero]
 simp
theorem qu3{mask:Int}{s u:LI}(hs:Rg 2047 s)(hu:Rg 2047 u)(j:Nat):0≤errT mask s u j∧errT mask s u j≤2047*2047:=by
 unfold errT
 split
 ·have h1:=hs j
  have h2:=hu j
  exact qhe (m:=2047) (by omega)
 ·decide
def errS(mask:Int)(s u:LI):Int:=sumN (errT mask s u) 64
theorem zju{mask:Int}{s u:LI}(hs:Rg 2047 s)(hu:Rg 2047 u):0≤errS mask s u:=(qa4 (n:=64) fun i _=>qu3 hs hu i).1
theorem zi4{mask:Int}{s u:LI}(hs:Rg 2047 s)(hu:Rg 2047 u):errS mask s u=0↔∀j,j<64→bitM mask (j%4)=true→s.getD j 0=u.getD j 0:=by
 unfold errS
 rw[qyp fun i _=>(qu3 hs hu i).1]
 constructor
 ·intro h j hj hb
  have:=h j hj
  unfold errT at this
  rw[iP hb,sq_zero]at this
  omega
 ·intro h j hj
  unfold errT
  split
  ·rename_i hb
   rw[sq_zero,h j hj hb]
   omega
  ·rfl
theorem zlo{mask:Int}{c:Nat}(hc:c≤62):(iand .i64 (ishr .i64 mask (c:Int)) 1==1)=bitM mask c:=by
 have h:=qiz (b:=1) (by decide) (x:=ishr .i64 mask (c:Int))
 rw[show((2:Int)^1-1)=1 from rfl]at h
 rw[h,z7z (by omega)]
 rfl
theorem zi5{mask:Int}{s u:LI}(hs:Rg 2047 s)(hu:Rg 2047 u){i:Nat}(hi:i<16)(y:Int):∀(d c k:Nat),c+d=4→d<k→
  q8b 600 k mask s u (sumN (errT mask s u) (i*4+c)) (i:Int) y (c:Int)=some (mask,s,u,sumN (errT mask s u) (i*4+4),y,()):=by
 intro d
 induction d with
 |zero=>
  intro c k h1 h2
  obtain⟨k,rfl⟩:∃k',k=k' +1:=⟨k-1,by omega⟩
  obtain rfl:c=4:=by omega
  rfl
 |succ d ih=>
  intro c k h1 h2
  obtain⟨k,rfl⟩:∃k',k=k' +1:=⟨k-1,by omega⟩
  show qcg 600 (q8b 600 k) mask s u (sumN (errT mask s u) (i*4+c)) i y c=_
  unfold qcg
  have h3:(i:Int)<16:=by omega
  have h4:(c:Int)<4:=by omega
  have b1:=hs (i*4+c)
  have b2:=hu (i*4+c)
  have b3:=qa4 (n:=i*4+c) (f:=errT mask s u) fun j _=>qu3 hs hu j
  have b5:(2047*2047:Int)*((i*4+c:Nat):Int)≤2047*2047*64:=Int.mul_le_mul_of_nonneg_left (by omega) (by decide)
  have nx:=ih (c+1) k (by omega) (by omega)
  rw[show i*4+(c+1)=(i*4+c)+1 by omega]at nx
  rw[show sumN (errT mask s u) (i*4+c+1)=sumN (errT mask s u) (i*4+c)+errT mask s u (i*4+c)from rfl]at nx
  cases hb:bitM mask c with
  |true=>
   have e:errT mask s u (i*4+c)=(s.getD (i*4+c) 0-u.getD (i*4+c) 0)*(s.getD (i*4+c) 0-u.getD (i*4+c) 0):=by
    unfold errT
    rw[iP (by rw[show(i*4+c)%4=c by omega];exact hb)]
   have b4:=qhe (x:=s.getD (i*4+c) 0-u.getD (i*4+c) 0) (m:=2047) (by omega)
   have sq:q4s 600 (y0 .i64 (s.getD (i*4+c) 0-u.getD (i*4+c) 0))=some ((s.getD (i*4+c) 0-u.getD (i*4+c) 0)*(s.getD (i*4+c) 0-u.getD (i*4+c) 0),()):=by
    unfold q4s
    rw[w64 (x:=s.getD (i*4+c) 0-u.getD (i*4+c) 0) (by omega) (by omega),w64 (by omega) (by omega)]
   rw[e]at nx
   simp only[h3,h4,dT,cT,yc,yd,yb,zlo (mask:=mask) (show c≤62 by omega),hb,sq,y5,q0d (show c<1000000000000 by omega)]
   rw[w64 (by omega) (by omega)]
   exact nx
  |false=>
   have e:errT mask s u (i*4+c)=0:=by
    unfold errT
    rw[iN (by rw[show(i*4+c)%4=c by omega,hb];simp)]
   rw[e,Int.add_zero]at nx
   simp only[h3,h4,dT,cT,cF,yc,yd,yb,zlo (mask:=mask) (show c≤62 by omega),hb,q0d (show c<1000000000000 by omega)]
   exact nx
theorem zi6{mask:Int}{s u:LI}(hs:Rg 2047 s)(hu:Rg 2047 u):∀(d i k:Nat),i+d=16→d<k→q8c 600 k mask s u (sumN (errT mask s u) (i*4)) (i:Int)=some (errS mask s u,()):=by
 intro d
 induction d with
 |zero=>
  intro i k h1 h2
  obtain⟨k,rfl⟩:∃k',k=k' +1:=⟨k-1,by omega⟩
  obtain rfl:i=16:=by omega
  rfl
 |succ d ih=>
  intro i k h1 h2
  obtain⟨k,rfl⟩:∃k',k=k' +1:=⟨k-1,by omega⟩
  show qch 600 (q8c 600 k) mask s u (sumN (errT mask s u) (i*4)) i=_
  unfold qch
  have h3:(i:Int)<16:=by omega
  have h:=zi5 hs hu (i:=i) (by omega) (i:Int) 4 0 600 (by omega) (by omega) (mask:=mask)
  simp only[Nat.add_zero,yq]at h
  simp only[h3,dT,cT,h,y5,q0d (show i<1000000000000 by omega)]
  rw[show i*4+4=(i+1)*4 by omega]
  exact ih (i+1) k (by omega) (by omega)
theorem zpy(mask:Int){s u:LI}(hs:Rg 2047 s)(hu:Rg 2047 u):qn9 600 s u mask=some (errS mask s u,()):=by
 have h:=zi6 hs hu 16 0 600 (by omega) (by omega) (mask:=mask)
 unfold qn9
 simp only[Nat.zero_mul,yq,sumN]at h
 rw[h]
 rfl
theorem qyq(k:Nat):z1k k≤2047:=by
 unfold z1k
 split<;>decide
def q9i(k:Nat)(b t:LI):Int:=errS (qmg k) (scT k t) (qmi k b)
theorem qu4{b t:LI}(hb:Bytes b){k:Nat}(h:Fmt k)(hl:b.length=q41 k)(htl:t.length=64)(ht:Rg 255 t):q98 600 (k:Int) b t=some (q9i k b t,0,()):=by
 unfold q98
 rw[z8k hb h hl,zn4 600 h,zfa h htl ht]
 simp only[y5,bne_self_eq_false,cF,zpy (qmg k) (q4a (qyo (k:=k) ht) (qyq k)) (q4a (z48 hb h) (qyq k))]
 rfl
theorem rOf_is(F:Nat)(f:Int):qxf F f=q96 F f∧∃r,q96 F f=some r:=by
 by_cases h:1≤f∧f≤12
 ·have:f=1∨f=2∨f=3∨f=4∨f=5∨f=6∨f=7∨f=8∨f=9∨f=10∨f=11∨f=12:=by omega
  rcases this with rfl|rfl|rfl|rfl|rfl|rfl|rfl|rfl|rfl|rfl|rfl|rfl<;>exact⟨rfl,_,rfl⟩
 ·rw[Of_bad F h]
  refine⟨?_,_,rfl⟩
  unfold qxf
  by_cases h1:f<1
  ·simp only[h1,dT,cT]
  ·have h2:12<f:=by omega
   simp only[h1,dF,cF,h2,dT,cT]
def q35(g:Nat→Int):Nat→Nat
 |0=>0
 |n+1=>if n=0 then 0 else if g n<g (q35 g n)then n else q35 g n
theorem qfp(g:Nat→Int):∀{n:Nat},0<n→q35 g n<n
 |0,h=>by omega
 |n+1,_=>by
  unfold q35
  split
  ·omega
  ·split
   ·omega
   ·have:=qfp g (n:=n) (by omega)
    omega
theorem qyr(g:Nat→Int):∀{n:Nat} {i:Nat},i<n→g (q35 g n)≤g i
 |0,i,h=>by omega
 |n+1,i,h=>by
  unfold q35
  split
  ·have:i=0:=by omega
   subst this
   exact Int.le_refl _
  ·split
   ·by_cases hi:i=n
    ·subst hi;exact Int.le_refl _
    ·have:=qyr g (n:=n) (i:=i) (by omega)
     omega
   ·by_cases hi:i=n
    ·subst hi;omega
    ·exact qyr g (n:=n) (i:=i) (by omega)
def zfb(l:LI)(v:Int):Int:=sumN (fun i=>(l.getD i 0-v)*(l.getD i 0-v)) l.length
theorem zb6{l L:LI}(hl:Rg 2047 l)(hn:l.length≤64){p:Nat}(hp:p<L.length)(hv:0≤L.getD p 0∧L.getD p 0≤2047):∀(d i k:Nat),i+d=l.length→d<k→
  q49 600 k (p:Int) L (sumN (fun i=>(l.getD i 0-L.getD p 0)*(l.getD i 0-L.getD p 0)) i) l (l.length:Int) (i:Int)=some (zfb l (L.getD p 0),()):=by
 intro d
 induction d with
 |zero=>
  intro i k h1 h2
  obtain⟨k,rfl⟩:∃k',k=k' +1:=⟨k-1,by omega⟩
  obtain rfl:i=l.length:=by omega
  show q4z 600 (q49 600 k) _ _ _ _ _ _=_
  unfold q4z
  simp only[Int.lt_irrefl,dF,cF]
  rfl
 |succ d ih=>
  intro i k h1 h2
  obtain⟨k,rfl⟩:∃k',k=k' +1:=⟨k-1,by omega⟩
  show q4z 600 (q49 600 k) _ _ _ _ _ _=_
  unfold q4z
  have h3:(i:Int)<(l.length:Int):=by omega
  have h4:(p:Int)<(L.length:Int):=by omega
  have b1:=hl i
  have b2:=qhe (x:=l.getD i 0-L.getD p 0) (m:=2047) (by omega)
  have b3:=qa4 (n:=i) (f:=fun i=>(l.getD i 0-L.getD p 0)*(l.getD i 0-L.getD p 0)) (m:=2047*2047) fun j _=>qhe (m:=2047) (by have:=hl j;omega)
  have b4:(2047*2047:Int)*(i:Int)≤2047*2047*64:=Int.mul_le_mul_of_nonneg_left (by omega) (by decide)
  have sq:q4s 600 (y0 .i64 (l.getD i 0-L.getD p 0))=some ((l.getD i 0-L.getD p 0)*(l.getD i 0-L.getD p 0),()):=by
   unfold q4s
   rw[w64 (x:=l.getD i 0-L.getD p 0) (by omega) (by omega),w64 (by omega) (by omega)]
  simp only[h3,h4,dT,cT,yc,yd,yb,sq,y5,q0d (show i<1000000000000 by omega)]
  rw[w64 (by omega) (by omega)]
  exact ih (i+1) k (by omega) (by omega)
theorem zc3{l L:LI}(hl:Rg 2047 l)(hn:l.length≤64){p:Nat}(hp:p<L.length)(hv:0≤L.getD p 0∧L.getD p 0≤2047):qh5 600 (p:Int) l L=some (zfb l (L.getD p 0),()):=by
 have h:=zb6 hl hn hp hv l.length 0 600 (by omega) (by omega)
 unfold qh5
 simp only[yq,sumN]at h
 rw[h]
 rfl
def zb7(L l:LI):Nat:=q35 (fun i=>zfb l (L.getD i 0)) L.length
theorem z0i{l L:LI}(hl:Rg 2047 l)(hn:l.length≤64)(hL:Rg 2047 L)(hm:L.length≤300):∀(d i k:Nat),1≤i→i+d=L.length→d<k→
  q0j 600 k l L (q35 (fun i=>zfb l (L.getD i 0)) i:Int) (zfb l (L.getD (q35 (fun i=>zfb l (L.getD i 0)) i) 0)) (L.length:Int) (i:Int)=some ((zb7 L l:Int),()):=by
 intro d
 induction d with
 |zero=>
  intro i k h0 h1 h2
  obtain⟨k,rfl⟩:∃k',k=k' +1:=⟨k-1,by omega⟩
  obtain rfl:i=L.length:=by omega
  show q0n 600 (q0j 600 k) _ _ _ _ _ _=_
  unfold q0n
  simp only[Int.lt_irrefl,dF,cF]
  rfl
 |succ d ih=>
  intro i k h0 h1 h2
  obtain⟨k,rfl⟩:∃k',k=k' +1:=⟨k-1,by omega⟩
  show q0n 600 (q0j 600 k) _ _ _ _ _ _=_
  unfold q0n
  have h3:(i:Int)<(L.length:Int):=by omega
  have nx:=ih (i+1) k (by omega) (by omega) (by omega)
  unfold q35 at nx
  rw[iN (by omega)]at nx
  simp only[h3,dT,cT,zc3 hl hn (show i<L.length by omega) (hL i),y5,beqF (show(i:Int)≠0 by omega),cF,q0d (show i<1000000000000 by omega)]
  by_cases hc:zfb l (L.getD i 0)<zfb l (L.getD (q35 (fun i=>zfb l (L.getD i 0)) i) 0)
  ·rw[iP hc]at nx
   simp only[hc,dT,cT]
   exact nx
  ·rw[iN hc]at nx
   simp only[hc,dF,cF]
   exact nx
theorem zfc{l L:LI}(hl:Rg 2047 l)(hn:l.length≤64)(hL:Rg 2047 L)(hm:1≤L.length∧L.length≤300):qe5 600 L l=some ((zb7 L l:Int),()):=by
 have h:=z0i hl hn hL hm.2 (L.length-1) 1 599 (by omega) (by omega) (by omega)
 have e:q0j 600 600 l L 0 0 (L.length:Int) 0=some ((zb7 L l:Int),()):=by
  show q0n 600 (q0j 600 599) _ _ _ _ _ _=_
  unfold q0n
  have h3:(0:Int)<(L.length:Int):=by omega
  have b0:=zc3 hl hn (p:=0) (show 0<L.length by omega) (hL 0)
  simp only[yq]at b0
  simp only[h3,dT,cT,b0,y5,beq_self_eq_true]
  exact h
 unfold qe5 qb6
 rw[e]
 rfl
theorem bestV_lt{L l:LI}(h:0<L.length):zb7 L l<L.length:=qfp _ h
def colT(t:LI)(c:Nat):LI:=tab 16 fun i=>t.getD (i*4+c) 0
theorem z49(t:LI)(c:Nat):(colT t c).length=16:=q21 _ _
theorem zfd{m:Int}{t:LI}(h:Rg m t)(c:Nat):Rg m (colT t c):=qdm (by have:=h 0;omega) fun i _=>h _
theorem qys(N:Nat)(g:Nat→Int):tab N g++[g N]=tab (N+1) g:=by
 unfold tab
 rw[List.range_succ,List.map_append]
 rfl
theorem z1l{t:LI}(hl:t.length=64){i:Nat}(hi:i<16){c:Nat}(hc:c<4):(y8 4 (y9 (i*4) t)).getD c 0=t.getD (i*4+c) 0:=by
 rw[q78 hl (by omega),q77 hc]
section
variable {t:LI} (hl:t.length=64) {c:Nat} (hc:c<4)
include hl hc
theorem zjv(x1 x2:Int):∀(d i k:Nat),i+d=16→d<k→q37 600 k (c:Int) x1 x2 (tab i fun i=>t.getD (i*4+c) 0) t (i:Int)=some (x1,x2,colT t c,()):=by
 intro d
 induction d with
 |zero=>
  intro i k h1 h2
  obtain⟨k,rfl⟩:∃k',k=k' +1:=⟨k-1,by omega⟩
  obtain rfl:i=16:=by omega
  rfl
 |succ d ih=>
  intro i k h1 h2
  obtain⟨k,rfl⟩:∃k',k=k' +1:=⟨k-1,by omega⟩
  show q68 600 (q37 600 k) _ _ _ _ _ _=_
  unfold q68
  have h3:(i:Int)<16:=by omega
  have h4:(c:Int)<4:=by omega
  simp only[h3,h4,dT,cT,yc,yd,yb,q21,show i+1≤1099511627776 by omega,z1l hl (show i<16 by omega) hc,q0d (show i<1000000000000 by omega)]
  rw[qys i fun i=>t.getD (i*4+c) 0]
  exact ih (i+1) k (by omega) (by omega)
theorem zi7(x1:Int):∀(d i k:Nat),i+d=16→d<k→q2t 600 k (c:Int) x1 (tab i fun i=>t.getD (i*4+c) 0) t (i:Int)=some (x1,colT t c,()):=by
 intro d
 induction d with
 |zero=>
  intro i k h1 h2
  obtain⟨k,rfl⟩:∃k',k=k' +1:=⟨k-1,by omega⟩
  obtain rfl:i=16:=by omega
  rfl
 |succ d ih=>
  intro i k h1 h2
  obtain⟨k,rfl⟩:∃k',k=k' +1:=⟨k-1,by omega⟩
  show q5c 600 (q2t 600 k) _ _ _ _ _=_
  unfold q5c
  have h3:(i:Int)<16:=by omega
  have h4:(c:Int)<4:=by omega
  simp only[h3,h4,dT,cT,yc,yd,yb,q21,show i+1≤1099511627776 by omega,z1l hl (show i<16 by omega) hc,q0d (show i<1000000000000 by omega)]
  rw[qys i fun i=>t.getD (i*4+c) 0]
  exact ih (i+1) k (by omega) (by omega)
theorem zfe(x1:Int):∀(d i k:Nat),i+d=16→d<k→q2a 600 k (c:Int) x1 (tab i fun i=>t.getD (i*4+c) 0) t (i:Int)=some (x1,colT t c,()):=by
 intro d
 induction d with
 |zero=>
  intro i k h1 h2
  obtain⟨k,rfl⟩:∃k',k=k' +1:=⟨k-1,by omega⟩
  obtain rfl:i=16:=by omega
  rfl
 |succ d ih=>
  intro i k h1 h2
  obtain⟨k,rfl⟩:∃k',k=k' +1:=⟨k-1,by omega⟩
  show q4i 600 (q2a 600 k) _ _ _ _ _=_
  unfold q4i
  have h3:(i:Int)<16:=by omega
  have h4:(c:Int)<4:=by omega
  simp only[h3,h4,dT,cT,yc,yd,yb,q21,show i+1≤1099511627776 by omega,z1l hl (show i<16 by omega) hc,q0d (show i<1000000000000 by omega)]
  rw[qys i fun i=>t.getD (i*4+c) 0]
  exact ih (i+1) k (by omega) (by omega)
theorem zi8(x1:Int):∀(d i k:Nat),i+d=16→d<k→q2u 600 k (c:Int) x1 (tab i fun i=>t.getD (i*4+c) 0) t (i:Int)=some (x1,colT t c,()):=by
 intro d
 induction d with
 |zero=>
  intro i k h1 h2
  obtain⟨k,rfl⟩:∃k',k=k' +1:=⟨k-1,by omega⟩
  obtain rfl:i=16:=by omega
  rfl
 |succ d ih=>
  intro i k h1 h2
  obtain⟨k,rfl⟩:∃k',k=k' +1:=⟨k-1,by omega⟩
  show q5d 600 (q2u 600 k) _ _ _ _ _=_
  unfold q5d
  have h3:(i:Int)<16:=by omega
  have h4:(c:Int)<4:=by omega
  simp only[h3,h4,dT,cT,yc,yd,yb,q21,show i+1≤1099511627776 by omega,z1l hl (show i<16 by omega) hc,q0d (show i<1000000000000 by omega)]
  rw[qys i fun i=>t.getD (i*4+c) 0]
  exact ih (i+1) k (by omega) (by omega)
end
theorem qyt{α:Type}{m:Nat}(hm:m≤300)(g:Nat→Int)(L:Nat→LI→Int→Option α)(res:LI→Option α)
  (step:∀(k i:Nat),i<m→L (k+1) (tab i g) i=L k (tab i g++[g i]) ((i+1:Nat):Int)) (stop:∀k,L (k+1) (tab m g) m=res (tab m g)):L 600 [] 0=res (tab m g):=by
 have key:∀(d i k:Nat),i+d=m→d<k→L k (tab i g) i=res (tab m g):=by
  intro d
  induction d with
  |zero=>
   intro i k h1 h2
   obtain⟨k,rfl⟩:∃k',k=k' +1:=⟨k-1,by omega⟩
   obtain rfl:i=m:=by omega
   exact stop k
  |succ d ih=>
   intro i k h1 h2
   obtain⟨k,rfl⟩:∃k',k=k' +1:=⟨k-1,by omega⟩
   rw[step k i (by omega),qys]
   exact ih (i+1) k (by omega) (by omega)
 exact key m 0 600 (by omega) (by omega)
def lvW(b:Nat):LI:=tab (2^b) fun i=>q0s b i
def lvP:LI:=tab 256 fun i=>(i:Int)
def lvL:LI:=tab 32 fun i=>q0w (q0s 5 i+2)
def lvF:LI:=tab 256 fun i=>8*(i:Int)+4
theorem pow_b{b:Nat}(hb:1≤b∧b≤8):1≤2^b∧2^b≤256:=by
 have h:(2:Nat)^b≤2^8:=Nat.pow_le_pow_right (by decide) hb.2
 have:=Nat.pow_pos (n:=b) (show 0<2 by decide)
 omega
theorem rg_lvW{b:Nat}(hb:1≤b∧b≤8):Rg 255 (lvW b):=qdm (by decide) fun i _=>q1u hb _
theorem rg_lvP:Rg 255 lvP:=qdm (by decide) fun i hi=>by omega
theorem rg_lvL:Rg 255 lvL:=qdm (by decide) fun i _=>q0y _
theorem rg_lvF:Rg 2047 lvF:=qdm (by decide) fun i hi=>by omega
section
variable {t:LI} (hl:t.length=64) (ht:Rg 2047 t) {c:Nat} (hc:c<4)
include hl ht hc
theorem zi9{b:Nat}(hb:1≤b∧b≤8):q9s 600 t c ((2^b:Nat):Int) b=some ((zb7 (lvW b) (colT t c):Int),()):=by
 have hp:=pow_b hb
 have h1:=zjv hl hc ((2^b:Nat):Int) (b:Int) 16 0 600 (by omega) (by omega)
 rw[show tab 0 (fun i=>t.getD (i*4+c) 0)=[]from rfl,show((0:Nat):Int)=0 from rfl]at h1
 have h2:=qyt (m:=2^b) (by omega) (fun i=>q0s b i) (fun k w i=>q24 600 k (b:Int) (colT t c) w ((2^b:Nat):Int) i) (fun w=>some (colT t c,w,())) (fun k i hi=>by
   show q2s 600 (q24 600 k) _ _ _ _ _=_
   unfold q2s qr0
   have h3:(i:Int)<((2^b:Nat):Int):=by omega
   simp only[h3,dT,cT,ql0 (F:=600) (by decide) hb,y5,q21,show i+1≤1099511627776 by omega,yd,q0d (show i<1000000000000 by omega)]) (fun k=>by
   show q2s 600 (q24 600 k) _ _ _ _ _=_
   unfold q2s
   simp only[Int.lt_irrefl,dF,cF])
 have h3:=zfc (l:=colT t c) (L:=lvW b) (zfd ht c) (by rw[z49];decide) (q4a (rg_lvW hb) (by decide)) (by unfold lvW;rw[q21];omega)
 unfold q9s
 rw[h1]
 simp only[y5]
 rw[h2]
 simp only[y5]
 unfold lvW at h3⊢
 rw[h3]
 rfl
theorem z8l{b:Nat}(hb:1≤b∧b≤8):qi5 600 t c b=some ((zb7 (lvW b) (colT t c):Int),()):=by
 have h:=zi9 hl ht hc hb
 have e:ishl .i64 1 (b:Int)=((2^b:Nat):Int):=by
  rw[zel (by omega)]
  exact(w9 2 b).symm
 unfold qi5
 simp only[yc,dT,cT,e,h,y5]
theorem zn5:qts 600 t c=some ((zb7 lvP (colT t c):Int),()):=by
 have h1:=zi7 hl hc (256:Int) 16 0 600 (by omega) (by omega)
 rw[show tab 0 (fun i=>t.getD (i*4+c) 0)=[]from rfl,show((0:Nat):Int)=0 from rfl]at h1
 have h2:=qyt (m:=256) (by omega) (fun i=>(i:Int)) (fun k w i=>q1r 600 k (colT t c) w 256 i) (fun w=>some (colT t c,w,())) (fun k i hi=>by
   show q29 600 (q1r 600 k) _ _ _ _=_
   unfold q29 qna
   have h3:(i:Int)<256:=by omega
   simp only[h3,dT,cT,y5,q21,show i+1≤1099511627776 by omega,yd,q0d (show i<1000000000000 by omega)]) (fun k=>by
   show q29 600 (q1r 600 k) _ _ _ _=_
   unfold q29
   rfl)
 have h3:=zfc (l:=colT t c) (L:=lvP) (zfd ht c) (by rw[z49];decide) (q4a rg_lvP (by decide)) (by unfold lvP;rw[q21];decide)
 unfold qts qcj
 rw[h1]
 simp only[y5]
 rw[h2]
 simp only[y5]
 unfold lvP at h3⊢
 rw[h3]
 rfl
theorem zn6:q7l 600 t c 32=some ((zb7 lvL (colT t c):Int),()):=by
 have h1:=zfe hl hc (32:Int) 16 0 600 (by omega) (by omega)
 rw[show tab 0 (fun i=>t.getD (i*4+c) 0)=[]from rfl,show((0:Nat):Int)=0 from rfl]at h1
 have h2:=qyt (m:=32) (by omega) (fun i=>q0w (q0s 5 i+2)) (fun k w i=>q1b 600 k (colT t c) w 32 i) (fun w=>some (colT t c,w,())) (fun k i hi=>by
   show q1y 600 (q1b 600 k) _ _ _ _=_
   unfold q1y qkf
   have h3:(i:Int)<32:=by omega
   have wb:=q1u (b:=5) (by decide) (i:Int)
   have wd:=ql0 (F:=600) (by decide) (b:=5) (by decide) (i:Int)
   simp only[yp]at wd
   have e:y0 .i64 (q0s 5 (i:Int)+2)=q0s 5 (i:Int)+2:=w64 (by omega) (by omega)
   simp only[h3,dT,cT,wd,y5,e,qa2,q21,show i+1≤1099511627776 by omega,yd,q0d (show i<1000000000000 by omega)]) (fun k=>by
   show q1y 600 (q1b 600 k) _ _ _ _=_
   unfold q1y
   rfl)
 have h3:=zfc (l:=colT t c) (L:=lvL) (zfd ht c) (by rw[z49];decide) (q4a rg_lvL (by decide)) (by unfold lvL;rw[q21];decide)
 unfold q7l
 rw[h1]
 simp only[y5]
 rw[h2]
 simp only[y5]
 unfold lvL at h3⊢
 rw[h3]
 rfl
theorem zpz:q8p 600 t c 256=some ((zb7 lvF (colT t c):Int),()):=by
 have h1:=zi8 hl hc (256:Int) 16 0 600 (by omega) (by omega)
 rw[show tab 0 (fun i=>t.getD (i*4+c) 0)=[]from rfl,show((0:Nat):Int)=0 from rfl]at h1
 have h2:=qyt (m:=256) (by omega) (fun i=>8*(i:Int)+4) (fun k w i=>q1s 600 k (colT t c) w 256 i) (fun w=>some (colT t c,w,())) (fun k i hi=>by
   show q2b 600 (q1s 600 k) _ _ _ _=_
   unfold q2b qnc
   have h3:(i:Int)<256:=by omega
   have e:=zf6 600 (base:=(i:Int)) (times:=1) (number:=0) (by omega) (by decide) (by decide) true
   have e2:qbx (i:Int) 1 0 true=8*(i:Int)+4:=by
    unfold qbx
    simp only[if_true,show¬(1:Int)=0 by decide,if_false]
    omega
   simp only[h3,dT,cT,y5,e,e2,q21,show i+1≤1099511627776 by omega,yd,q0d (show i<1000000000000 by omega)]) (fun k=>by
   show q2b 600 (q1s 600 k) _ _ _ _=_
   unfold q2b
   rfl)
 have h3:=zfc (l:=colT t c) (L:=lvF) (zfd ht c) (by rw[z49];decide) rg_lvF (by unfold lvF;rw[q21];decide)
 unfold q8p
 rw[h1]
 simp only[y5]
 rw[h2]
 simp only[y5]
 unfold lvF at h3⊢
 rw[h3]
 rfl
end
theorem zc4(n:Int):qbk 600 n=some (tab 16 fun _=>n,()):=by
 have key:∀T w:LI,w.length=16→q54 600 600 n T w 0=some (T,tab 16 (fun _=>n),()):=by
  intro T w hw
  refine qfk 16 (fun _=>n) (fun k w i=>q54 600 k n T w i) (fun w=>some (T,w,())) ?_ ?_ w hw 600 (by omega)
  ·intro k i w hi hw
   show qav 600 (q54 600 k) n T w i=_
   unfold qav
   have h3:(i:Int)<16:=by omega
   simp only[h3,dT,cT,yc,yd,yb,q0d (show i<1000000000000 by omega)]
  ·intro k w hw
   rfl
 unfold qbk
 rw[key _ _ rfl]
 rfl
def oneT(v:Nat→Int):LI:=tab 64 fun j=>v (j%4)
def q3s(n:Int):LI:=tab 16 fun _=>n
theorem qfq(n:Int){j:Nat}(hj:j<16):(q3s n).getD j 0=n:=q77 hj
theorem qyu(n:Int):(q3s n).length=16:=q21 _ _
theorem hasI64{x:Int}(h: -9223372036854775808≤x∧x≤9223372036854775807):IntKind.i64.has x:=has_iff.2 h
def zjw(A:LI):LI:=qgs true false A [0,0,0] [0,0] (q3s 0)
theorem zlp{A:LI}(hA:Rg 31 A):Ok10 true A [0,0,0] [0,0] (q3s 0):=by
 refine⟨fun c hc=> ?_,fun i hi=> ?_,by decide,by decide⟩
 ·have:=hA c
  have:c=0∨c=1∨c=2:=by omega
  rcases this with rfl|rfl|rfl<;>exact⟨hA _,by decide⟩
 ·rw[qfq 0 hi]
  decide
theorem zjx{A:LI}(hl:A.length=3)(hA:Rg 31 A):z86 (zjw A)=oneT fun c=>if c=3 then 255 else q0w (q0s 5 (A.getD c 0)+2):=by
 have h:=zp7 (f:=false) (zlp hA) hl rfl rfl (qyu 0)
 have e:z86 (zjw A)=qbb true false A [0,0,0] [0,0] (q3s 0):=by
  unfold eP at h
  simp only[ym]at h
  obtain⟨h1,h2,h3,h4,h5,h6,_⟩:=h
  unfold z86 zjw
  rw[h5,h6,h3,h4,h1,h2]
 rw[e,qge (qoa true false A [0,0,0] [0,0] (q3s 0))]
 unfold oneT
 refine q0a fun j hj=> ?_
 rw[←zjs,show((qbb true false A [0,0,0] [0,0] (q3s 0)).drop (j/4*4)).take 4=zb4 (q1h true A [0,0,0]) [0,0] (q3s 0) false (j/4)from qk6 _ (fun _ _=>rfl) (by omega)]
 have hh:=qmc false ((j/4:Nat):Int)
 have ha:zev [0,0] (q3s 0) false (j/4)=2:=by
  unfold zev
  rw[qfq 0 (by omega)]
  have:q2m false ((j/4:Nat):Int)=0∨q2m false ((j/4:Nat):Int)=1:=by omega
  rcases this with h0|h0<;>rw[h0]<;>rfl
 have hz:∀x:Int,x+0=x:=Int.add_zero
 unfold zb4
 rw[ha]
 have hc:j%4=0∨j%4=1∨j%4=2∨j%4=3:=by omega
 have hs:q2m false ((j/4:Nat):Int)=0∨q2m false ((j/4:Nat):Int)=1:=by omega
 rcases hs with h0|h0
 ·rcases hc with h4|h4|h4|h4<;>rw[h4,h0]<;>rfl
 ·have b0:n10 true A [0,0,0] 0=A.getD 0 0:=hz _
  have b1:n10 true A [0,0,0] 1=A.getD 1 0:=hz _
  have b2:n10 true A [0,0,0] 2=A.getD 2 0:=hz _
  unfold q1h
  rw[b0,b1,b2]
  rcases hc with h4|h4|h4|h4<;>rw[h4,h0]<;>rfl
theorem liftB_is{A:LI}(hA:Rg 31 A):qb5 600 (true,false,A,[0,0,0],[0,0],q3s 0,())=some (zjw A,0,()):=by
 have h0:∀l:LI,Rg 31 l→Is64 l:=fun l hl i=>hasI64 (by have:=hl i;omega)
 have h1:Rg 31 [0,0,0]:=q2i (by decide) (q2i (by decide) (q2i (by decide) (qtd (by decide))))
 have h2:Rg 31 [0,0]:=q2i (by decide) (q2i (by decide) (qtd (by decide)))
 have h3:Rg 31 (q3s 0):=qdm (by decide) fun _ _=>by decide
 have h4:=z88 (F:=600) (by decide) true false (h0 _ hA) (h0 _ h1) (h0 _ h2) (h0 _ h3)
 rw[h4,iP (zlp hA)]
 rfl
theorem zq0{x:Int}(h:0≤x∧x≤255):q0w x=x:=by unfold q0w;omega
theorem zn7(x y z:Int)(c:Nat):0≤(qdi x y z).getD c 0∧(qdi x y z).getD c 0≤255:=
 (q2i (q1u (by decide) _) (q2i (q1u (by decide) _) (q2i (q1u (by decide) _) (q2i (by decide) (qtd (by decide)))))) c
theorem zn8{o:LI}(ho:∀c,0≤o.getD c 0∧o.getD c 0≤255)(h3:o.getD 3 0=255)(j:Nat):q5s o o o j=o.getD (j%4) 0:=by
 unfold q5s qps
 split
 ·rename_i h
  rw[h,h3]
 ·rw[Int.sub_self,Int.mul_zero,Int.mul_zero,Int.add_zero,Int.zero_add]
  have:=ho (j%4)
  rw[show(4*o.getD (j%4) 0+2)/4=o.getD (j%4) 0 by omega,zq0 this]
theorem zq1{n:LI}(h:ok3 n)(p:Bool):tab 64 (qdo (layV n n n) p)=oneT fun c=>(qdi (n.getD 0 0) (n.getD 1 0) (n.getD 2 0)).getD c 0:=by
 unfold oneT
 refine q0a fun j hj=> ?_
 rw[lay_dec]
 unfold qwm
 obtain⟨h1,h2,h3⟩:=zjp (o:=n) (h:=n) (v:=n) ⟨h,h,h⟩
 rw[h1,h2,h3,zn8 (zn7 _ _ _) rfl]
theorem layB_is{x y z:Int}(h:ok3 [x,y,z]):qhm 600 [x,y,z] [x,y,z] [x,y,z]=some (layV [x,y,z] [x,y,z] [x,y,z],0,()):=by
 obtain⟨⟨a1,a2⟩,⟨b1,b2⟩,⟨c1,c2⟩⟩:=h
 simp only[yt,yu]at a1 a2 b1 b2 c1 c2
 have r:Rg 127 [x,y,z]:=q2i (by omega) (q2i (by omega) (q2i (by omega) (qtd (by decide))))
 have h64:∀i,I64 (([x,y,z]++([x,y,z]++[x,y,z])).getD i 0):=fun i=>by
  have:=qfn r (qfn r r) i
  unfold I64
  omega
 have hk:ok3 [x,y,z]:=⟨⟨a1,a2⟩,⟨b1,b2⟩,⟨c1,c2⟩⟩
 rw[(lay_is rfl rfl rfl h64).1,iP ⟨hk,hk,hk⟩]
theorem table0:q3y 600 0=some ([-3,-6,-9,-15,2,5,8,14],()):=by kernel_rfl
theorem table13:q3y 600 13=some ([-1,-2,-3,-10,0,1,2,9],()):=by kernel_rfl
theorem qte{base times table n:Int}(h1:0≤base∧base≤255)(h2:0≤times∧times≤15)(h3:0≤table∧table≤15)(h4:0≤n∧n≤7):EacFit base times table (q3s n):=
 ⟨h1,h2,h3,qyu n,fun i hi=>by rw[qfq n hi];exact h4⟩
theorem zc5{base times table n:Int}(h1:0≤base∧base≤255)(h2:0≤times∧times≤15)(h3:0≤table∧table≤15)(h4:0≤n∧n≤7):
  hv (eacJ base times table (q3s n) 19) 0 8=base∧hv (eacJ base times table (q3s n) 19) 8 4=times∧hv (eacJ base times table (q3s n) 19) 12 4=table∧∀i,i<16→(eacW (eacJ base times table (q3s n) 19)).getD i 0=n:=by
 have hf:=qte h1 h2 h3 h4
 refine⟨qtc hf (j:=0) (by decide),qtc hf (j:=1) (by decide),qtc hf (j:=2) (by decide),fun i hi=> ?_⟩
 rw[zf4 _ hi]
 have:=qtc hf (j:=i+3) (by omega)
 rw[show eacV base times table (q3s n) (i+3)=(q3s n).getD i 0 from rfl,qfq n hi]at this
 exact this
theorem zn9{n:Int}(h:0≤n∧n≤255):eacL (eacJ n 0 0 (q3s 0) 19) false=q3s n:=by
 obtain⟨p1,p2,p3,p4⟩:=zc5 (base:=n) (times:=0) (table:=0) (n:=0) h (by decide) (by decide) (by decide)
 unfold eacL
 rw[p1,p2,p3,table0]
 show tab 16 _=tab 16 _
 refine q0a fun i hi=> ?_
 rw[p4 i hi]
 unfold qbx
 simp only[yn,if_false,Int.mul_zero,Int.add_zero]
 omega
theorem z8m{n:Int}(h:0≤n∧n≤255):eacL (eacJ n 1 13 (q3s 4) 19) true=q3s (8*n+4):=by
 obtain⟨p1,p2,p3,p4⟩:=zc5 (base:=n) (times:=1) (table:=13) (n:=4) h (by decide) (by decide) (by decide)
 unfold eacL
 rw[p1,p2,p3,table13]
 show tab 16 _=tab 16 _
 refine q0a fun i hi=> ?_
 rw[p4 i hi,show([-1,-2,-3,-10,0,1,2,9]:LI).getD (y6 4) 0=0 from rfl]
 unfold qbx
 rw[iP rfl,iN (by decide),Int.zero_mul,Int.add_zero]
 omega
def zff:LI:=[0,0,0,0,255,255,0,0]
theorem z8n:Bytes zff:=fun x hx=>by
 unfold zff at hx
 simp only[yr,List.not_mem_nil,or_false]at hx
 omega
theorem zfg:qco 600 9 zff=some (tab 64 fun _=>0,0,()):=by kernel_rfl
theorem zjy:tab 64 (qdo zff true)=oneT fun _=>0:=by
 have h:=z8k z8n (k:=9) ⟨by decide,by decide⟩ rfl
 simp only[yp]at h
 rw[zfg]at h
 exact(Prod.mk.inj (Option.some.inj h)).1.symm
def bN(L s:LI)(c:Nat):Int:=(zb7 L (colT s c):Int)
theorem z4a{L:LI}(h:0<L.length)(s:LI)(c:Nat):0≤bN L s c∧bN L s c<(L.length:Int):=by
 have:=bestV_lt (L:=L) (l:=colT s c) h
 unfold bN
 omega
theorem zq2(b:Nat):(lvW b).length=2^b:=q21 _ _
theorem zq3:lvP.length=256:=q21 _ _
theorem zq4:lvL.length=32:=q21 _ _
theorem zq5:lvF.length=256:=q21 _ _
theorem bN_W{b:Nat}(hb:1≤b∧b≤8)(s:LI)(c:Nat):0≤bN (lvW b) s c∧bN (lvW b) s c<((2^b:Nat):Int):=by
 have:=z4a (L:=lvW b) (by rw[zq2];have:=pow_b hb;omega) s c
 rwa [zq2]at this
theorem bN_P(s:LI)(c:Nat):0≤bN lvP s c∧bN lvP s c≤255:=by
 have:=z4a (L:=lvP) (by rw[zq3];decide) s c
 rw[zq3]at this
 omega
theorem bN_L(s:LI)(c:Nat):0≤bN lvL s c∧bN lvL s c≤31:=by
 have:=z4a (L:=lvL) (by rw[zq4];decide) s c
 rw[zq4]at this
 omega
theorem bN_F(s:LI)(c:Nat):0≤bN lvF s c∧bN lvF s c≤255:=by
 have:=z4a (L:=lvF) (by rw[zq5];decide) s c
 rw[zq5]at this
 omega
section
variable {t:LI} (hl:t.length=64) (ht:Rg 2047 t)
include hl ht
theorem z8o{c:Nat}(hc:c<4):qho 600 t c=some (eacJ (bN lvF t c) 1 13 (q3s 4) 19,()):=by
 have h0:=zpz hl ht hc
 have hs:=zc4 4
 have hj:=zjq (F:=600) (by decide) (qte (base:=bN lvF t c) (times:=1) (table:=13) (n:=4) (by have:=bN_F t c;omega) (by decide) (by decide) (by decide))
 unfold q3s bN at hj
 unfold qho
 simp only[h0,y5,hs,hj]
 rfl
def plN(s:LI):LI:=[bN (lvW 6) s 0,bN (lvW 7) s 1,bN (lvW 6) s 2]
omit hl ht in
theorem plN_ok(s:LI):ok3 (plN s):=by
 have b0:=bN_W (b:=6) (by decide) s 0
 have b1:=bN_W (b:=7) (by decide) s 1
 have b2:=bN_W (b:=6) (by decide) s 2
 exact⟨⟨b0.1,b0.2⟩,⟨b1.1,b1.2⟩,⟨b2.1,b2.2⟩⟩
def plB(s:LI):LI:=layV (plN s) (plN s) (plN s)
theorem qwr:qe6 600 t=some (plB t,()):=by
 have h0:=z8l hl ht (c:=0) (by decide) (b:=6) (by decide)
 have h1:=z8l hl ht (c:=1) (by decide) (b:=7) (by decide)
 have h2:=z8l hl ht (c:=2) (by decide) (b:=6) (by decide)
 simp only[yp,yq,Int.natCast_one]at h0 h1 h2
 have hj:=layB_is (plN_ok t)
 unfold bN at hj
 unfold qe6
 simp only[h0,h1,h2,y5,hj]
 rfl
theorem zia(A T S U:LI)(hA:A.length=3):q6g 600 600 t A T S U 0=some (tab 3 fun c=>bN lvL t c,T,S,U,()):=by
 refine qfk 3 (fun c=>bN lvL t c) (fun k w i=>q6g 600 k t w T S U i) (fun w=>some (w,T,S,U,())) ?_ ?_ A hA 600 (by omega)
 ·intro k i w hi hw
  show qck 600 (q6g 600 k) _ _ _ _ _ _=_
  unfold qck
  have h3:(i:Int)<3:=by omega
  simp only[h3,dT,cT,zn6 hl ht (show i<4 by omega),y5,yc,yd,yb,q0d (show i<1000000000000 by omega)]
  rfl
 ·intro k w hw
  rfl
def liN(s:LI):LI:=tab 3 fun c=>bN lvL s c
theorem zjz:qnb 600 t=some (zjw (liN t),()):=by
 have hj:=liftB_is (A:=liN t) (qdm (by decide) fun c _=>bN_L t c)
 unfold qnb
 rw[zia hl ht _ _ _ _ rfl]
 simp only[y5]
 rw[show q2j=q3s 0 from rfl,show(tab 3 fun c=>bN lvL t c)=liN t from rfl,hj]
 simp only[y5]
end
def zq6(k:Nat)(s a b:LI):LI:=if q9i k b s<q9i k a s then b else a
theorem near_is{k:Nat}(h:Fmt k){s a b:LI}(hl:s.length=64)(hs:Rg 255 s)(ha:Bytes a)(hb:Bytes b)(la:a.length=q41 k)(lb:b.length=q41 k):qnh 600 k s a b=some (zq6 k s a b,()):=by
 unfold qnh zq6
 rw[qu4 ha h la hl hs,qu4 hb h lb hl hs]
 simp only[y5]
 by_cases hlt:q9i k b s<q9i k a s
 ·simp only[hlt,dT,cT,if_true]
 ·simp only[hlt,dF,cF,if_false]
def qjd(k:Nat)(s:LI):LI:=match k with
 |7=>zjw (liN s)
 |8=>plB s
 |9=>zq6 9 s (plB s) zff
 |10=>eacJ (bN lvP s 3) 0 0 (q3s 0) 19++plB s
 |11=>eacJ (bN lvF s 0) 1 13 (q3s 4) 19
 |_=>eacJ (bN lvF s 0) 1 13 (q3s 4) 19++eacJ (bN lvF s 1) 1 13 (q3s 4) 19
def Okb(n:Nat)(b:LI):Prop:=Bytes b∧b.length=n
theorem zk0{n m:Nat}{a b:LI}(ha:Okb n a)(hb:Okb m b):Okb (n+m) (a++b):=
 ⟨fun x hx=>(yk.1 hx).elim (ha.1 x) (hb.1 x),by rw[yo,ha.2,hb.2]⟩
theorem okb_near{n k:Nat}{s a b:LI}(ha:Okb n a)(hb:Okb n b):Okb n (zq6 k s a b):=by
 unfold zq6
 split
 ·exact hb
 ·exact ha
theorem zq7(A:LI):Okb 8 (zjw A):=⟨z1h _ _ _ _ _ _,zby _ _ _ _ _ _⟩
theorem z8p(s:LI):Okb 8 (plB s):=zf0 _ _ _
theorem qyv(a b c:Int)(w:LI):Okb 8 (eacJ a b c w 19):=⟨zn3 _ _ _ _,qhd _ _ _ _⟩
theorem bareB_ok:Okb 8 zff:=⟨z8n,rfl⟩
theorem zlq(s:LI){k:Nat}(h:Fmt k):Okb (q41 k) (qjd k s):=
 qj3 (p:=fun k=>Okb (q41 k) (qjd k s)) (zq7 _) (z8p _)
  (okb_near (z8p _) bareB_ok) (zk0 (qyv _ _ _ _) (z8p _)) (qyv _ _ _ _) (zk0 (qyv _ _ _ _) (qyv _ _ _ _)) h
section
variable {t:LI} (hl:t.length=64)
include hl
theorem blk_7(ht:Rg 255 t):q38 600 7 t=some (qjd 7 t,()):=by
 have h:=zjz hl (q4a ht (by decide))
 unfold q38
 simp only[Int.reduceBEq,cT,cF,h,y5]
 rfl
theorem blk_8(ht:Rg 255 t):q38 600 8 t=some (qjd 8 t,()):=by
 have h:=qwr hl (q4a ht (by decide))
 unfold q38
 simp only[Int.reduceBEq,cT,cF,h,y5]
 rfl
theorem blk_9(ht:Rg 255 t):q38 600 9 t=some (qjd 9 t,()):=by
 have h:=qwr hl (q4a ht (by decide))
 have h3:=near_is (k:=9) ⟨by decide,by decide⟩ hl ht (z8p t).1 bareB_ok.1 (z8p t).2 bareB_ok.2
 simp only[yp]at h3
 unfold q38
 rw[show qlj=zff from rfl]
 simp only[Int.reduceBEq,cT,cF,h,h3,y5]
 rfl
theorem blk_10(ht:Rg 255 t):q38 600 10 t=some (qjd 10 t,()):=by
 have h:=qwr hl (q4a ht (by decide))
 have h1:=zn5 hl (q4a ht (by decide)) (c:=3) (by decide)
 have h2:=zjq (F:=600) (by decide) (qte (base:=bN lvP t 3) (times:=0) (table:=0) (n:=0) (bN_P t 3) (by decide) (by decide) (by decide))
 simp only[yp]at h1
 unfold q3s bN at h2
 unfold q38
 simp only[Int.reduceBEq,cT,cF,h1,zc4,h2,h,y5,(z8p _).2,qhd,show(8+8≤1099511627776)=True by simp,dT,yd]
 rfl
theorem blk_11(ht:Rg 2047 t):q38 600 11 t=some (qjd 11 t,()):=by
 have h1:=z8o hl ht (c:=0) (by decide)
 simp only[yq]at h1
 unfold q38
 simp only[Int.reduceBEq,cT,cF,h1,y5]
 rfl
theorem blk_12(ht:Rg 2047 t):q38 600 12 t=some (qjd 12 t,()):=by
 have h1:=z8o hl ht (c:=0) (by decide)
 have h2:=z8o hl ht (c:=1) (by decide)
 simp only[yq,Int.natCast_one]at h1 h2
 unfold q38
 simp only[Int.reduceBEq,cT,cF,h1,h2,y5,qhd,show(8+8≤1099511627776)=True by simp,dT,yd]
 rfl
theorem blk_is{k:Nat}(h:Fmt k):Rg (z1k k) t→q38 600 k t=some (qjd k t,()):=
 qj3 (p:=fun k=>Rg (z1k k) t→q38 600 (k:Int) t=some (qjd k t,())) (fun h=>blk_7 hl h) (fun h=>blk_8 hl h) (fun h=>blk_9 hl h) (fun h=>blk_10 hl h) (fun h=>blk_11 hl h) (fun h=>blk_12 hl h) h
end
theorem sqN(x:Int):0≤x*x:=(qhe (m:=(x.natAbs:Int)) (by omega)).1
theorem qws{m:Int}(hm:0≤m){v:Nat→Int}(h:∀c,c<4→0≤v c∧v c≤m):Rg m (oneT v):=qdm hm fun j _=>h _ (by omega)
theorem z1m{k:Nat}(h:Fmt k){b s:LI}(hb:Bytes b)(hs:Rg 255 s):0≤q9i k b s:=
 zju (q4a (qyo hs) (qyq k)) (q4a (z48 hb h) (qyq k))
theorem zna{k:Nat}(hk:Fmt k){t:LI}(hl:t.length=64)(ht:Rg 255 t)(hb:qlh 600 t=some (true,())):qtt 600 k t=some (qjd k (scT k t),0,()):=by
 unfold qtt
 rw[zn4 600 hk,hb]
 simp only[y5,bne_self_eq_false,cF,Bool.not_true,zfa hk hl ht,blk_is (zf9 hl) hk (qyo ht)]
theorem lo_app{a b:LI}(la:a.length=8):lo13 (a++b)=a:=by
 unfold lo13
 rw[←la,List.take_left]
theorem hi_app{a b:LI}(la:a.length=8)(lb:b.length=8):hi13 (a++b)=b:=by
 unfold hi13
 rw[yo,la,lb,show 8+8-8=8 from rfl]
 conv=>lhs;rw[←la]
 rw[List.drop_left,List.take_of_length_le (by omega)]
theorem qk9(v:Nat→Int){j:Nat}(hj:j<64):(oneT v).getD j 0=v (j%4):=q77 hj
theorem zlr(c:Nat)(n:Int)(v:Nat→Int):wT c (q3s n) (oneT v)=oneT fun q=>if q=c then n else v q:=by
 unfold wT
 show tab 64 _=tab 64 _
 refine q0a fun j hj=> ?_
 rw[qfq n (show j/4<16 by omega),qk9 v hj]
theorem zib(a:Int):qmf a=oneT fun q=>if q=3 then a else 0:=rfl
def plC(s:LI)(c:Nat):Int:=(qdi (bN (lvW 6) s 0) (bN (lvW 7) s 1) (bN (lvW 6) s 2)).getD c 0
def liC(s:LI)(c:Nat):Int:=if c=3 then 255 else q0w (q0s 5 ((liN s).getD c 0)+2)
def b9(s:LI):Prop:=q9i 9 zff s<q9i 9 (plB s) s
instance (s:LI):Decidable (b9 s):=by unfold b9;exact inferInstance
def col14(k:Nat)(s:LI):Nat→Int:=match k with
 |7=>liC s
 |8=>plC s
 |9=>if b9 s then fun _=>0 else plC s
 |10=>fun q=>if q=3 then bN lvP s 3 else plC s q
 |11=>fun q=>if q=0 then 8*bN lvF s 0+4 else if q=3 then 2047 else 0
 |_=>fun q=>if q=1 then 8*bN lvF s 1+4 else if q=0 then 8*bN lvF s 0+4 else if q=3 then 2047 else 0
theorem zq8(s:LI)(p:Bool):tab 64 (qdo (plB s) p)=oneT (plC s):=zq1 (plN_ok s) p
theorem dec_blk(s:LI){k:Nat}(h:Fmt k):qmi k (qjd k s)=oneT (col14 k s):=by
 refine qj3 (p:=fun k=>qmi k (qjd k s)=oneT (col14 k s)) ?_ ?_ ?_ ?_ ?_ ?_ h
 ·exact zjx (q21 _ _) (qdm (by decide) fun c _=>bN_L s c)
 ·exact zq8 s false
 ·show tab 64 (qdo (if b9 s then zff else plB s) true)=oneT (if b9 s then fun _=>0 else plC s)
  split
  ·exact zjy
  ·exact zq8 s true
 ·show wT 3 (eacL (lo13 (eacJ (bN lvP s 3) 0 0 (q3s 0) 19++plB s)) false) (tab 64 (qdo (hi13 (eacJ (bN lvP s 3) 0 0 (q3s 0) 19++plB s)) false))=_
  rw[lo_app (qhd _ _ _ _),hi_app (qhd _ _ _ _) (z8p s).2,zn9 (bN_P s 3),zq8,zlr]
  rfl
 ·show wT 0 (eacL (lo13 (eacJ (bN lvF s 0) 1 13 (q3s 4) 19)) true) (qmf 2047)=_
  rw[lo13_8 (qhd _ _ _ _),z8m (bN_F s 0),zib,zlr]
  rfl
 ·show wT 1 (eacL (hi13 (eacJ (bN lvF s 0) 1 13 (q3s 4) 19++eacJ (bN lvF s 1) 1 13 (q3s 4) 19)) true) (wT 0 (eacL (lo13 (eacJ (bN lvF s 0) 1 13 (q3s 4) 19++eacJ (bN lvF s 1) 1 13 (q3s 4) 19)) true) (qmf 2047))=_
  rw[lo_app (qhd _ _ _ _),hi_app (qhd _ _ _ _) (qhd _ _ _ _),z8m (bN_F s 0),z8m (bN_F s 1),zib,zlr,zlr]
  rfl
theorem qfr(f:Nat→Int)(n:Nat):sumN f (n+1)=sumN f n+f n:=rfl
theorem zic(f:Nat→Int):∀n,sumN f (n*4)=sumN (fun i=>f (i*4+0)+f (i*4+1)+f (i*4+2)+f (i*4+3)) n
 |0=>rfl
 |n+1=>by
  rw[show(n+1)*4=n*4+1+1+1+1 by omega,qfr,qfr,qfr,qfr,qfr,zic f n,show n*4+1+1=n*4+2 by omega,show n*4+2+1=n*4+3 by omega]
  simp only[Nat.add_zero]
  omega
theorem zk1:((yz 16).all fun i=>(y0 .i64 ((16:Int)+(y0 .i64 ((3:Int)*(y0 .i64 ((y0 .i64 ((4:Int)*(yv (i:Int) (4:Int))))+(y0 .i64 (yw (i:Int) (4:Int))))))))==(qqg i:Int)))=true:=by kernel_rfl
theorem at12_is{i:Nat}(h:i<16):y0 .i64 ((16:Int)+(y0 .i64 ((3:Int)*(y0 .i64 ((y0 .i64 ((4:Int)*(yv (i:Int) (4:Int))))+(y0 .i64 (yw (i:Int) (4:Int))))))))=(qqg i:Int):=by
 have:=List.all_eq_true.1 zk1 i (by simpa using h)
 simpa using this
theorem zk2{b:LI}(hb:Bytes b)(hl:b.length=8):qne 600 b=some (hv b 0 8,hv b 8 4,hv b 12 4,eacW b,0,()):=by
 have loop:∀T:LI,q6h 600 600 b T q2j 0=some (b,T,eacW b,()):=by
  intro T
  refine qfk 16 (fun i=>hv b (qqg i) 3) (fun k w i=>q6h 600 k b T w i) (fun w=>some (b,T,w,())) ?_ ?_ _ rfl 600 (by omega)
  ·intro k i w hi hw
   show qcn 600 (q6h 600 k) b T w i=_
   unfold qcn
   have:=zll hi
   have e:=qfl (F:=600) (by decide) hb hl (a:=qqg i) (n:=3) (by decide) (by omega)
   simp only[yp]at e
   have h1:(i:Int)<16:=by omega
   simp only[h1,dT,cT,at12_is hi,e,y5,yc,yd,q0d (show i<1000000000000 by omega),yb]
  ·intro k w hw
   rfl
 unfold qne
 have e1:=qfl (F:=600) (by decide) hb hl (a:=0) (n:=8) (by decide) (by decide)
 have e2:=qfl (F:=600) (by decide) hb hl (a:=8) (n:=4) (by decide) (by decide)
 have e3:=qfl (F:=600) (by decide) hb hl (a:=12) (n:=4) (by decide) (by decide)
 simp only[yp,yq]at e1 e2 e3
 have e:((b.length:Int) !=8)=false:=by rw[hl];rfl
 simp only[e,cF,loop,y5,e1,e2,e3]
theorem z8q:((yz 16).all fun n=>qnf 600 (n:Int)==q3y 600 (n:Int))=true:=by kernel_rfl
theorem zk3{n:Int}(h:0≤n∧n≤15):qnf 600 n=q3y 600 n:=by
 obtain⟨m,rfl⟩:=yh h.1
 have:=List.all_eq_true.1 z8q m (by simp;omega)
 simpa using this
theorem zk4{base times number:Int}(hb:0≤base∧base≤255)(ht:0≤times∧times≤15)(hn: -15≤number∧number≤15)(wide:Bool):qng 600 base times number wide=some (qbx base times number wide,()):=by
 have hm:=mulB (c:=15) hn ht (by decide)
 have e8:number*(8*times)=8*(number*times):=by rw[←Int.mul_assoc,Int.mul_comm number 8,Int.mul_assoc]
 have cl:∀x m:Int,0≤m→q6c 600 x m=some (max 0 (min x m),()):=fun x m hm=>by
  unfold q6c
  by_cases h1:m<x
  ·have h2:¬m<0:=by omega
   simp only[h1,h2,dT,dF,cT,cF]
   rw[show max 0 (min x m)=m by omega]
  ·by_cases h2:x<0
   ·simp only[h1,h2,dT,dF,cT,cF]
    rw[show max 0 (min x m)=0 by omega]
   ·simp only[h1,h2,dF,cF]
    rw[show max 0 (min x m)=x by omega]
 unfold qng qbx
 rw[cl _ 255 (by decide),cl _ 2047 (by decide),cl _ 2047 (by decide),w64 (x:=number*times) (by omega) (by omega),w64 (x:=base+number*times) (by omega) (by omega),w64 (x:=8*base) (by omega) (by omega),w64 (x:=8*base+4) (by omega) (by omega),Int.mul_one,
  w64 (x:=number) (by omega) (by omega),w64 (x:=8*base+4+number) (by omega) (by omega),w64 (x:=8*times) (by omega) (by omega),e8,w64 (x:=8*(number*times)) (by omega) (by omega),w64 (x:=8*base+4+8*(number*times)) (by omega) (by omega)]
 cases wide
 ·rfl
 ·by_cases h0:times=0
  ·subst h0
   rfl
  ·simp only[Bool.not_true,cF,beqF h0,y5,if_true,h0,if_false]
   rw[show 8*base+4+8*(number*times)=8*(base+number*times)+4 by omega]
theorem qfs{b:LI}(hb:Bytes b)(hl:b.length=8)(wide:Bool):q69 600 b wide=some (eacL b wide,0,()):=by
 obtain⟨f1,f2,f3,f4,f5⟩:=zln (b:=b)
 obtain⟨tbl,h1,_,h3⟩:=zf5 600 (n:=hv b 12 4) f3
 have h1' :=zk3 f3
 rw[h1]at h1'
 have loop:∀T:LI,q56 600 600 wide T (hv b 0 8) (hv b 8 4) (hv b 12 4) (eacW b) 0=some (T,eacD (hv b 0 8) (hv b 8 4) tbl (eacW b) wide,()):=by
  intro T
  refine zbv 16 (fun i=>qbx (hv b 0 8) (hv b 8 4) (tbl.getD ((eacW b).getD i 0).toNat 0) wide) (eacW b) (fun k w i=>q56 600 k wide T (hv b 0 8) (hv b 8 4) (hv b 12 4) w i) (fun w=>some (T,w,())) ?_ ?_ f4 600 (by omega)
  ·intro k i w hi hw hs
   show qaw 600 (q56 600 k) wide T (hv b 0 8) (hv b 8 4) (hv b 12 4) w i=_
   unfold qaw
   have h4:(i:Int)<16:=by omega
   have h2:=f5 i hi
   have h5:(eacW b).getD i 0<8:=by omega
   have e:=hs i (w8 _)
   simp only[h4,dT,cT,yc,yd,yb,h1',y5,e,h2.1,h5,zk4 f1 f2 (h3 _),q0d (show i<1000000000000 by omega)]
  ·intro k w hw
   rfl
 unfold q69
 rw[zk2 hb hl]
 simp only[y5,bne_self_eq_false,cF,loop]
 unfold eacL
 rw[h1]
theorem zid{c:Nat}(hc:c<4)(l t T:LI):∀(d i k:Nat),i+d=16→d<k→q9t 600 k c (tab 64 (upW c i l t)) l T (i:Int)=some (tab 64 (upW c 16 l t),T,()):=by
 intro d
 induction d with
 |zero=>
  intro i k h1 h2
  obtain⟨k,rfl⟩:∃k',k=k' +1:=⟨k-1,by omega⟩
  obtain rfl:i=16:=by omega
  rfl
 |succ d ih=>
  intro i k h1 h2
  obtain⟨k,rfl⟩:∃k',k=k' +1:=⟨k-1,by omega⟩
  show qep 600 (q9t 600 k) c (tab 64 (upW c i l t)) l T i=_
  unfold qep
  have h3:(i:Int)<16:=by omega
  have h4:(c:Int)<4:=by omega
  simp only[h3,h4,dT,cT,yc,yd,yb,zpv hc (show i<16 by omega),q0d (show i<1000000000000 by omega)]
  exact ih (i+1) k (by omega) (by omega)
theorem zfh{c:Nat}(hc:c<4){l t:LI}(ht:t.length=64):q1l 600 t l c=some (wT c l t,()):=by
 have h:=zid hc l t q3q 16 0 600 (by omega) (by omega)
 have e0:tab 64 (upW c 0 l t)=t:=by
  conv=>rhs;rw[qge ht]
  exact q0a fun j hj=>by unfold upW;rw[iN (by omega)]
 have e1:tab 64 (upW c 16 l t)=wT c l t:=q0a fun j hj=>by
  unfold upW
  by_cases h2:j%4=c
  ·rw[iP h2,iP (by omega)]
  ·rw[iN h2,iN (by omega)]
 rw[e0,e1]at h
 unfold q1l
 rw[show((0:Nat):Int)=0 from rfl]at h
 rw[h]
 rfl
theorem rblank_is:q55 600 255=some (qmf 255,())∧q55 600 2047=some (qmf 2047,()):=by constructor<;>kernel_rfl
theorem zie{b:LI}(hb:Bytes b){k:Nat}(h:Fmt k)(hl:b.length=q41 k):qjn 600 (k:Int) b=some (qmi k b,0,()):=by
 have hlo:=qmh hb
 have hhi:=qu1 hb
 have hg:=z0h k
 have l1:=z47 (b:=b) (by omega)
 have l2:=zf8 (b:=b) (by omega)
 have e8:y0 .i64 ((b.length:Int)-8)=((b.length-8:Nat):Int):=by rw[w64 (by omega) (by omega)];omega
 have r7:=z7y (F:=600) (by decide) hlo l1
 have r7' :=z7y (F:=600) (by decide) hhi l2
 have c1:((b.length:Int) !=(q41 k:Int))=false:=by rw[hl];simp
 have c2:8≤b.length:=by omega
 have c3:b.length-8≤b.length:=by omega
 have ht:psub b.length (b.length-8)=8:=by rw[zit];omega
 have p3:∀{l t:LI},t.length=64→q1l 600 t l 3=some (wT 3 l t,()):=fun ht=>zfh (c:=3) (by decide) ht
 have p0:∀{l t:LI},t.length=64→q1l 600 t l 0=some (wT 0 l t,()):=fun ht=>zfh (c:=0) (by decide) ht
 have p1:∀{l t:LI},t.length=64→q1l 600 t l 1=some (wT 1 l t,()):=fun ht=>zfh (c:=1) (by decide) ht
 unfold qjn
 rw[(rOf_is 600 _).1,zn4 600 h]
 simp only[y5,bne_self_eq_false,cF,c1,c2,c3,dT,cT,e8,yc,yb,yd,ht]
 rw[show y8 8 b=lo13 b from rfl,show y8 8 (y9 (b.length-8) b)=hi13 b from rfl,r7,r7']
 simp only[y5]
 refine qj3 (p:=fun k=>b.length=q41 k→(cond ((k:Int)==(1:Int))
       none
      (cond ((k:Int)==(2:Int))
        none
       (cond ((k:Int)==(3:Int))
         none
        (cond ((k:Int)==(4:Int))
         ((q55 600 (255:Int)).bind fun r8437=>
         (q1l 600 r8437.1 (zp3 (lo13 b)) (0:Int)).bind fun r8438=>
         some (r8438.1,(0:Int),()))
         (cond ((k:Int)==(5:Int))
          ((q55 600 (255:Int)).bind fun r8440=>
          (q1l 600 r8440.1 (zp3 (lo13 b)) (0:Int)).bind fun r8441=>
          (q1l 600 r8441.1 (zp3 (hi13 b)) (1:Int)).bind fun r8442=>
          some (r8442.1,(0:Int),()))
          (cond ((k:Int)==(6:Int))
            none
           (cond ((k:Int)==(7:Int))
            ((qf4 600 b).bind fun r12480=>
            some (r12480.1,r12480.2.1,()))
            (cond ((k:Int)==(8:Int))
             ((q66 600 b false).bind fun r13133=>
             some (r13133.1,r13133.2.1,()))
             (cond ((k:Int)==(9:Int))
              ((q66 600 b true).bind fun r13135=>
              some (r13135.1,r13135.2.1,()))
              (cond ((k:Int)==(10:Int))
               ((q66 600 (hi13 b) false).bind fun r13137=>
               (q69 600 (lo13 b) false).bind fun r13248=>
               (q1l 600 r13137.1 r13248.1 (3:Int)).bind fun r13249=>
               some (r13249.1,(0:Int),()))
               ((q69 600 (lo13 b) true).bind fun r13250=>
               (q69 600 (hi13 b) true).bind fun r13251=>
               cond ((k:Int)==(11:Int))
                ((q55 600 (2047:Int)).bind fun r13253=>
                (q1l 600 r13253.1 r13250.1 (0:Int)).bind fun r13254=>
                some (r13254.1,(0:Int),()))
                ((q55 600 (2047:Int)).bind fun r13255=>
                (q1l 600 r13255.1 r13250.1 (0:Int)).bind fun r13256=>
                (q1l 600 r13256.1 r13251.1 (1:Int)).bind fun r13257=>
                some (r13257.1,(0:Int),())))))))))))))=some (qmi k b,0,())) ?_ ?_ ?_ ?_ ?_ ?_ h hl
 ·intro hl
  simp only[yp,Int.reduceBEq,cT,cF,(z87 (F:=600) (by decide) hb hl).2,y5]
  rfl
 ·intro hl
  simp only[yp,Int.reduceBEq,cT,cF,qta hb hl false,y5]
  rfl
 ·intro hl
  simp only[yp,Int.reduceBEq,cT,cF,qta hb hl true,y5]
  rfl
 ·intro hl
  simp only[yp,Int.reduceBEq,cT,cF,qta hhi l2 false,qfs hlo l1 false,p3 (q21 64 _),y5]
  rfl
 ·intro hl
  simp only[yp,Int.reduceBEq,cT,cF,qfs hlo l1 true,qfs hhi l2 true,rblank_is.2,p0 (qu0 2047),y5]
  rfl
 ·intro hl
  simp only[yp,Int.reduceBEq,cT,cF,qfs hlo l1 true,qfs hhi l2 true,rblank_is.2,p0 (qu0 2047),p1 (wT_len _ _ _),y5]
  rfl
theorem zfi{t:LI}(ht:Rg 255 t)(T:LI)(y z:Int){i:Nat}(hi:i<16):∀(d c k:Nat),c+d=4→d<k→
  q8e 600 k (tab 64 (upS (i*4+c) t)) T y z true (i:Int) (c:Int) true=some (tab 64 (upS (i*4+4) t),T,y,z,true,(i:Int),true,()):=by
 intro d
 induction d with
 |zero=>
  intro c k h1 h2
  obtain⟨k,rfl⟩:∃k',k=k' +1:=⟨k-1,by omega⟩
  obtain rfl:c=4:=by omega
  rfl
 |succ d ih=>
  intro c k h1 h2
  obtain⟨k,rfl⟩:∃k',k=k' +1:=⟨k-1,by omega⟩
  show qcl 600 (q8e 600 k) (tab 64 (upS (i*4+c) t)) T y z true i c true=_
  unfold qcl
  have h3:(i:Int)<16:=by omega
  have h4:(c:Int)<4:=by omega
  have hv:=ht (i*4+c)
  have g:(tab 64 (upS (i*4+c) t)).getD (i*4+c) 0=t.getD (i*4+c) 0:=by
   rw[q77 (by omega)]
   unfold upS
   rw[iN (by omega)]
  have e:y0 .i64 (y0 .i64 (8*t.getD (i*4+c) 0)+y0 .i64 (yw (t.getD (i*4+c) 0) 32))=scV (t.getD (i*4+c) 0):=by
   rw[q2o hv.1,w64 (x:=8*t.getD (i*4+c) 0) (by omega) (by omega),w64 (x:=t.getD (i*4+c) 0/32) (by omega) (by omega),w64 (by omega) (by omega)]
   rfl
  simp only[h3,h4,dT,cT,yc,yd,yb,g,e,zpx (t:=t) (show i*4+c<64 by omega),q0d (show c<1000000000000 by omega)]
  exact ih (c+1) k (by omega) (by omega)
theorem zfj{t:LI}(ht:Rg 255 t)(T:LI)(y z:Int):∀(d i k:Nat),i+d=16→d<k→q8f 600 k (tab 64 (upS (i*4) t)) T y z true (i:Int)=some (tab 64 (upS 64 t),T,()):=by
 intro d
 induction d with
 |zero=>
  intro i k h1 h2
  obtain⟨k,rfl⟩:∃k',k=k' +1:=⟨k-1,by omega⟩
  obtain rfl:i=16:=by omega
  rfl
 |succ d ih=>
  intro i k h1 h2
  obtain⟨k,rfl⟩:∃k',k=k' +1:=⟨k-1,by omega⟩
  show qcm 600 (q8f 600 k) (tab 64 (upS (i*4) t)) T y z true i=_
  unfold qcm
  have h3:(i:Int)<16:=by omega
  have h:=zfi ht T y z (i:=i) (by omega) 4 0 600 (by omega) (by omega)
  simp only[Nat.add_zero,yq]at h
  simp only[h3,dT,cT,h,y5,q0d (show i<1000000000000 by omega)]
  rw[show i*4+4=(i+1)*4 by omega]
  exact ih (i+1) k (by omega) (by omega)
theorem zq9{k:Nat}(h:Fmt k){t:LI}(hl:t.length=64)(ht:Rg 255 t):qnd 600 (k:Int) t=some (scT k t,()):=by
 unfold qnd scT
 rw[(rOf_is 600 _).1,zn4 600 h]
 simp only[y5]
 cases qyn k
 ·rfl
 ·have h:=zfj ht q3q (q41 k:Int) (qmg k) 16 0 600 (by omega) (by omega)
  have e0:tab 64 (upS (0*4) t)=t:=by
   conv=>rhs;rw[qge hl]
   exact q0a fun j hj=>by unfold upS;rw[iN (by omega)]
  have e1:tab 64 (upS 64 t)=tab 64 fun j=>scV (t.getD j 0):=q0a fun j hj=>by unfold upS;rw[iP hj]
  rw[e0,e1,show((0:Nat):Int)=0 from rfl]at h
  simp only[h,y5,if_true]
section
variable {base times table:Int} {w:LI} (hf:EacFit base times table w)
include hf
end
section
variable {t:LI} (hl:t.length=64) (ht:Rg 2047 t)
include hl ht
end
section
variable {t:LI} (hl:t.length=64) (ht:Rg 255 t)
include hl ht
end
theorem znb(v:Nat→Int):qi4 600 (tab 4 v)=some (oneT v,()):=by
 have key:∀(T:LI) (d i k:Nat),i+d=16→d<k→q8d 600 k (tab 4 v) T (tab 64 fun j=>if j<i*4 then v (j%4)else 0) (i:Int)=some (T,oneT v,()):=by
  intro T d
  induction d with
  |zero=>
   intro i k h1 h2
   obtain⟨k,rfl⟩:∃k',k=k' +1:=⟨k-1,by omega⟩
   obtain rfl:i=16:=by omega
   show some (T,tab 64 _,())=_
   rw[q0a (g:=fun j=>if j<16*4 then v (j%4)else 0) (f:=fun j=>v (j%4)) fun j hj=>iP hj]
   rfl
  |succ d ih=>
   intro i k h1 h2
   obtain⟨k,rfl⟩:∃k',k=k' +1:=⟨k-1,by omega⟩
   show qci 600 (q8d 600 k) _ _ _ _=_
   unfold qci
   have h3:(i:Int)<16:=by omega
   simp only[h3,dT,cT,yc,yd,yb,q0d (show i<1000000000000 by omega)]
   have e:(tab 64 fun j=>if j/4=i then v (j%4)else if j<i*4 then v (j%4)else 0)=tab 64 fun j=>if j<(i+1)*4 then v (j%4)else 0:=q0a fun j hj=>by
    by_cases hj' :j/4=i
    ·rw[iP hj',iP (by omega)]
    ·rw[iN hj']
     by_cases hl:j<i*4
     ·rw[iP hl,iP (by omega)]
     ·rw[iN hl,iN (by omega)]
   rw[qgf (show i*4+4≤64 by omega),e]
   exact ih (i+1) k (by omega) (by omega)
 have h:=key q3q 16 0 600 (by omega) (by omega)
 have e0:(tab 64 fun j=>if j<0*4 then v (j%4)else 0)=q3q:=by
  rw[q0a (f:=fun _=>0) fun j hj=>iN (by omega)]
  rfl
 rw[e0,show((0:Nat):Int)=0 from rfl]at h
 unfold qi4
 rw[h]
 rfl
section
variable {t:LI} (hl:t.length=64) (ht:Rg 255 t)
include hl ht
end
theorem zc6{σ ρ:Type}{N:Nat}(hN:N≤500)(L:Nat→σ→Int→Option ρ)(I:Nat→σ→Prop)(R:ρ→Prop)
  (step:∀k i s,i<N→I i s→∃s',I (i+1) s' ∧L (k+1) s (i:Int)=L k s' ((i+1:Nat):Int))
  (stop:∀k s,I N s→∃r,R r∧L (k+1) s (N:Int)=some r) (i0:Nat) (hi:i0≤N) {s:σ} (h0:I i0 s) (k:Nat) (hk:N-i0<k):∃r,R r∧L k s (i0:Int)=some r:=by
 have key:∀(d i k:Nat) (s:σ),i+d=N→d<k→I i s→∃r,R r∧L k s (i:Int)=some r:=by
  intro d
  induction d with
  |zero=>
   intro i k s h1 h2 hI
   obtain⟨k,rfl⟩:∃k',k=k' +1:=⟨k-1,by omega⟩
   obtain rfl:i=N:=by omega
   exact stop k s hI
  |succ d ih=>
   intro i k s h1 h2 hI
   obtain⟨k,rfl⟩:∃k',k=k' +1:=⟨k-1,by omega⟩
   obtain⟨s',h3,h4⟩:=step k i s (by omega) hI
   rw[h4]
   exact ih (i+1) k s' (by omega) (by omega) h3
 exact key (N-i0) i0 k s (by omega) hk h0
theorem q0e{σ ρ:Type}{N:Nat}(hN:N≤500)(L:Nat→σ→Int→Option ρ)(I:Nat→σ→Prop)(R:ρ→Prop)
  (step:∀k i s,i<N→I i s→∃s',I (i+1) s' ∧L (k+1) s (i:Int)=L k s' ((i+1:Nat):Int))
  (stop:∀k s,I N s→∃r,R r∧L (k+1) s (N:Int)=some r) {s:σ} (h0:I 0 s):∃r,R r∧L 600 s 0=some r:=
 zc6 hN L I R step stop 0 (by omega) h0 600 (by omega)
def cstL(wide:Bool)(base times:Int)(l:LI)(u:Int)(k:Nat):Int:=(qbx base times (l.getD k 0) wide-u)*(qbx base times (l.getD k 0) wide-u)
theorem z8r(base times n:Int)(wide:Bool):0≤qbx base times n wide∧qbx base times n wide≤2047:=by
 have:=z1j base times n wide
 cases wide<;>simp only[yn,if_false,if_true]at this<;>omega
theorem qu5(wide:Bool)(base times:Int)(l:LI){u:Int}(hu:0≤u∧u≤2047)(k:Nat):0≤cstL wide base times l u k∧cstL wide base times l u k≤2047*2047:=by
 have h:=z8r base times (l.getD k 0) wide
 exact qhe (m:=2047) (by omega)
def L15(l:LI):Prop:=∀i,-15≤l.getD i 0∧l.getD i 0≤15
section
variable {base times:Int} (hb:0≤base∧base≤255) (ht:0≤times∧times≤15) {l:LI} (hl:L15 l) (wide:Bool) {row:LI} {c:Nat} (hc:c<4) (hu:0≤row.getD c 0∧row.getD c 0≤2047)
include hb ht hl hc hu
theorem zqa{k:Nat}(hk:k<8):q2v 600 (k:Int) base times l wide row (c:Int)=some (cstL wide base times l (row.getD c 0) k,()):=by
 have h1:(k:Int)<8:=by omega
 have h2:(c:Int)<4:=by omega
 have h3:=z8r base times (l.getD k 0) wide
 have h4:=qu5 wide base times l hu k
 unfold cstL at h4⊢
 unfold q2v
 simp only[h1,h2,dT,cT,yc,yd,yb,zf6 600 hb ht (hl k),y5]
 rw[w64 (x:=qbx base times (l.getD k 0) wide-row.getD c 0) (by omega) (by omega),w64 (by omega) (by omega)]
theorem zif:∀(d i k:Nat),1≤i→i+d=8→d<k→q0b 600 k 8 base times l wide row (c:Int) (q35 (cstL wide base times l (row.getD c 0)) i:Int) (i:Int)=some ((q35 (cstL wide base times l (row.getD c 0)) 8:Int),()):=by
 intro d
 induction d with
 |zero=>
  intro i k h0 h1 h2
  obtain⟨k,rfl⟩:∃k',k=k' +1:=⟨k-1,by omega⟩
  obtain rfl:i=8:=by omega
  rfl
 |succ d ih=>
  intro i k h0 h1 h2
  obtain⟨k,rfl⟩:∃k',k=k' +1:=⟨k-1,by omega⟩
  show q0m 600 (q0b 600 k) _ _ _ _ _ _ _ _ _=_
  unfold q0m
  have h3:(i:Int)<8:=by omega
  have hlt:=qfp (cstL wide base times l (row.getD c 0)) (n:=i) (by omega)
  have nx:=ih (i+1) k (by omega) (by omega) (by omega)
  rw[show q35 (cstL wide base times l (row.getD c 0)) (i+1)=if i=0 then 0 else if cstL wide base times l (row.getD c 0) i<cstL wide base times l (row.getD c 0) (q35 (cstL wide base times l (row.getD c 0)) i)then i else q35 (cstL wide base times l (row.getD c 0)) i from rfl,iN (by omega)]at nx
  simp only[h3,dT,cT,zqa hb ht hl wide hc hu (show i<8 by omega),zqa hb ht hl wide hc hu (show q35 (cstL wide base times l (row.getD c 0)) i<8 by omega),y5,q0d (show i<1000000000000 by omega)]
  by_cases hc' :cstL wide base times l (row.getD c 0) i<cstL wide base times l (row.getD c 0) (q35 (cstL wide base times l (row.getD c 0)) i)
  ·rw[iP hc']at nx
   simp only[hc',dT,cT]
   exact nx
  ·rw[iN hc']at nx
   simp only[hc',dF,cF]
   exact nx
theorem zig:q13 600 8 base times l wide row (c:Int)=some ((q35 (cstL wide base times l (row.getD c 0)) 8:Int),()):=by
 have h:=zif hb ht hl wide hc hu 7 1 600 (by omega) (by omega) (by omega)
 have e:q35 (cstL wide base times l (row.getD c 0)) 1=0:=rfl
 rw[e]at h
 unfold q13
 rw[show((0:Nat):Int)=0 from rfl,show((1:Nat):Int)=1 from rfl]at h
 rw[h]
 rfl
end
def whL(wide:Bool)(base times:Int)(l t:LI)(c:Nat)(i:Nat):Int:=(q35 (cstL wide base times l (t.getD (i*4+c) 0)) 8:Int)
def sumL(wide:Bool)(base times:Int)(l t:LI)(c:Nat):Int:=sumN (fun i=>cstL wide base times l (t.getD (i*4+c) 0) (q35 (cstL wide base times l (t.getD (i*4+c) 0)) 8)) 16
theorem whL_lt(wide:Bool)(base times:Int)(l t:LI)(c i:Nat):0≤whL wide base times l t c i∧whL wide base times l t c i≤7:=by
 have:=qfp (cstL wide base times l (t.getD (i*4+c) 0)) (n:=8) (by decide)
 unfold whL
 omega
theorem row16{t:LI}(hl:t.length=64){i:Nat}(hi:i<16):y8 4 (y9 (i*4) t)=tab 4 fun c=>t.getD (i*4+c) 0:=q78 hl (by omega)
section
variable {t:LI} (tl:t.length=64) (tr:Rg 2047 t) {c:Nat} (hc:c<4)
include tl tr hc
theorem c1_l0_in{base times:Int}(hb:0≤base∧base≤255)(ht:0≤times∧times≤15){l:LI}(hl:L15 l)(wide:Bool)(table less:Int)(best:LI):∀(d i k:Nat),i+d=16→d<k→
  q1z 600 k table wide (c:Int) less best base times (tab 16 (upT i (whL wide base times l t c))) l (sumN (fun i=>cstL wide base times l (t.getD (i*4+c) 0) (q35 (cstL wide base times l (t.getD (i*4+c) 0)) 8)) i) t (i:Int)=
   some (table,less,best,base,times,tab 16 (whL wide base times l t c),sumL wide base times l t c,()):=by
 intro d
 induction d with
 |zero=>
  intro i k h1 h2
  obtain⟨k,rfl⟩:∃k',k=k' +1:=⟨k-1,by omega⟩
  obtain rfl:i=16:=by omega
  rw[zep]
  rfl
 |succ d ih=>
  intro i k h1 h2
  obtain⟨k,rfl⟩:∃k',k=k' +1:=⟨k-1,by omega⟩
  show q43 600 (q1z 600 k) _ _ _ _ _ _ _ _ _ _ _ _=_
  unfold q43
  have h3:(i:Int)<16:=by omega
  have hr:(tab 4 fun c=>t.getD (i*4+c) 0).getD c 0=t.getD (i*4+c) 0:=q77 hc
  have hu:=tr (i*4+c)
  have hn:=zig hb ht hl wide (row:=tab 4 fun c=>t.getD (i*4+c) 0) hc (by rw[hr];exact hu)
  rw[hr]at hn
  have hlt:=qfp (cstL wide base times l (t.getD (i*4+c) 0)) (n:=8) (by decide)
  have hk:=zqa hb ht hl wide (row:=tab 4 fun c=>t.getD (i*4+c) 0) hc (by rw[hr];exact hu) hlt
  rw[hr]at hk
  have e1:(tab 16 (upT i (whL wide base times l t c))).set i (q35 (cstL wide base times l (t.getD (i*4+c) 0)) 8:Int)=tab 16 (upT (i+1) (whL wide base times l t c)):=zeo _
  have e2:(tab 16 (upT (i+1) (whL wide base times l t c))).getD i 0=(q35 (cstL wide base times l (t.getD (i*4+c) 0)) 8:Int):=by
   rw[q77 (by omega)]
   unfold upT
   rw[iP (by omega)]
   rfl
  have b1:=qu5 wide base times l hu (q35 (cstL wide base times l (t.getD (i*4+c) 0)) 8)
  have b2:=qa4 (n:=i) (f:=fun i=>cstL wide base times l (t.getD (i*4+c) 0) (q35 (cstL wide base times l (t.getD (i*4+c) 0)) 8)) (m:=2047*2047) fun j _=>qu5 wide base times l (tr _) _
  have b3:(2047*2047:Int)*(i:Int)≤2047*2047*16:=Int.mul_le_mul_of_nonneg_left (by omega) (by decide)
  simp only[h3,dT,cT,yc,yd,yb,row16 tl (show i<16 by omega),hn,y5,e1,e2,hk,q0d (show i<1000000000000 by omega)]
  rw[w64 (by omega) (by omega)]
  exact ih (i+1) k (by omega) (by omega)
end
theorem znc(base times n:Int)(wide:Bool):∃v,qf8 600 base times n wide=some (v,()):=by
 unfold qf8 q30
 cases wide
 ·exact⟨_,rfl⟩
 ·by_cases h:times=0
  ·subst h
   exact⟨_,rfl⟩
  ·simp only[beqF h,Bool.not_true,cF]
   exact⟨_,rfl⟩
theorem zfk{c:Nat}(hc:c<4)(base times:Int)(l:LI)(wide:Bool)(row:LI){k:Nat}(hk:k<8):∃v,q2v 600 (k:Int) base times l wide row (c:Int)=some (v,()):=by
 obtain⟨v,hv⟩:=znc base times (l.getD k 0) wide
 have h1:(k:Int)<8:=by omega
 have h2:(c:Int)<4:=by omega
 unfold q2v
 simp only[h1,h2,dT,cT,yc,yd,yb,hv,y5]
 exact⟨_,rfl⟩
theorem zb8{c:Nat}(hc:c<4)(base times:Int)(l:LI)(wide:Bool)(row:LI):∃n:Nat,n<8∧q13 600 8 base times l wide row (c:Int)=some ((n:Int),()):=by
 obtain⟨r,⟨n,hn,rfl⟩,h⟩:=zc6 (N:=8) (by decide) (fun k (s:Nat) i=>q0b 600 k 8 base times l wide row (c:Int) (s:Int) i) (fun _ s=>s<8) (fun r=>∃n:Nat,n<8∧r=((n:Int),()))
  (fun k i s hi hs=>by
   show∃s',s' <8∧q0m 600 (q0b 600 k) _ _ _ _ _ _ _ _ _=_
   unfold q0m
   have h3:(i:Int)<8:=by omega
   obtain⟨v,hv⟩:=zfk hc base times l wide row hi
   obtain⟨u,hu⟩:=zfk hc base times l wide row hs
   by_cases hlt:v<u
   ·refine⟨i,hi,?_⟩
    simp only[h3,dT,cT,hv,hu,y5,hlt,q0d (show i<1000000000000 by omega)]
   ·refine⟨s,hs,?_⟩
    simp only[h3,dT,cT,hv,hu,y5,hlt,dF,cF,q0d (show i<1000000000000 by omega)])
  (fun k s hs=>⟨_,⟨s,hs,rfl⟩,rfl⟩) 1 (by decide) (s:=0) (by decide) 600 (by decide)
 refine⟨n,hn,?_⟩
 unfold q13
 rw[show((0:Nat):Int)=0 from rfl,show((1:Nat):Int)=1 from rfl]at h
 rw[h]
 rfl
theorem znd{c:Nat}(hc:c<4)(base times:Int)(l:LI)(wide:Bool)(t:LI)(table less:Int)(best:LI):∃w n,q1z 600 600 table wide (c:Int) less best base times q01 l 0 t 0=some (table,less,best,base,times,w,n,()):=by
 obtain⟨r,⟨w,n,rfl⟩,h⟩:=q0e (N:=16) (by decide) (fun k (s:LI×Int) i=>q1z 600 k table wide (c:Int) less best base times s.1 l s.2 t i) (fun _ s=>s.1.length=16) (fun r=>∃w n,r=(table,less,best,base,times,w,n,()))
  (fun k i s hi hs=>by
   show∃s' :LI×Int,s'.1.length=16∧q43 600 (q1z 600 k) _ _ _ _ _ _ _ _ _ _ _ _=_
   unfold q43
   have h3:(i:Int)<16:=by omega
   obtain⟨q,hq,hn⟩:=zb8 hc base times l wide (y8 4 (y9 (i*4) t))
   have e2:(s.1.set i (q:Int)).getD i 0=(q:Int):=by rw[qew _ _ _ _ (by omega),iP rfl]
   obtain⟨v,hv⟩:=zfk hc base times l wide (y8 4 (y9 (i*4) t)) hq
   refine⟨(s.1.set i (q:Int),y0 .i64 (s.2+v)),by rw[List.length_set];exact hs,?_⟩
   simp only[h3,dT,cT,yc,yd,yb,hn,y5,e2,hv,q0d (show i<1000000000000 by omega)])
  (fun k s hs=>⟨_,⟨s.1,s.2,rfl⟩,rfl⟩) (s:=(q01,0)) rfl
 exact⟨w,n,h⟩
theorem zqb{x:Int}(h:(-9223372036854775808≤x∧x<0)∨(255<x∧x≤9223372036854775807)):256≤y0 .u64 x∧y0 .u64 x≤18446744073709551615:=by
 have hb:=has_iff.1 (qje .u64 x)
 simp only[loB,hiB]at hb
 rcases h with h|h
 ·have e:y0 .u64 x=x+18446744073709551616:=by
   have h1:=wu64 (x:=x+18446744073709551616) (by omega) (by omega)
   rw[←h1]
   unfold y0
   simp only[IntKind.bits,IntKind.signed]
   simp
  omega
 ·rw[wu64 (by omega) (by omega)]
  omega
theorem Join_bad{base:Int}(h:(-9223372036854775808≤base∧base<0)∨(255<base∧base≤9223372036854775807))(times table:Int)(w:LI):qjm 600 base times table w=some ([],1,()):=by
 have e1:=z0f (F:=600) base times table w eac_JoinT0 600 0 (by omega) (by omega)
 have hlen:(eacF base times table w 16).length/3=19:=by rw[z46]
 have e0:eacF base times table w 0=[0,8,base,8,4,times,12,4,table]:=rfl
 rw[e0,yq]at e1
 have hb:=zqb h
 have hf:qt3 8 0 8 (y0 .u64 base)≠0:=fun h0=>by
  have:=(fits0 h0).2 (by decide)
  rw[show((2:Int)^y6 8)=256 from rfl]at this
  omega
 have hs:=z0b (F:=600) (by decide) (b:=eac_JoinT0) qtz (by decide) (a:=0) (n:=8) (v:=y0 .u64 base) (by decide) ⟨by omega,hb.2⟩
 rw[show eac_JoinT0.length=8 from rfl]at hs
 have e2:q94 600 600 eac_JoinT0 (eacF base times table w 16) 19 0=some (eac_JoinT0,false,()):=by
  show qf7 600 (q94 600 599) _ _ _ _=_
  unfold qf7
  have h2:=zlm base times table w (i:=0) (by decide)
  rw[Nat.zero_mul,List.drop_zero]at h2
  simp only[hlen,show decide ((0:Int)<19)=true from rfl,cT,show decide ((0:Int)≤0)=true from rfl,yd,show y6 0=0 from rfl,Nat.zero_mul,List.drop_zero,and_self,if_true,h2,yt,yu]
  rw[show(eacA 0:Int)=0 from rfl,show(eacN 0:Int)=8 from rfl,show eacV base times table w 0=base from rfl,hs]
  simp only[y5,bneT hf,cT]
  rfl
 unfold qjm
 simp only[and_self,if_true]
 rw[e1]
 simp only[y5,hlen,yp]
 rw[e2]
 rfl
def tblE(n:Int):LI:=match q3y 600 n with
 |some (l,_)=>l
 |none=>[]
theorem zqc{n:Int}(h:0≤n∧n≤15):q3y 600 n=some (tblE n,())∧L15 (tblE n):=by
 obtain⟨l,h1,_,h3⟩:=zf5 600 h
 unfold tblE
 rw[h1]
 exact⟨rfl,h3⟩
def LineB(wide:Bool)(t:LI)(c:Nat)(less:Int)(best:LI):Prop:=
 ∃base times table:Int,∃w:Nat→Int,EacFit base times table (tab 16 w)∧best=eacJ base times table (tab 16 w) 19∧less=sumN (fun i=>cstL wide base times (tblE table) (t.getD (i*4+c) 0) (w i).toNat) 16
def z0j(wide:Bool)(t:LI)(c:Nat)(less:Int)(best:LI):Prop:=(less<0∧best=[])∨(0≤less∧LineB wide t c less best)
def Le(less Z:Int):Prop:=0≤less∧less≤Z
section
variable {t:LI} (tl:t.length=64) (tr:Rg 2047 t) {c:Nat} (hc:c<4) (wide:Bool)
include tl tr hc
theorem zk5(base times:Int)(l:LI):0≤sumL wide base times l t c:=
 (qa4 (n:=16) (m:=2047*2047) fun i _=>qu5 wide base times l (tr _) _).1
theorem zqd{base:Int}(hb: -1000≤base∧base≤1000){times table:Int}(ht:0≤times∧times≤15)(htb:0≤table∧table≤15){less:Int}{best:LI}(hI:z0j wide t c less best):
  ∃less' best',q6i 600 base times table t wide (c:Int) less best=some (less',best',())∧z0j wide t c less' best' ∧(∀Z,Le less Z→Le less' Z)∧(0≤base∧base≤255→Le less' (sumL wide base times (tblE table) t c)):=by
 obtain⟨hT,hL⟩:=zqc htb
 by_cases hin:0≤base∧base≤255
 ·have h0:=c1_l0_in tl tr hc hin ht hL wide table less best 16 0 600 (by omega) (by omega)
  rw[z43,show(tab 16 fun _=>(0:Int))=q01 from rfl,show((0:Nat):Int)=0 from rfl]at h0
  simp only[sumN]at h0
  have hfit:EacFit base times table (tab 16 (whL wide base times (tblE table) t c)):=⟨hin,ht,htb,q21 _ _,fun i hi=>by rw[q77 hi];exact whL_lt _ _ _ _ _ _ _⟩
  have hj:=zjq (F:=600) (by decide) hfit
  have hn:=zk5 tl tr hc wide base times (tblE table)
  have hB:LineB wide t c (sumL wide base times (tblE table) t c) (eacJ base times table (tab 16 (whL wide base times (tblE table) t c)) 19):=by
   refine⟨base,times,table,whL wide base times (tblE table) t c,hfit,rfl,?_⟩
   unfold sumL
   exact qu2 fun i _=>by unfold whL;rw[yb]
  have e:q6i 600 base times table t wide (c:Int) less best=(cond (decide (less<0)) (some (sumL wide base times (tblE table) t c,eacJ base times table (tab 16 (whL wide base times (tblE table) t c)) 19,())) (cond (decide (sumL wide base times (tblE table) t c<less)) (some (sumL wide base times (tblE table) t c,eacJ base times table (tab 16 (whL wide base times (tblE table) t c)) 19,())) (some (less,best,())))):=by
   unfold q6i
   rw[hT]
   simp only[y5]
   rw[h0]
   simp only[y5]
   rw[hj]
   simp only[y5,beq_self_eq_true,cT]
  rw[e]
  by_cases h1:less<0
  ·refine⟨_,_,by simp only[h1,dT,cT],.inr ⟨hn,hB⟩,fun Z h=> ?_,fun _=>⟨hn,Int.le_refl _⟩⟩
   have:=h.1
   omega
  ·by_cases h2:sumL wide base times (tblE table) t c<less
   ·refine⟨_,_,by simp only[h1,h2,dT,dF,cT,cF],.inr ⟨hn,hB⟩,fun Z h=>⟨hn,by have:=h.2;omega⟩,fun _=>⟨hn,Int.le_refl _⟩⟩
   ·exact⟨_,_,by simp only[h1,h2,dF,cF],hI,fun Z h=>h,fun _=>⟨by omega,by omega⟩⟩
 ·obtain⟨w,n,h0⟩:=znd hc base times (tblE table) wide t table less best
  have hj:=Join_bad (base:=base) (by omega) times table w
  refine⟨less,best,?_,hI,fun Z h=>h,fun h=>absurd h hin⟩
  unfold q6i
  rw[hT]
  simp only[y5]
  rw[h0]
  simp only[y5]
  rw[hj]
  simp only[y5,Int.reduceBEq,cF]
theorem lineL6{mid d table:Int}(hm:0≤mid∧mid≤255)(hd:0≤d∧d≤2)(htb:0≤table∧table≤15)(x0 x9 x10:Int){less:Int}{best:LI}(hI:z0j wide t c less best):
  ∃less' best',q6k 600 600 x0 best t wide (c:Int) less mid d table x9 x10 0=some (x0,best',t,wide,(c:Int),less',mid,d,x9,x10,())∧z0j wide t c less' best' ∧(∀Z,Le less Z→Le less' Z)∧(d=0→∀times:Nat,times<16→Le less' (sumL wide mid times (tblE table) t c)):=by
 obtain⟨r,⟨less',best',rfl,h1,h2,h3⟩,h⟩:=q0e (N:=16) (by decide) (fun k (s:Int×LI) i=>q6k 600 k x0 s.2 t wide (c:Int) s.1 mid d table x9 x10 i)
  (fun i s=>z0j wide t c s.1 s.2∧(∀Z,Le less Z→Le s.1 Z)∧(d=0→∀times:Nat,times<i→Le s.1 (sumL wide mid times (tblE table) t c)))
  (fun r=>∃less' best',r=(x0,best',t,wide,(c:Int),less',mid,d,x9,x10,())∧z0j wide t c less' best' ∧(∀Z,Le less Z→Le less' Z)∧(d=0→∀times:Nat,times<16→Le less' (sumL wide mid times (tblE table) t c)))
  (fun k i s hi hs=>by
   obtain⟨g1,g2,g3⟩:=hs
   obtain⟨l1,b1,e1,a1,a2,a3⟩:=zqd tl tr hc wide (base:=mid+d) (by omega) (times:=(i:Int)) (by omega) htb g1
   obtain⟨l2,b2,e2,c1,c2,c3⟩:=zqd tl tr hc wide (base:=mid-d) (by omega) (times:=(i:Int)) (by omega) htb a1
   refine⟨(l2,b2),⟨c1,fun Z h=>c2 Z (a2 Z (g2 Z h)),fun hd0 times hlt=> ?_⟩,?_⟩
   ·by_cases he:times=i
    ·subst he
     subst hd0
     rw[Int.add_zero]at a3
     exact c2 _ (a3 hm)
    ·exact c2 _ (a2 _ (g3 hd0 times (by omega)))
   ·show qcq 600 (q6k 600 k) _ _ _ _ _ _ _ _ _ _ _ _=_
    unfold qcq
    have h3:(i:Int)<16:=by omega
    simp only[h3,dT,cT,w64 (x:=mid+d) (by omega) (by omega),w64 (x:=mid-d) (by omega) (by omega),e1,e2,y5,q0d (show i<1000000000000 by omega)])
  (fun k s hs=>⟨_,⟨s.1,s.2,rfl,hs.1,hs.2.1,hs.2.2⟩,rfl⟩) (s:=(less,best)) ⟨hI,fun Z h=>h,fun _ times h=>absurd h (by omega)⟩
 exact⟨less',best',h,h1,h2,h3⟩
theorem zqe{mid d:Int}(hm:0≤mid∧mid≤255)(hd:0≤d∧d≤2)(x0 x8:Int){less:Int}{best:LI}(hI:z0j wide t c less best):
  ∃less' best',q4v 600 600 x0 best t wide (c:Int) less mid d x8 0=some (x0,best',t,wide,(c:Int),less',mid,x8,())∧z0j wide t c less' best' ∧(∀Z,Le less Z→Le less' Z)∧(d=0→∀table times:Nat,table<16→times<16→Le less' (sumL wide mid times (tblE table) t c)):=by
 obtain⟨r,⟨less',best',rfl,h1,h2,h3⟩,h⟩:=q0e (N:=16) (by decide) (fun k (s:Int×LI) i=>q4v 600 k x0 s.2 t wide (c:Int) s.1 mid d x8 i)
  (fun i s=>z0j wide t c s.1 s.2∧(∀Z,Le less Z→Le s.1 Z)∧(d=0→∀table times:Nat,table<i→times<16→Le s.1 (sumL wide mid times (tblE table) t c)))
  (fun r=>∃less' best',r=(x0,best',t,wide,(c:Int),less',mid,x8,())∧z0j wide t c less' best' ∧(∀Z,Le less Z→Le less' Z)∧(d=0→∀table times:Nat,table<16→times<16→Le less' (sumL wide mid times (tblE table) t c)))
  (fun k i s hi hs=>by
   obtain⟨g1,g2,g3⟩:=hs
   obtain⟨l1,b1,e1,a1,a2,a3⟩:=lineL6 tl tr hc wide hm hd (table:=(i:Int)) (by omega) x0 x8 (i:Int) g1
   refine⟨(l1,b1),⟨a1,fun Z h=>a2 Z (g2 Z h),fun hd0 table times hlt ht=> ?_⟩,?_⟩
   ·by_cases he:table=i
    ·subst he
     exact a3 hd0 times ht
    ·exact a2 _ (g3 hd0 table times (by omega) ht)
   ·show qcr 600 (q4v 600 k) _ _ _ _ _ _ _ _ _ _=_
    unfold qcr
    have h3:(i:Int)<16:=by omega
    simp only[h3,dT,cT,e1,y5,q0d (show i<1000000000000 by omega)])
  (fun k s hs=>⟨_,⟨s.1,s.2,rfl,hs.1,hs.2.1,hs.2.2⟩,rfl⟩) (s:=(less,best)) ⟨hI,fun Z h=>h,fun _ table times h=>absurd h (by omega)⟩
 exact⟨less',best',h,h1,h2,h3⟩
def Done(less mid:Int):Prop:=∀table times:Nat,table<16→times<16→Le less (sumL wide mid times (tblE table) t c)
theorem lineL2{mid:Int}(hm:0≤mid∧mid≤255)(effort:Int):∃less best,q14 600 600 effort [] t wide (c:Int) (-1) mid 0=some (best,())∧z0j wide t c less best∧Done (t:=t) (c:=c) wide less mid:=by
 have h0:z0j wide t c (-1) []:= .inl ⟨by decide,rfl⟩
 obtain⟨l1,b1,e1,a1,a2,a3⟩:=zqe tl tr hc wide hm (d:=0) (by decide) effort 0 h0
 have st:∀l b,q14 600 597 effort b t wide (c:Int) l mid 3=some (b,()):=fun l b=>rfl
 obtain⟨l2,b2,e2,c1,c2,c3⟩:=zqe tl tr hc wide hm (d:=1) (by decide) effort 1 a1
 obtain⟨l3,b3,e3,f1,f2,f3⟩:=zqe tl tr hc wide hm (d:=2) (by decide) effort 2 c1
 have s0:q14 600 600 effort [] t wide (c:Int) (-1) mid 0=q14 600 599 effort b1 t wide (c:Int) l1 mid 1:=by
  show q2h 600 (q14 600 599) _ _ _ _ _ _ _ _=_
  unfold q2h
  simp only[show decide ((0:Int)<3)=true from rfl,show decide ((0:Int)<0)=false from rfl,cT,cF,e1,y5]
  rfl
 have d1:Done (t:=t) (c:=c) wide l1 mid:=a3 rfl
 by_cases hf:effort<2
 ·refine⟨l1,b1,?_,a1,d1⟩
  rw[s0]
  show q2h 600 (q14 600 598) _ _ _ _ _ _ _ _=_
  unfold q2h
  simp only[show decide ((1:Int)<3)=true from rfl,show decide ((0:Int)<1)=true from rfl,cT,hf,dT]
 ·refine⟨l3,b3,?_,f1,fun table times h1 h2=>f2 _ (c2 _ (d1 table times h1 h2))⟩
  rw[s0]
  show q2h 600 (q14 600 598) _ _ _ _ _ _ _ _=_
  unfold q2h
  simp only[show decide ((1:Int)<3)=true from rfl,show decide ((0:Int)<1)=true from rfl,cT,cF,hf,dF,e2,y5]
  rw[show y0 .i64 (1+1)=2 from rfl]
  show q2h 600 (q14 600 597) _ _ _ _ _ _ _ _=_
  unfold q2h
  simp only[show decide ((2:Int)<3)=true from rfl,show decide ((0:Int)<2)=true from rfl,cT,cF,hf,dF,e3,y5]
  rw[show y0 .i64 (2+1)=3 from rfl]
  exact st _ _
theorem lineL0{m:Int}(hm:Rg m t)(x0:Int)(x1:LI):∃lo hi,q6j 600 600 x0 x1 (c:Int) wide (t.getD c 0) (t.getD c 0) t 0=some (x0,x1,(c:Int),wide,lo,hi,())∧(0≤lo∧lo≤m)∧(0≤hi∧hi≤m)∧(∀s,(∀i,i<16→t.getD (i*4+c) 0=s)→lo=s∧hi=s):=by
 have hz:=hm c
 obtain⟨r,⟨lo,hi,rfl,h1,h2,h3⟩,h⟩:=q0e (N:=16) (by decide) (fun k (s:Int×Int) i=>q6j 600 k x0 x1 (c:Int) wide s.1 s.2 t i)
  (fun i s=>(0≤s.1∧s.1≤m)∧(0≤s.2∧s.2≤m)∧(∀v,(∀i,i<16→t.getD (i*4+c) 0=v)→s.1=v∧s.2=v))
  (fun r=>∃lo hi,r=(x0,x1,(c:Int),wide,lo,hi,())∧(0≤lo∧lo≤m)∧(0≤hi∧hi≤m)∧(∀s,(∀i,i<16→t.getD (i*4+c) 0=s)→lo=s∧hi=s))
  (fun k i s hi hs=>by
   obtain⟨g1,g2,g3⟩:=hs
   have hv:=hm (i*4+c)
   refine⟨(min s.1 (t.getD (i*4+c) 0),max s.2 (t.getD (i*4+c) 0)),⟨by show 0≤min _ _∧min _ _≤m;omega,by show 0≤max _ _∧max _ _≤m;omega,fun v hall=> ?_⟩,?_⟩
   ·have:=g3 v hall
    have:=hall i hi
    show min _ _=v∧max _ _=v
    omega
   ·show qcp 600 (q6j 600 k) _ _ _ _ _ _ _ _=_
    unfold qcp
    have h3:(i:Int)<16:=by omega
    have h4:(c:Int)<4:=by omega
    simp only[h3,h4,dT,cT,yc,yd,yb,z1l tl hi hc,q0d (show i<1000000000000 by omega)])
  (fun k s hs=>⟨_,⟨s.1,s.2,rfl,hs.1,hs.2.1,hs.2.2⟩,rfl⟩) (s:=(t.getD c 0,t.getD c 0)) ⟨hz,hz,fun v hall=>by have:=hall 0 (by decide);rw[Nat.zero_mul,Nat.zero_add]at this;exact⟨this,this⟩⟩
 exact⟨lo,hi,h,h1,h2,h3⟩
theorem zfl(hw:wide=false→Rg 255 t)(effort:Int):∃less best mid,q99 600 t (c:Int) wide effort=some (best,())∧(0≤less∧LineB wide t c less best)∧Done (t:=t) (c:=c) wide less mid∧(0≤mid∧mid≤255)∧(∀s,(∀i,i<16→t.getD (i*4+c) 0=s)→mid=if wide then s/8 else s):=by
 have h4:(c:Int)<4:=by omega
 have fin:∀{less best} {mid:Int},z0j wide t c less best→Done (t:=t) (c:=c) wide less mid→0≤less∧LineB wide t c less best:=fun hI hD=>by
  have:=(hD 0 0 (by decide) (by decide)).1
  rcases hI with h|h
  ·omega
  ·exact h
 cases wide with
 |true=>
  obtain⟨lo,hi,e0,b1,b2,b3⟩:=lineL0 tl tr hc true tr effort t
  have em:y0 .i64 (yw (y0 .i64 (yw (y0 .i64 (lo+hi)) 2)) 8)=(lo+hi)/2/8:=by
   rw[w64 (x:=lo+hi) (by omega) (by omega),q2o (x:=lo+hi) (by omega),w64 (x:=(lo+hi)/2) (by omega) (by omega),q2o (x:=(lo+hi)/2) (by omega),w64 (by omega) (by omega)]
  obtain⟨less,best,e1,c1,c2⟩:=lineL2 tl tr hc true (mid:=(lo+hi)/2/8) (by omega) effort
  refine⟨less,best,_,?_,fin c1 c2,c2,by omega,fun s hs=> ?_⟩
  ·unfold q99
   simp only[h4,dT,cT,yc,yd,yb]
   rw[e0]
   simp only[y5,cT,em]
   rw[e1]
   rfl
  ·have:=b3 s hs
   simp only[if_true]
   omega
 |false=>
  obtain⟨lo,hi,e0,b1,b2,b3⟩:=lineL0 tl tr hc false (hw rfl) effort t
  have em:y0 .i64 (yw (y0 .i64 (yw (y0 .i64 (lo+hi)) 2)) 1)=(lo+hi)/2:=by
   rw[w64 (x:=lo+hi) (by omega) (by omega),q2o (x:=lo+hi) (by omega),w64 (x:=(lo+hi)/2) (by omega) (by omega),Int.tdiv_one,w64 (by omega) (by omega)]
  obtain⟨less,best,e1,c1,c2⟩:=lineL2 tl tr hc false (mid:=(lo+hi)/2) (by omega) effort
  refine⟨less,best,_,?_,fin c1 c2,c2,by omega,fun s hs=> ?_⟩
  ·unfold q99
   simp only[h4,dT,cT,yc,yd,yb]
   rw[e0]
   simp only[y5,cF,em]
   rw[e1]
   rfl
  ·have:=b3 s hs
   simp only[yn,if_false]
   omega
end
theorem LineB.okb{wide:Bool}{t:LI}{c:Nat}{less:Int}{best:LI}(h:LineB wide t c less best):Okb 8 best:=by
 unfold LineB at h
 obtain⟨base,times,table,w,hf,hb,hl⟩:=h
 rw[hb]
 exact qyv _ _ _ _
theorem LineB.tells{wide:Bool}{t:LI}{c:Nat}{less:Int}{best:LI}(h:LineB wide t c less best):less=sumN (fun i=>((eacL best wide).getD i 0-t.getD (i*4+c) 0)*((eacL best wide).getD i 0-t.getD (i*4+c) 0)) 16:=by
 unfold LineB at h
 obtain⟨base,times,table,w,hf,hb,hl⟩:=h
 rw[hl,hb]
 have p1:hv (eacJ base times table (tab 16 w) 19) 0 8=base:=qtc hf (j:=0) (by decide)
 have p2:hv (eacJ base times table (tab 16 w) 19) 8 4=times:=qtc hf (j:=1) (by decide)
 have p3:hv (eacJ base times table (tab 16 w) 19) 12 4=table:=qtc hf (j:=2) (by decide)
 have e:eacL (eacJ base times table (tab 16 w) 19) wide=eacD base times (tblE table) (eacW (eacJ base times table (tab 16 w) 19)) wide:=by
  unfold eacL
  rw[p1,p2,p3,(zqc hf.2.2.1).1]
 refine qu2 fun i hi=> ?_
 have hg:(eacL (eacJ base times table (tab 16 w) 19) wide).getD i 0=qbx base times ((tblE table).getD (w i).toNat 0) wide:=by
  rw[e]
  unfold eacD
  rw[qey _ hi,zf4 _ hi]
  have hq:=qtc hf (j:=i+3) (by omega)
  rw[show eacV base times table (tab 16 w) (i+3)=(tab 16 w).getD i 0 from rfl,q77 hi]at hq
  rw[show hv (eacJ base times table (tab 16 w) 19) (qqg i) 3=w i from hq]
 rw[hg]
 rfl
def valO(x:Option (Int×Unit)):Int:=match x with
 |some (v,_)=>v
 |none=>0
theorem valO_of{x:Option (Int×Unit)}(h:∃v,x=some (v,())):x=some (valO x,()):=by
 obtain⟨v,rfl⟩:=h
 rfl
theorem z8s{N:Nat}(hN:1≤N∧N≤500){g:Int→Option (Int×Unit)}{f:Nat→Int}{L:Nat→Int→Int→Option (Int×Unit)}(hg:∀i:Nat,i<N→g (i:Int)=some (f i,()))
  (hL:∀k (s x:Int),L (k+1) s x=cond (decide (x<(N:Int))) ((g x).bind fun a=>(g s).bind fun b=>cond (decide (a.1<b.1)) (L k x (y0 .i64 (x+1))) (L k s (y0 .i64 (x+1)))) (some (s,()))):L 600 0 1=some ((q35 f N:Int),()):=by
 have key:∀(d i k:Nat),1≤i→i+d=N→d<k→L k (q35 f i:Int) (i:Int)=some ((q35 f N:Int),()):=by
  intro d
  induction d with
  |zero=>
   intro i k h0 h1 h2
   obtain⟨k,rfl⟩:∃k',k=k' +1:=⟨k-1,by omega⟩
   obtain rfl:i=N:=by omega
   rw[hL]
   simp only[Int.lt_irrefl,dF,cF]
  |succ d ih=>
   intro i k h0 h1 h2
   obtain⟨k,rfl⟩:∃k',k=k' +1:=⟨k-1,by omega⟩
   have h3:(i:Int)<(N:Int):=by omega
   have hlt:=qfp f (n:=i) (by omega)
   have nx:=ih (i+1) k (by omega) (by omega) (by omega)
   rw[show q35 f (i+1)=if i=0 then 0 else if f i<f (q35 f i)then i else q35 f i from rfl,iN (by omega)]at nx
   rw[hL]
   simp only[h3,dT,cT,hg i (by omega),hg _ (show q35 f i<N by omega),y5,q0d (show i<1000000000000 by omega)]
   by_cases hc' :f i<f (q35 f i)
   ·rw[iP hc']at nx
    simp only[hc',dT,cT]
    exact nx
   ·rw[iN hc']at nx
    simp only[hc',dF,cF]
    exact nx
 exact key (N-1) 1 600 (by omega) (by omega) (by omega)
theorem qtf{N:Nat}(hN:1≤N∧N≤500){g:Int→Option (Int×Unit)}{L:Nat→Int→Int→Option (Int×Unit)}(hg:∀i:Nat,i<N→∃v,g (i:Int)=some (v,()))
  (hL:∀k (s x:Int),L (k+1) s x=cond (decide (x<(N:Int))) ((g x).bind fun a=>(g s).bind fun b=>cond (decide (a.1<b.1)) (L k x (y0 .i64 (x+1))) (L k s (y0 .i64 (x+1)))) (some (s,()))):∃n:Nat,n<N∧L 600 0 1=some ((n:Int),()):=
 ⟨q35 (fun i=>valO (g i)) N,qfp _ (by omega),z8s hN (f:=fun i=>valO (g i)) (fun i hi=>valO_of (hg i hi)) hL⟩
theorem zfm(a b:LI):∃v,qhq 600 a b=some (v,()):=by
 obtain⟨r,⟨v,rfl⟩,h⟩:=q0e (N:=4) (by decide) (fun k (s:Int) i=>q9u 600 k a b s i) (fun _ _=>True) (fun r=>∃v,r=(v,()))
  (fun k i s hi hs=>by
   have h3:(i:Int)<4:=by omega
   refine⟨y0 .i64 (s+y0 .i64 (y0 .i64 (a.getD i 0-b.getD i 0)*y0 .i64 (a.getD i 0-b.getD i 0))),trivial,?_⟩
   show qes 600 (q9u 600 k) _ _ _ _=_
   unfold qes
   simp only[h3,dT,cT,yc,yd,yb,q0d (show i<1000000000000 by omega)])
  (fun k s hs=>⟨_,⟨s,rfl⟩,rfl⟩) (s:=0) trivial
 refine⟨v,?_⟩
 unfold qhq
 rw[h]
 rfl
theorem zqf(a l:LI){i:Nat}(hi:i<4):∃v,q16 600 (i:Int) a l=some (v,()):=by
 obtain⟨v,hv⟩:=zfm a (y8 4 (y9 (i*4) l))
 have h3:(i:Int)<4:=by omega
 refine⟨v,?_⟩
 unfold q16
 simp only[h3,dT,cT,yc,yd,yb,hv,y5]
theorem c2_ends(a l:LI){i:Nat}(hi:i<4):∃v,q2d 600 (i:Int) a l=some (v,()):=by
 obtain⟨v,hv⟩:=zfm a (y8 4 (y9 (i*4) l))
 have h3:(i:Int)<4:=by omega
 refine⟨v,?_⟩
 unfold q2d
 simp only[h3,dT,cT,yc,yd,yb,hv,y5]
theorem zfn(a l:LI):∃n:Nat,n<4∧q1k 600 4 a l=some ((n:Int),()):=by
 obtain⟨n,hn,h⟩:=qtf (N:=4) (by decide) (g:=fun x=>q16 600 x a l) (L:=fun k s x=>q0h 600 k 4 a l s x) (fun i hi=>zqf a l hi) (fun k s x=>rfl)
 refine⟨n,hn,?_⟩
 unfold q1k
 rw[h]
 rfl
theorem zb9(a l:LI):∃n:Nat,n<4∧q27 600 4 a l=some ((n:Int),()):=by
 obtain⟨n,hn,h⟩:=qtf (N:=4) (by decide) (g:=fun x=>q2d 600 x a l) (L:=fun k s x=>q0p 600 k 4 a l s x) (fun i hi=>c2_ends a l hi) (fun k s x=>rfl)
 refine⟨n,hn,?_⟩
 unfold q27
 rw[h]
 rfl
theorem z8t(x0:Bool)(x1 x2 x3:LI){i:Nat}(hi:i<4)(x5:Int)(x6:LI)(x7:Int):∃l,q15 600 600 x0 x1 x2 x3 (i:Int) x5 x6 x7 0=some (x0,x1,x2,l,(i:Int),x6,x7,()):=by
 obtain⟨r,⟨l,rfl⟩,h⟩:=q0e (N:=3) (by decide) (fun k (s:LI) c=>q15 600 k x0 x1 x2 s (i:Int) x5 x6 x7 c) (fun _ _=>True) (fun r=>∃l,r=(x0,x1,x2,l,(i:Int),x6,x7,()))
  (fun k c s hc hs=>by
   have h3:(c:Int)<3:=by omega
   have h4:(c:Int)<4:=by omega
   have h5:(i:Int)<4:=by omega
   refine⟨s.set (i*4+c) (q0w (y0 .i64 (x1.getD c 0+x5))),trivial,?_⟩
   show q8q 600 (q15 600 k) _ _ _ _ _ _ _ _ _=_
   unfold q8q
   simp only[h3,h4,h5,dT,cT,yc,yd,yb,qa2,y5,q0d (show c<1000000000000 by omega)])
  (fun k s hs=>⟨_,⟨s,rfl⟩,rfl⟩) (s:=x3) trivial
 exact⟨l,h⟩
theorem z1n(a:LI)(n:Int)(solid:Bool):∃l,qad 600 a n solid=some (l,()):=by
 obtain⟨r,⟨l,rfl⟩,h⟩:=q0e (N:=4) (by decide) (fun k (s:LI) i=>q51 600 k solid a q01 s (qdh (n%8).toNat) i) (fun _ _=>True) (fun r=>∃l,r=(q01,l,()))
  (fun k i s hi hs=>by
   have h3:(i:Int)<4:=by omega
   have hz:∀x5,∃l,q15 600 600 solid a q01 s (i:Int) x5 (qdh (n%8).toNat) (i:Int) 0=some (solid,a,q01,l,(i:Int),qdh (n%8).toNat,(i:Int),()):=fun x5=>z8t solid a _ s hi x5 _ _
   show∃s',True∧q8r 600 (q51 600 k) _ _ _ _ _ _=_
   unfold q8r
   cases solid with
   |true=>
    obtain⟨l,e⟩:=hz ((qdh (n%8).toNat).getD i 0)
    simp only[h3,dT,cT,cF,Bool.not_true,yc,yd,yb,e,y5,q0d (show i<1000000000000 by omega)]
    exact⟨_,trivial,rfl⟩
   |false=>
    by_cases h0:i=0
    ·subst h0
     obtain⟨l,e⟩:=hz 0
     rw[show((0:Nat):Int)=0 from rfl]at e
     simp only[show((0:Nat):Int)=0 from rfl,dT,cT,cF,Bool.not_false,yc,yd,yb,beq_self_eq_true,e,y5,show decide ((0:Int)<4)=true from rfl,show decide ((0:Int)≤0)=true from rfl,show((0:Int)==2)=false from rfl]
     exact⟨_,trivial,rfl⟩
    ·obtain⟨l,e⟩:=hz ((qdh (n%8).toNat).getD i 0)
     have hb:((i:Int)==0)=false:=by rw[beq_eq_false_iff_ne];omega
     simp only[h3,dT,cT,cF,Bool.not_false,yc,yd,yb,hb,e,y5,q0d (show i<1000000000000 by omega)]
     cases((i:Int)==2)<;>exact⟨_,trivial,rfl⟩)
  (fun k s hs=>⟨_,⟨s,rfl⟩,rfl⟩) (s:=q01) trivial
 refine⟨l,?_⟩
 unfold qad
 rw[z0d]
 simp only[y5]
 rw[h]
 rfl
theorem zih(a0 a1:LI)(a2:Int)(a3:LI)(a4:Int){i:Nat}(hi:i<16):∃l,q6a 600 a0 a1 a2 a3 a4 (i:Int)=some (l,()):=by
 have h3:(i:Int)<16:=by omega
 unfold q6a
 simp only[h3,dT,cT,yc,yd]
 cases a2 !=9<;>exact⟨_,rfl⟩
theorem zfo(x:Int)(a1:LI){h:Nat}(hh:h<2)(s d f:Bool)(A B T W ah b:LI)(k:Int)(t:LI)(n:Int):∃v,q2c 600 x a1 (h:Int) s d f A B T W ah b k t n=some (v,()):=by
 obtain⟨l,hl⟩:=z1n (y8 4 (y9 (h*4) a1)) x s
 obtain⟨r,⟨v,rfl⟩,e⟩:=q0e (N:=16) (by decide) (fun q (s:Int) i=>q17 600 q (h:Int) d f A B T W ah b k t n l s i) (fun _ _=>True) (fun r=>∃v,r=(v,()))
  (fun q i s hi hs=>by
   have h3:(i:Int)<16:=by omega
   obtain⟨t4,e1⟩:=zih ah b k t n hi
   obtain⟨m,hm,e2⟩:=zfn t4 l
   obtain⟨v,e3⟩:=zfm t4 (y8 4 (y9 (m*4) l))
   have hm4:(m:Int)<4:=by omega
   show∃s',True∧q3e 600 (q17 600 q) _ _ _ _ _ _ _ _ _ _ _ _ _ _ _=_
   unfold q3e
   rw[(qj1 600 f (i:Int)).1]
   simp only[h3,hm4,dT,cT,yc,yd,yb,e1,e2,e3,y5,q0d (show i<1000000000000 by omega)]
   cases((q2m f (i:Int):Int)==(h:Int))<;>exact⟨_,trivial,rfl⟩)
  (fun q s hs=>⟨_,⟨s,rfl⟩,rfl⟩) (s:=0) trivial
 refine⟨v,?_⟩
 have h2:(h:Int)<2:=by omega
 unfold q2c
 simp only[h2,dT,cT,yc,yd,yb,hl,y5]
 rw[e]
 rfl
theorem zfp(a1:LI){h:Nat}(hh:h<2)(s d f:Bool)(A B T W ah b:LI)(k:Int)(t:LI)(n:Int):∃m:Nat,m<8∧q26 600 8 a1 (h:Int) s d f A B T W ah b k t n=some ((m:Int),()):=by
 obtain⟨m,hm,e⟩:=qtf (N:=8) (by decide) (g:=fun x=>q2c 600 x a1 (h:Int) s d f A B T W ah b k t n) (L:=fun q y x=>q0o 600 q 8 a1 (h:Int) s d f A B T W ah b k t n y x) (fun i hi=>zfo _ a1 hh s d f A B T W ah b k t n) (fun q y x=>rfl)
 refine⟨m,hm,?_⟩
 unfold q26
 rw[e]
 rfl
def Inv(k:Nat)(t b:LI)(n:Int):Prop:=Okb (q41 k) b∧n=q9i k b t
def Ahd(k:Nat)(ah:LI):Prop:=Bytes ah∧ah.length+8=q41 k
abbrev FR:=Int×LI×LI×LI×Int×Unit
def Stp(k:Nat)(t ah:LI)(n:Int)(r:Option FR):Prop:=∃b' n',r=some ((k:Int),t,ah,b',n',())∧Inv k t b' n' ∧n' ≤n
section
variable {k:Nat} (hk:Fmt k) {t:LI} (tl:t.length=64) (tr:Rg 255 t)
include hk tl tr
theorem zk6(ah b:LI)(n:Int){new:LI}(hI:Inv k t b n)(hn:Okb (q41 k) new):∃b' n',q44 600 ah b (k:Int) t n new=some ((k:Int),t,ah,b',n',())∧Inv k t b' n' ∧n' ≤n∧n' ≤q9i k new t:=by
 have e:=qu4 hn.1 hk hn.2 tl tr
 unfold q44
 rw[e]
 simp only[y5,beq_self_eq_true,cT]
 by_cases hlt:q9i k new t<n
 ·exact⟨_,_,by simp only[hlt,dT,cT],⟨hn,rfl⟩,by omega,Int.le_refl _⟩
 ·exact⟨_,_,by simp only[hlt,dF,cF],hI,Int.le_refl _,by omega⟩
theorem qyw{ah:LI}(ha:Ahd k ah)(b:LI)(n:Int){new:LI}(hI:Inv k t b n)(hn:Okb 8 new):∃b' n',q25 600 ah b (k:Int) t n new=some ((k:Int),t,ah,b',n',())∧Inv k t b' n' ∧n' ≤n∧n' ≤q9i k (ah++new) t:=by
 have hb:=z0h k
 have hal:ah.length≤8:=by
  have:=ha.2
  omega
 obtain⟨b',n',e,h1,h2,h3⟩:=zk6 hk tl tr ah b n hI (new:=ah++new) ⟨fun x hx=>(yk.1 hx).elim (ha.1 x) (hn.1 x),by rw[yo,hn.2];exact ha.2⟩
 refine⟨b',n',?_,h1,h2,h3⟩
 have g1:ah.length+new.length≤1099511627776:=by rw[hn.2];omega
 have g2:0<new.length:=by rw[hn.2];decide
 unfold q25
 simp only[yc,yb,w8,dT,yd,cT,g1,g2,List.take_length,e,y5]
theorem Stp.refl{ah b:LI}{n:Int}(hI:Inv k t b n):Stp k t ah n (some ((k:Int),t,ah,b,n,())):=⟨b,n,rfl,hI,Int.le_refl _⟩
end
theorem zqg{m:Int}{l:LI}(h:Rg m l)(i:Nat){v:Int}(hv:0≤v∧v≤m):Rg m (l.set i v):=fun j=>by
 by_cases hi:i<l.length
 ·rw[qew _ _ _ _ hi]
  split
  ·exact hv
  ·exact h j
 ·rw[List.set_eq_of_length_le (by omega)]
  exact h j
theorem Rg.i64{m:Int}{l:LI}(h:Rg m l)(hm:m≤9000000000000000000):Is64 l:=fun i=>by
 have:=h i
 exact has_iff.2 (show-9223372036854775808≤_∧_≤9223372036854775807 by omega)
section
variable (s d f:Bool) (A B ah b:LI) (k:Int) (t:LI) (n:Int)
theorem zfq(T bases l:LI){h:Int}(x15:Int){W:LI}(hW:Rg 3 W):∃W',Rg 3 W' ∧q1c 600 600 ah b k t n d f A B T W s bases h l x15 0=some (ah,b,k,t,n,d,f,A,B,T,W',s,bases,x15,()):=by
 obtain⟨r,⟨W',hW',rfl⟩,e⟩:=q0e (N:=16) (by decide) (fun q (w:LI) i=>q1c 600 q ah b k t n d f A B T w s bases h l x15 i) (fun _ w=>Rg 3 w) (fun r=>∃W',Rg 3 W' ∧r=(ah,b,k,t,n,d,f,A,B,T,W',s,bases,x15,()))
  (fun q i w hi hs=>by
   have h3:(i:Int)<16:=by omega
   obtain⟨t4,e1⟩:=zih ah b k t n hi
   obtain⟨m,hm,e2⟩:=zb9 t4 l
   show∃s',Rg 3 s' ∧q4j 600 (q1c 600 q) _ _ _ _ _ _ _ _ _ _ _ _ _ _ _ _ _=_
   unfold q4j
   rw[(qj1 600 f (i:Int)).1]
   simp only[h3,dT,cT,yc,yd,yb,e1,e2,y5,q0d (show i<1000000000000 by omega)]
   cases((q2m f (i:Int):Int)==h)
   ·exact⟨_,hs,rfl⟩
   ·exact⟨_,zqg hs i (by omega),rfl⟩)
  (fun q w hw=>⟨_,⟨w,hw,rfl⟩,rfl⟩) (s:=W) hW
 exact⟨W',hW',e⟩
theorem zfr(bases:LI){T W:LI}(hT:Rg 7 T)(hW:Rg 3 W):∃T' W',Rg 7 T' ∧Rg 3 W' ∧q1d 600 600 ah b k t n d f A B T W s bases 0=some (ah,b,k,t,n,d,f,A,B,T',W',s,()):=by
 obtain⟨r,⟨T',W',h1,h2,rfl⟩,e⟩:=q0e (N:=2) (by decide) (fun q (w:LI×LI) i=>q1d 600 q ah b k t n d f A B w.1 w.2 s bases i) (fun _ w=>Rg 7 w.1∧Rg 3 w.2) (fun r=>∃T' W',Rg 7 T' ∧Rg 3 W' ∧r=(ah,b,k,t,n,d,f,A,B,T',W',s,()))
  (fun q i w hi hs=>by
   have h3:(i:Int)<2:=by omega
   obtain⟨m,hm,e1⟩:=zfp bases hi s d f A B w.1 w.2 ah b k t n
   obtain⟨l,e2⟩:=z1n (y8 4 (y9 (i*4) bases)) ((w.1.set i (m:Int)).getD i 0) s
   obtain⟨W',hW',e3⟩:=zfq s d f A B ah b k t n (w.1.set i (m:Int)) bases l (h:=(i:Int)) (i:Int) hs.2
   refine⟨(w.1.set i (m:Int),W'),⟨zqg hs.1 i (by omega),hW'⟩,?_⟩
   show q4k 600 (q1d 600 q) _ _ _ _ _ _ _ _ _ _ _ _ _ _=_
   unfold q4k
   simp only[h3,dT,cT,yc,yd,yb,e1,e2,e3,y5,q0d (show i<1000000000000 by omega)])
  (fun q w hw=>⟨_,⟨w.1,w.2,hw.1,hw.2,rfl⟩,rfl⟩) (s:=(T,W)) ⟨hT,hW⟩
 exact⟨T',W',h1,h2,e⟩
end
theorem zc7(d f:Bool)(A B T W:LI):Okb 8 (qgs d f A B T W):=⟨z1h d f A B T W,zby d f A B T W⟩
section
variable {k:Nat} (hk:Fmt k) {t:LI} (tl:t.length=64) (tr:Rg 255 t) {ah:LI} (ha:Ahd k ah)
include hk tl tr ha
theorem zfs{b:LI}{n:Int}(hI:Inv k t b n)(d f:Bool){A B T W:LI}(hf:qgr A B)(hT:Rg 7 T)(hW:Rg 3 W)(s:Bool):Stp k t ah n (q08 600 ah b (k:Int) t n (d,f,A,B,T,W,()) s):=by
 unfold q08
 rw[qtw (by decide) d f hf T W]
 simp only[y5]
 by_cases h3:qjc d A B=3
 ·obtain⟨T',W',h1,h2,e⟩:=zfr s d f A B ah b (k:Int) t n (q1h d A B) hT hW
  have hA:Is64 A:=fun i=>has_iff.2 (by have:=hf.2.2.1 i;show-9223372036854775808≤_∧_≤9223372036854775807;omega)
  have hB:Is64 B:=fun i=>has_iff.2 (by have:=hf.2.2.2 i;show-9223372036854775808≤_∧_≤9223372036854775807;omega)
  have j:=z88 (F:=600) (by decide) d f hA hB (h1.i64 (by decide)) (h2.i64 (by decide))
  rw[h3]
  simp only[bne_self_eq_false,cF]
  rw[e]
  simp only[y5]
  rw[j]
  by_cases hok:Ok10 d A B T' W'
  ·rw[iP hok]
   simp only[y5,bne_self_eq_false,cF]
   have ob:=zc7 d f A B T' W'
   cases s with
   |true=>
    obtain⟨b',n',e1,g1,g2,_⟩:=qyw hk tl tr ha b n hI ob
    simp only[Bool.not_true,cF,e1,y5]
    exact⟨b',n',rfl,g1,g2⟩
   |false=>
    have hs:=qhs (F:=600) (by decide) ob.1 (by rw[ob.2];decide) (a:=30) (n:=1) (v:=0) (by decide) (by rw[ob.2];decide) (by decide)
    obtain⟨b',n',e1,g1,g2,_⟩:=qyw hk tl tr ha b n hI (new:=hset (qgs d f A B T' W') 30 1 0) ⟨qhr ob.1 _ _ _,by rw[qtu];exact ob.2⟩
    rw[show((30:Nat):Int)=30 from rfl,show((1:Nat):Int)=1 from rfl]at hs
    simp only[Bool.not_false,cT,hs,e1,y5]
    exact⟨b',n',rfl,g1,g2⟩
  ·rw[iN hok]
   simp only[y5,show((1:Int) !=0)=true from rfl,cT]
   exact Stp.refl hk tl tr hI
 ·have hb:(qjc d A B !=3)=true:=by rw[bne_iff_ne];exact h3
  simp only[hb,cT]
  exact Stp.refl hk tl tr hI
end
section
variable {k:Nat} (hk:Fmt k) {t:LI} (tl:t.length=64) (tr:Rg 255 t) (ah b:LI) (n:Int)
include hk tl tr
theorem zne(fl:Bool)(h:Int)(x2:LI){i:Nat}(hi:i<16){s:LI}(hs:Rg (255*i) s):∃s',Rg (255*(i+1:Nat)) s' ∧q1t 600 600 fl h x2 s t (i:Int) (y8 4 (y9 (i*4) t)) 0=some (fl,h,x2,s',t,(i:Int),()):=by
 obtain⟨r,⟨s',hs',rfl⟩,e⟩:=q0e (N:=4) (by decide) (fun q (s:LI) c=>q1t 600 q fl h x2 s t (i:Int) (y8 4 (y9 (i*4) t)) c)
  (fun c s=>∀j,0≤s.getD j 0∧s.getD j 0≤255*i+(if j<c then 255 else 0)) (fun r=>∃s',Rg (255*(i+1:Nat)) s' ∧r=(fl,h,x2,s',t,(i:Int),()))
  (fun q c s hc hs=>by
   have h3:(c:Int)<4:=by omega
   have hr:=z1l tl hi hc
   have hv:=tr (i*4+c)
   have hsc:=hs c
   rw[iN (by omega)]at hsc
   refine⟨s.set c (y0 .i64 (s.getD c 0+t.getD (i*4+c) 0)),fun j=> ?_,?_⟩
   ·rw[w64 (by omega) (by omega)]
    have hj:=hs j
    by_cases hcl:c<s.length
    ·rw[qew _ _ _ _ hcl]
     by_cases hcj:c=j
     ·subst hcj
      rw[iP rfl,iP (by omega)]
      omega
     ·rw[iN hcj]
      split at hj
      ·rw[iP (by omega)]
       omega
      ·split<;>omega
    ·rw[List.set_eq_of_length_le (by omega)]
     split at hj
     ·rw[iP (by omega)]
      omega
     ·split<;>omega
   ·show q5e 600 (q1t 600 q) _ _ _ _ _ _ _ _=_
    unfold q5e
    simp only[h3,dT,cT,yc,yd,yb,hr,q0d (show c<1000000000000 by omega)])
  (fun q s hs=>⟨_,⟨s,fun j=>by
   have:=hs j
   split at this<;>omega,rfl⟩,rfl⟩) (s:=s) (fun j=>by
   have:=hs j
   rw[iN (by omega)]
   omega)
 exact⟨s',hs',e⟩
theorem zqh(fl:Bool)(h:Int):∃l,Rg 4080 l∧q1j 600 ah b (k:Int) t n fl h=some (l,()):=by
 obtain⟨r,⟨s,hs,rfl⟩,e⟩:=q0e (N:=16) (by decide) (fun q (s:LI) i=>q2w 600 q fl h [0,0,0,0] s t i) (fun i s=>Rg (255*i) s) (fun r=>∃s,Rg 4080 s∧r=([0,0,0,0],s,()))
  (fun q i s hi hs=>by
   have h3:(i:Int)<16:=by omega
   obtain⟨s',hs',e1⟩:=zne hk tl tr fl h [0,0,0,0] hi hs
   show∃s',Rg (255*(i+1:Nat)) s' ∧q5f 600 (q2w 600 q) _ _ _ _ _ _=_
   unfold q5f
   rw[(qj1 600 fl (i:Int)).1]
   simp only[h3,dT,cT,yc,yd,yb,e1,y5,q0d (show i<1000000000000 by omega)]
   cases((q2m fl (i:Int):Int)==h)
   ·exact⟨s,q4a hs (by omega),rfl⟩
   ·exact⟨s',hs',rfl⟩)
  (fun q s hs=>⟨_,⟨s,q4a hs (by decide),rfl⟩,rfl⟩) (s:=[0,0,0,0]) (q2i (by decide) (q2i (by decide) (q2i (by decide) (q2i (by decide) (qtd (by decide))))))
 obtain⟨r,⟨l,hl,rfl⟩,e2⟩:=q0e (N:=4) (by decide) (fun q (s:LI) i=>q2x 600 q [0,0,0,0] s i) (fun i s=>Rg 4080 s) (fun r=>∃s,Rg 4080 s∧r=([0,0,0,0],s,()))
  (fun q i s hi hs=>by
   have h3:(i:Int)<4:=by omega
   have hv:=hs i
   refine⟨s.set i (y0 .i64 (yw (s.getD i 0) 8)),zqg hs i (by rw[q2o hv.1,w64 (by omega) (by omega)];omega),?_⟩
   show q5g 600 (q2x 600 q) _ _ _=_
   unfold q5g
   simp only[h3,dT,cT,yc,yd,yb,q0d (show i<1000000000000 by omega)])
  (fun q s hs=>⟨_,⟨s,hs,rfl⟩,rfl⟩) (s:=s) hs
 refine⟨l,hl,?_⟩
 unfold q1j
 rw[e]
 simp only[y5]
 rw[e2]
 rfl
end
theorem z8u{b:Nat}(hb:1≤b∧b≤8){v:Int}(hv:0≤v∧v≤4080):∃m:Nat,m<2^b∧q9m 600 v (b:Int)=some ((m:Int),()):=
 ⟨qwf b v (2^b),by
  have:=zld b v (2^b)
  have:0<2^b:=Nat.two_pow_pos b
  omega,Near_is (by decide) hb ⟨by omega,by omega⟩⟩
def T3(a z:Int)(l:LI):Prop:=l.length=3∧∀j,a≤l.getD j 0∧l.getD j 0≤z
theorem T3.set{a z:Int}{l:LI}(h:T3 a z l)(i:Nat){v:Int}(hv:a≤v∧v≤z):T3 a z (l.set i v):=⟨by rw[List.length_set];exact h.1,fun j=>by
 by_cases hi:i<l.length
 ·rw[qew _ _ _ _ hi]
  split
  ·exact hv
  ·exact h.2 j
 ·rw[List.set_eq_of_length_le (by omega)]
  exact h.2 j⟩
theorem T3.nil{a z:Int}(h:a≤0∧0≤z):T3 a z [0,0,0]:=⟨rfl,fun j=>by
 match j with
 |0=>exact h
 |1=>exact h
 |2=>exact h
 |j+3=>exact h⟩
theorem zii(ah b:LI)(k:Int)(t:LI)(n:Int)(fl:Bool)(pr:Bool×Bool×Unit)(x18:Int){m0 m1:LI}(h0:Rg 4080 m0)(h1:Rg 4080 m1):
  ∃A B A' B',qgr A B∧qgr A' B' ∧q0f 600 600 ah b k t n m0 m1 fl [0,0,0] [0,0,0] [0,0] q01 fl [0,0,0] [0,0,0] [0,0] q01 pr x18 0=
   some (ah,b,k,t,n,fl,A,B,[0,0],q01,fl,A',B',[0,0],q01,pr,x18,()):=by
 obtain⟨r,⟨A,B,A',B',g1,g2,rfl⟩,e⟩:=q0e (N:=3) (by decide) (fun q (s:LI×LI×LI×LI) c=>q0f 600 q ah b k t n m0 m1 fl s.1 s.2.1 [0,0] q01 fl s.2.2.1 s.2.2.2 [0,0] q01 pr x18 c)
  (fun c s=>T3 0 31 s.1∧T3 (-4) 3 s.2.1∧T3 0 15 s.2.2.1∧T3 0 15 s.2.2.2)
  (fun r=>∃A B A' B',qgr A B∧qgr A' B' ∧r=(ah,b,k,t,n,fl,A,B,[0,0],q01,fl,A',B',[0,0],q01,pr,x18,()))
  (fun q c s hc hs=>by
   have h3:(c:Int)<3:=by omega
   have h4:(c:Int)<4:=by omega
   obtain⟨p0,hp0,e0⟩:=z8u (b:=5) (by decide) (h0 c)
   obtain⟨p1,hp1,e1⟩:=z8u (b:=5) (by decide) (h1 c)
   obtain⟨p2,hp2,e2⟩:=z8u (b:=4) (by decide) (h0 c)
   obtain⟨p3,hp3,e3⟩:=z8u (b:=4) (by decide) (h1 c)
   rw[show((5:Nat):Int)=5 from rfl]at e0 e1
   rw[show((4:Nat):Int)=4 from rfl]at e2 e3
   rw[show 2^5=32 from rfl]at hp0 hp1
   rw[show 2^4=16 from rfl]at hp2 hp3
   refine⟨(s.1.set c p0,s.2.1.set c (max (-4) (min (y0 .i64 ((p1:Int)-(s.1.set c (p0:Int)).getD c 0)) 3)),s.2.2.1.set c p2,s.2.2.2.set c p3),⟨hs.1.set c (by omega),hs.2.1.set c (by omega),hs.2.2.1.set c (by omega),hs.2.2.2.set c (by omega)⟩,?_⟩
   show q45 600 (q0f 600 q) _ _ _ _ _ _ _ _ _ _ _ _ _ _ _ _ _ _ _ _=_
   unfold q45
   simp only[h3,h4,dT,cT,yc,yd,yb,e0,e1,e2,e3,y5,q0d (show c<1000000000000 by omega)])
  (fun q s hs=>⟨_,⟨s.1,s.2.1,s.2.2.1,s.2.2.2,⟨hs.1.1,hs.2.1.1,hs.1.2,fun c=>by have:=hs.2.1.2 c;omega⟩,⟨hs.2.2.1.1,hs.2.2.2.1,fun c=>by have:=hs.2.2.1.2 c;omega,fun c=>by have:=hs.2.2.2.2 c;omega⟩,rfl⟩,rfl⟩)
  (s:=([0,0,0],[0,0,0],[0,0,0],[0,0,0])) ⟨T3.nil (by decide),T3.nil (by decide),T3.nil (by decide),T3.nil (by decide)⟩
 exact⟨A,B,A',B',g1,g2,e⟩
theorem rg_zz:Rg 7 [0,0]:=q2i (by decide) (q2i (by decide) (qtd (by decide)))
theorem zqi:Rg 3 q01:=qdm (N:=16) (g:=fun _=>0) (by decide) fun j _=>by omega
section
variable {k:Nat} (hk:Fmt k) {t:LI} (tl:t.length=64) (tr:Rg 255 t) {ah:LI} (ha:Ahd k ah)
include hk tl tr ha
theorem pair_is{b:LI}{n:Int}(hI:Inv k t b n)(fl:Bool){A B A' B' :LI}(g1:qgr A B)(g2:qgr A' B'):∃b1 n1 b2 n2,q08 600 ah b (k:Int) t n (true,fl,A,B,[0,0],q01,()) true=some ((k:Int),t,ah,b1,n1,())∧
  (cond ((k:Int)==9) (q08 600 ah b1 (k:Int) t n1 (true,fl,A,B,[0,0],q01,()) false) (q08 600 ah b1 (k:Int) t n1 (false,fl,A',B',[0,0],q01,()) true))=some ((k:Int),t,ah,b2,n2,())∧Inv k t b2 n2∧n2≤n:=by
 obtain⟨b1,n1,e1,i1,l1⟩:=zfs hk tl tr ha hI true fl g1 rg_zz zqi true
 cases h9:((k:Int)==9)with
 |true=>
  obtain⟨b2,n2,e2,i2,l2⟩:=zfs hk tl tr ha i1 true fl g1 rg_zz zqi false
  exact⟨b1,n1,b2,n2,e1,e2,i2,by omega⟩
 |false=>
  obtain⟨b2,n2,e2,i2,l2⟩:=zfs hk tl tr ha i1 false fl g2 rg_zz zqi true
  exact⟨b1,n1,b2,n2,e1,e2,i2,by omega⟩
theorem qwt{b:LI}{n:Int}(hI:Inv k t b n):Stp k t ah n (q19 600 ah b (k:Int) t n):=by
 have round:∀(q:Nat) (x:Int) (b:LI) (n:Int),x=0∨x=1→Inv k t b n→∃b' n',q07 600 (q+1) ah b (k:Int) t n (false,true,()) x=q07 600 q ah b' (k:Int) t n' (false,true,()) (y0 .i64 (x+1))∧Inv k t b' n' ∧n' ≤n:=by
  intro q x b n hx hI
  have key:∀fl,∃m0 m1 A B A' B' b1 n1 b2 n2,q1j 600 ah b (k:Int) t n fl 0=some (m0,())∧q1j 600 ah b (k:Int) t n fl 1=some (m1,())∧
    q0f 600 600 ah b (k:Int) t n m0 m1 fl [0,0,0] [0,0,0] [0,0] q01 fl [0,0,0] [0,0,0] [0,0] q01 (false,true,()) x 0=some (ah,b,(k:Int),t,n,fl,A,B,[0,0],q01,fl,A',B',[0,0],q01,(false,true,()),x,())∧
    q08 600 ah b (k:Int) t n (true,fl,A,B,[0,0],q01,()) true=some ((k:Int),t,ah,b1,n1,())∧
    (cond ((k:Int)==9) (q08 600 ah b1 (k:Int) t n1 (true,fl,A,B,[0,0],q01,()) false) (q08 600 ah b1 (k:Int) t n1 (false,fl,A',B',[0,0],q01,()) true))=some ((k:Int),t,ah,b2,n2,())∧Inv k t b2 n2∧n2≤n:=by
   intro fl
   obtain⟨m0,hm0,e0⟩:=zqh hk tl tr ah b n fl 0
   obtain⟨m1,hm1,e1⟩:=zqh hk tl tr ah b n fl 1
   obtain⟨A,B,A',B',g1,g2,e2⟩:=zii ah b (k:Int) t n fl (false,true,()) x hm0 hm1
   obtain⟨b1,n1,b2,n2,p1,p2,p3,p4⟩:=pair_is hk tl tr ha hI fl g1 g2
   exact⟨m0,m1,A,B,A',B',b1,n1,b2,n2,e0,e1,e2,p1,p2,p3,p4⟩
  rcases hx with rfl|rfl
  ·obtain⟨m0,m1,A,B,A',B',b1,n1,b2,n2,e0,e1,e2,p1,p2,p3,p4⟩:=key false
   refine⟨b2,n2,?_,p3,p4⟩
   show q1m 600 (q07 600 q) _ _ _ _ _ _ _=_
   unfold q1m
   simp only[show decide ((0:Int)<2)=true from rfl,cT,beq_self_eq_true,e0,e1,y5,e2,p1]
   cases h9:((k:Int)==9)with
   |true=>
    rw[h9]at p2
    simp only[cT]at p2⊢
    rw[p2]
    rfl
   |false=>
    rw[h9]at p2
    simp only[cF]at p2⊢
    rw[p2]
    rfl
  ·obtain⟨m0,m1,A,B,A',B',b1,n1,b2,n2,e0,e1,e2,p1,p2,p3,p4⟩:=key true
   refine⟨b2,n2,?_,p3,p4⟩
   show q1m 600 (q07 600 q) _ _ _ _ _ _ _=_
   unfold q1m
   simp only[show decide ((1:Int)<2)=true from rfl,cT,cF,show((1:Int)==0)=false from rfl,beq_self_eq_true,e0,e1,y5,e2,p1]
   cases h9:((k:Int)==9)with
   |true=>
    rw[h9]at p2
    simp only[cT]at p2⊢
    rw[p2]
    rfl
   |false=>
    rw[h9]at p2
    simp only[cF]at p2⊢
    rw[p2]
    rfl
 obtain⟨b1,n1,e1,i1,l1⟩:=round 599 0 b n (.inl rfl) hI
 obtain⟨b2,n2,e2,i2,l2⟩:=round 598 1 b1 n1 (.inr rfl) i1
 refine⟨b2,n2,?_,i2,by omega⟩
 unfold q19
 rw[show q07 600 600=q07 600 (599+1)from rfl,e1,show y0 .i64 (0+1)=1 from rfl,show q07 600 599=q07 600 (598+1)from rfl,e2]
 rfl
end
def sqS(t:LI)(c:Nat)(u:Int):Int:=sumN (fun i=>(t.getD (i*4+c) 0-u)*(t.getD (i*4+c) 0-u)) 16
def solA(t:LI)(tb w:Nat)(c:Nat):Nat:=q35 (fun v=>sqS t c (q0w (q0s 5 (v:Int)+(qdh tb).getD w 0))) 32
def solB(t:LI)(tb w:Nat):LI:=qgs true false (tab 3 fun c=>(solA t tb w c:Int)) [0,0,0] [(tb:Int),(tb:Int)] (q3s (w:Int))
theorem zk7(t:LI)(tb w c:Nat):solA t tb w c<32:=qfp _ (by decide)
theorem zqj(t:LI){tb w:Nat}(htb:tb<8)(hw:w<4):Ok10 true (tab 3 fun c=>(solA t tb w c:Int)) [0,0,0] [(tb:Int),(tb:Int)] (q3s (w:Int)):=by
 refine⟨fun c hc=> ?_,fun i hi=> ?_,?_,?_⟩
 ·rw[q77 hc,iP rfl]
  have:=zk7 t tb w c
  refine⟨by omega,?_⟩
  have:=(T3.nil (a:=0) (z:=0) (by decide)).2 c
  omega
 ·rw[qfq _ hi]
  omega
 ·show 0≤(tb:Int)∧(tb:Int)≤7
  omega
 ·show 0≤(tb:Int)∧(tb:Int)≤7
  omega
section
variable {k:Nat} (hk:Fmt k) {t:LI} (tl:t.length=64) (tr:Rg 255 t) {ah:LI} (ha:Ahd k ah)
include hk tl tr ha
theorem zqk{c:Nat}{u:Int}(hu:0≤u∧u≤255)(i:Nat):0≤sumN (fun i=>(t.getD (i*4+c) 0-u)*(t.getD (i*4+c) 0-u)) i∧sumN (fun i=>(t.getD (i*4+c) 0-u)*(t.getD (i*4+c) 0-u)) i≤255*255*i:=
 qa4 (m:=255*255) fun j _=>qhe (m:=255) (by have:=tr (j*4+c);omega)
theorem zk8(v:Nat){m:Int}(hm: -183≤m∧m≤183)(b:LI)(n:Int){c:Nat}(hc:c<4):q2e 600 (v:Int) m ah b (k:Int) t n (c:Int)=some (sqS t c (q0w (q0s 5 (v:Int)+m)),()):=by
 have hw:=q1u (b:=5) (by decide) (v:Int)
 have hu:=q0y (q0s 5 (v:Int)+m)
 obtain⟨r,rfl,e⟩:=q0e (N:=16) (by decide) (fun q (s:Int) i=>q18 600 q (c:Int) (q0w (q0s 5 (v:Int)+m)) s t i) (fun i s=>s=sumN (fun i=>(t.getD (i*4+c) 0-q0w (q0s 5 (v:Int)+m))*(t.getD (i*4+c) 0-q0w (q0s 5 (v:Int)+m))) i) (fun r=>r=(sqS t c (q0w (q0s 5 (v:Int)+m)),()))
  (fun q i s hi hs=>by
   subst hs
   have h3:(i:Int)<16:=by omega
   have h4:(c:Int)<4:=by omega
   have hx:=tr (i*4+c)
   have b1:=zqk hk tl tr ha (c:=c) hu i
   have b2:=qhe (x:=t.getD (i*4+c) 0-q0w (q0s 5 (v:Int)+m)) (m:=255) (by omega)
   refine⟨_,rfl,?_⟩
   show q3f 600 (q18 600 q) _ _ _ _ _=_
   unfold q3f
   simp only[h3,h4,dT,cT,yc,yd,yb,z1l tl hi hc,q0d (show i<1000000000000 by omega),qfr]
   rw[w64 (x:=t.getD (i*4+c) 0-q0w (q0s 5 (v:Int)+m)) (by omega) (by omega),w64 (x:=(t.getD (i*4+c) 0-q0w (q0s 5 (v:Int)+m))*(t.getD (i*4+c) 0-q0w (q0s 5 (v:Int)+m))) (by omega) (by omega),w64 (by omega) (by omega)])
  (fun q s hs=>⟨_,rfl,by subst hs;rfl⟩) (s:=0) rfl
 unfold q2e
 have hW:=ql0 (F:=600) (by decide) (b:=5) (by decide) (v:Int)
 rw[show((5:Nat):Int)=5 from rfl]at hW
 rw[hW]
 simp only[y5,qa2]
 rw[w64 (x:=q0s 5 (v:Int)+m) (by omega) (by omega),e]
 rfl
theorem zft{m:Int}(hm: -183≤m∧m≤183)(b:LI)(n:Int){c:Nat}(hc:c<4):q28 600 32 m ah b (k:Int) t n (c:Int)=some ((q35 (fun v=>sqS t c (q0w (q0s 5 (v:Int)+m))) 32:Int),()):=by
 have e:=z8s (N:=32) (by decide) (g:=fun x=>q2e 600 x m ah b (k:Int) t n (c:Int)) (L:=fun q y x=>q0q 600 q 32 m ah b (k:Int) t n (c:Int) y x) (fun i hi=>zk8 hk tl tr ha i hm b n hc) (fun q y x=>rfl)
 unfold q28
 rw[e]
 rfl
theorem zk9(b:LI)(n:Int)(x5:Int)(w:Nat)(x7:Int)(A B T:LI)(x12:Int)(x13:LI)(x14:Int):q1e 600 600 ah b (k:Int) t n x5 (w:Int) x7 A B T q01 x12 x13 x14 0=some (ah,b,(k:Int),t,n,x5,x7,A,B,T,q3s (w:Int),x12,x13,x14,()):=by
 obtain⟨r,rfl,e⟩:=q0e (N:=16) (by decide) (fun q (s:LI) i=>q1e 600 q ah b (k:Int) t n x5 (w:Int) x7 A B T s x12 x13 x14 i) (fun i s=>s=tab 16 (upT i fun _=>(w:Int))) (fun r=>r=(ah,b,(k:Int),t,n,x5,x7,A,B,T,q3s (w:Int),x12,x13,x14,()))
  (fun q i s hi hs=>by
   subst hs
   have h3:(i:Int)<16:=by omega
   have e1:(tab 16 (upT i fun _=>(w:Int))).set i (w:Int)=tab 16 (upT (i+1) fun _=>(w:Int)):=zeo (fun _=>(w:Int))
   refine⟨_,rfl,?_⟩
   show q4l 600 (q1e 600 q) _ _ _ _ _ _ _ _ _ _ _ _ _ _ _ _=_
   unfold q4l
   simp only[h3,dT,cT,yc,yd,yb,e1,q0d (show i<1000000000000 by omega)])
  (fun q s hs=>⟨_,rfl,by subst hs;rw[zep];rfl⟩) (s:=q01) (by rw[z43];rfl)
 exact e
theorem zka(b:LI)(n:Int)(x5:Int)(tb w:Nat)(B T W:LI)(x11:Int)(x12:LI)(x13:Int):q1f 600 600 ah b (k:Int) t n x5 ((qdh tb).getD w 0) [0,0,0] B T W x11 x12 x13 0=some (ah,b,(k:Int),t,n,x5,tab 3 fun c=>(solA t tb w c:Int),B,T,W,x11,x12,x13,()):=by
 obtain⟨r,rfl,e⟩:=q0e (N:=3) (by decide) (fun q (s:LI) i=>q1f 600 q ah b (k:Int) t n x5 ((qdh tb).getD w 0) s B T W x11 x12 x13 i) (fun i s=>s=tab 3 (upT i fun c=>(solA t tb w c:Int))) (fun r=>r=(ah,b,(k:Int),t,n,x5,tab 3 fun c=>(solA t tb w c:Int),B,T,W,x11,x12,x13,()))
  (fun q i s hi hs=>by
   subst hs
   have h3:(i:Int)<3:=by omega
   have e0:=zft hk tl tr ha (qwh tb w) b n (c:=i) (by omega)
   have e1:(tab 3 (upT i fun c=>(solA t tb w c:Int))).set i (solA t tb w i:Int)=tab 3 (upT (i+1) fun c=>(solA t tb w c:Int)):=zeo (fun c=>(solA t tb w c:Int))
   have e2:(q35 (fun v=>sqS t i (q0w (q0s 5 (v:Int)+(qdh tb).getD w 0))) 32:Int)=(solA t tb w i:Int):=rfl
   refine⟨_,rfl,?_⟩
   show q4m 600 (q1f 600 q) _ _ _ _ _ _ _ _ _ _ _ _ _ _ _=_
   unfold q4m
   rw[e0,e2]
   simp only[h3,dT,cT,yc,yd,yb,e1,y5,q0d (show i<1000000000000 by omega)])
  (fun q s hs=>⟨_,rfl,by subst hs;rw[zep];rfl⟩) (s:=[0,0,0]) (by rw[z43];rfl)
 exact e
theorem zkb{b:LI}{n:Int}(hI:Inv k t b n){tb:Nat}(htb:tb<8):∃b' n',q1g 600 600 ah b (k:Int) t n (tb:Int) (tb:Int) (qdh tb) 0=some (ah,b',(k:Int),t,n',(tb:Int),())∧Inv k t b' n' ∧n' ≤n∧∀w,w<4→n' ≤q9i k (ah++solB t tb w) t:=by
 obtain⟨r,⟨b',n',g1,g2,g3,rfl⟩,e⟩:=q0e (N:=4) (by decide) (fun q (s:LI×Int) i=>q1g 600 q ah s.1 (k:Int) t s.2 (tb:Int) (tb:Int) (qdh tb) i)
  (fun i s=>Inv k t s.1 s.2∧s.2≤n∧∀w,w<i→s.2≤q9i k (ah++solB t tb w) t)
  (fun r=>∃b' n',Inv k t b' n' ∧n' ≤n∧(∀w,w<4→n' ≤q9i k (ah++solB t tb w) t)∧r=(ah,b',(k:Int),t,n',(tb:Int),()))
  (fun q w s hw hs=>by
   have h3:(w:Int)<4:=by omega
   have hok:=zqj t htb hw
   have e4:=zk9 hk tl tr ha s.1 s.2 (tb:Int) w ((qdh tb).getD w 0) [0,0,0] [0,0,0] [(tb:Int),(tb:Int)] (tb:Int) (qdh tb) (w:Int)
   have e6:=zka hk tl tr ha s.1 s.2 (tb:Int) tb w [0,0,0] [(tb:Int),(tb:Int)] (q3s (w:Int)) (tb:Int) (qdh tb) (w:Int)
   have j:=z88 (F:=600) (by decide) true false (A:=tab 3 fun c=>(solA t tb w c:Int)) (B:=[0,0,0]) (T:=[(tb:Int),(tb:Int)]) (W:=q3s (w:Int))
    (Rg.i64 (m:=31) (qdm (by decide) fun c _=>by have:=zk7 t tb w c;omega) (by decide))
    (Rg.i64 (m:=0) (T3.nil (by decide)).2 (by decide))
    (Rg.i64 (m:=7) (q2i (by omega) (q2i (by omega) (qtd (by decide)))) (by decide))
    (Rg.i64 (m:=3) (qdm (by decide) fun c _=>by omega) (by decide))
   rw[iP hok]at j
   obtain⟨b',n',e1,g1,g2,g3⟩:=qyw hk tl tr ha s.1 s.2 hs.1 (zc7 true false (tab 3 fun c=>(solA t tb w c:Int)) [0,0,0] [(tb:Int),(tb:Int)] (q3s (w:Int)))
   refine⟨(b',n'),⟨g1,by show n' ≤n;have:=hs.2.1;omega,fun w' hw' => ?_⟩,?_⟩
   ·show n' ≤_
    by_cases he:w' =w
    ·subst he
     exact g3
    ·have:=hs.2.2 w' (by omega)
     omega
   ·show q4n 600 (q1g 600 q) _ _ _ _ _ _ _ _ _=_
    unfold q4n
    simp only[h3,dT,cT,yc,yd,yb,e4,y5,e6,j,e1,q0d (show w<1000000000000 by omega)])
  (fun q s hs=>⟨_,⟨s.1,s.2,hs.1,hs.2.1,hs.2.2,rfl⟩,rfl⟩) (s:=(b,n)) ⟨hI,Int.le_refl _,fun w h=>absurd h (by omega)⟩
 exact⟨b',n',e,g1,g2,g3⟩
theorem solid_is{b:LI}{n:Int}(hI:Inv k t b n):∃b' n',q3i 600 ah b (k:Int) t n=some ((k:Int),t,ah,b',n',())∧Inv k t b' n' ∧n' ≤n∧∀tb w,tb<8→w<4→n' ≤q9i k (ah++solB t tb w) t:=by
 obtain⟨r,⟨b',n',g1,g2,g3,rfl⟩,e⟩:=q0e (N:=8) (by decide) (fun q (s:LI×Int) i=>q2f 600 q ah s.1 (k:Int) t s.2 i)
  (fun i s=>Inv k t s.1 s.2∧s.2≤n∧∀tb w,tb<i→w<4→s.2≤q9i k (ah++solB t tb w) t)
  (fun r=>∃b' n',Inv k t b' n' ∧n' ≤n∧(∀tb w,tb<8→w<4→n' ≤q9i k (ah++solB t tb w) t)∧r=(ah,b',(k:Int),t,n',()))
  (fun q tb s htb hs=>by
   have h3:(tb:Int)<8:=by omega
   obtain⟨b',n',e1,g1,g2,g3⟩:=zkb hk tl tr ha hs.1 htb
   have h8:((tb:Int)%8).toNat=tb:=by omega
   refine⟨(b',n'),⟨g1,by show n' ≤n;have:=hs.2.1;omega,fun tb' w hw' hw=> ?_⟩,?_⟩
   ·show n' ≤_
    by_cases he:tb' =tb
    ·subst he
     exact g3 w hw
    ·have:=hs.2.2 tb' w (by omega) hw
     omega
   ·show q4o 600 (q2f 600 q) _ _ _ _ _ _=_
    unfold q4o
    rw[z0d,h8]
    simp only[h3,dT,cT,y5,e1,q0d (show tb<1000000000000 by omega)])
  (fun q s hs=>⟨_,⟨s.1,s.2,hs.1,hs.2.1,hs.2.2,rfl⟩,rfl⟩) (s:=(b,n)) ⟨hI,Int.le_refl _,fun tb w h=>absurd h (by omega)⟩
 refine⟨b',n',?_,g1,g2,g3⟩
 unfold q3i
 rw[e]
 rfl
def nineOk(l:LI):Prop:=l.length=9∧∀j,0≤l.getD j 0∧l.getD j 0<if j%3=1 then 128 else 64
end
theorem nineOk.parts{l:LI}(h:nineOk l):ok3 (l.take 3)∧ok3 ((l.drop 3).take 3)∧ok3 ((l.drop 6).take 3)∧(l.take 3).length=3∧((l.drop 3).take 3).length=3∧((l.drop 6).take 3).length=3∧∀i,I64 ((l.take 3++((l.drop 3).take 3++(l.drop 6).take 3)).getD i 0):=by
 obtain⟨hl,hr⟩:=h
 match l,hl with
 |[a0,a1,a2,a3,a4,a5,a6,a7,a8],_=>
  have r0:=hr 0
  have r1:=hr 1
  have r2:=hr 2
  have r3:=hr 3
  have r4:=hr 4
  have r5:=hr 5
  have r6:=hr 6
  have r7:=hr 7
  have r8:=hr 8
  refine⟨⟨r0,r1,r2⟩,⟨r3,r4,r5⟩,⟨r6,r7,r8⟩,rfl,rfl,rfl,fun i=> ?_⟩
  show I64 ([a0,a1,a2,a3,a4,a5,a6,a7,a8].getD i 0)
  have:=hr i
  unfold I64
  split at this<;>omega
section
variable {k:Nat} (hk:Fmt k) {t:LI} (tl:t.length=64) (tr:Rg 255 t) {ah:LI} (ha:Ahd k ah)
include hk tl tr ha
theorem zij(b:LI)(n:Int){c:Nat}(hc:c<3){e:Nat}(he:e=if c=1 then 7 else 6)(x9:LI)(x10:Int){l:LI}(hl:nineOk l):∃l',nineOk l' ∧q10 600 600 ah b (k:Int) t n l (c:Int) (e:Int) (t.getD c 0) x9 x10 [0,3,12] 0=some (ah,b,(k:Int),t,n,l',x9,x10,()):=by
 obtain⟨r,⟨l',g1,rfl⟩,e1⟩:=q0e (N:=3) (by decide) (fun q (s:LI) i=>q10 600 q ah b (k:Int) t n s (c:Int) (e:Int) (t.getD c 0) x9 x10 [0,3,12] i) (fun i s=>nineOk s)
  (fun r=>∃l',nineOk l' ∧r=(ah,b,(k:Int),t,n,l',x9,x10,()))
  (fun q i s hi hs=>by
   have h3:(i:Int)<3:=by omega
   have hc3:(c:Int)<3:=by omega
   have hc4:(c:Int)<4:=by omega
   obtain⟨p,hp,hp'⟩:∃p:Nat,([0,3,12]:LI).getD i 0=(p:Int)∧p<16:=by
    match i,hi with
    |0,_=>exact⟨0,rfl,by decide⟩
    |1,_=>exact⟨3,rfl,by decide⟩
    |2,_=>exact⟨12,rfl,by decide⟩
   have hp16:(p:Int)<16:=by omega
   have hb:1≤e∧e≤8:=by rw[he];split<;>omega
   obtain⟨v,hv⟩:∃v,v=y0 .i64 (t.getD c 0+y0 .i64 (yw (y0 .i64 (y0 .i64 (t.getD (p*4+c) 0-t.getD c 0)*4)) 3)):=⟨_,rfl⟩
   have hcl:=q0y v
   obtain⟨m,hm,em⟩:=z8u hb (v:=q0w v) (by omega)
   refine⟨s.set (i*3+c) (m:Int),⟨by rw[List.length_set];exact hs.1,fun j=> ?_⟩,?_⟩
   ·rw[qew _ _ _ _ (by rw[hs.1];omega)]
    have hj:=hs.2 j
    by_cases hij:i*3+c=j
    ·rw[iP hij]
     have hjc:j%3=c:=by omega
     have h2:(2:Nat)^e=if j%3=1 then 128 else 64:=by
      rw[he,hjc]
      split<;>rfl
     rw[h2]at hm
     split at hm
     ·rename_i h1
      rw[iP h1]
      omega
     ·rename_i h1
      rw[iN h1]
      omega
    ·rw[iN hij]
     exact hj
   ·show q46 600 (q10 600 q) _ _ _ _ _ _ _ _ _ _ _ _ _=_
    unfold q46
    simp only[h3,hc3,hc4,hp,hp16,dT,cT,yc,yd,yb,qa2,y5,←hv,em,q0d (show i<1000000000000 by omega)])
  (fun q s hs=>⟨_,⟨s,hs,rfl⟩,rfl⟩) (s:=l) hl
 exact⟨l',g1,e1⟩
theorem zkc{b:LI}{n:Int}(hI:Inv k t b n):Stp k t ah n (q39 600 ah b (k:Int) t n):=by
 unfold q39
 cases h7:((k:Int)==7)with
 |true=>
  simp only[cT]
  exact Stp.refl hk tl tr hI
 |false=>
  simp only[cF]
  obtain⟨r,⟨l,g1,rfl⟩,e⟩:=q0e (N:=3) (by decide) (fun q (s:LI) i=>q20 600 q ah b (k:Int) t n s [6,7,6] i) (fun i s=>nineOk s)
   (fun r=>∃l',nineOk l' ∧r=(ah,b,(k:Int),t,n,l',()))
   (fun q c s hc hs=>by
    have h3:(c:Int)<3:=by omega
    have h4:(c:Int)<4:=by omega
    obtain⟨e,he,he'⟩:∃e:Nat,([6,7,6]:LI).getD c 0=(e:Int)∧e=if c=1 then 7 else 6:=by
     match c,hc with
     |0,_=>exact⟨6,rfl,rfl⟩
     |1,_=>exact⟨7,rfl,rfl⟩
     |2,_=>exact⟨6,rfl,rfl⟩
    obtain⟨l',hl',e1⟩:=zij hk tl tr ha b n hc he' [6,7,6] (c:Int) hs
    refine⟨l',hl',?_⟩
    show q47 600 (q20 600 q) _ _ _ _ _ _ _ _=_
    unfold q47
    simp only[h3,h4,dT,cT,yc,yd,yb,he,e1,y5,q0d (show c<1000000000000 by omega)])
   (fun q s hs=>⟨_,⟨s,hs,rfl⟩,rfl⟩) (s:=q57) ⟨rfl,fun j=>by
    have h0:q57=tab 9 fun _=>0:=rfl
    rw[h0]
    by_cases hj:j<9
    ·rw[q77 hj]
     split<;>decide
    ·rw[zpt (by rw[q21];omega)]
     split<;>decide⟩
  obtain⟨o1,o2,o3,q1,q2,q3,q4⟩:=g1.parts
  have la:=(lay_is q1 q2 q3 q4).1
  rw[iP ⟨o1,o2,o3⟩]at la
  obtain⟨b',n',e1,i1,i2,_⟩:=qyw hk tl tr ha b n hI (zf0 (l.take 3) ((l.drop 3).take 3) ((l.drop 6).take 3))
  rw[e]
  simp only[y5]
  rw[la]
  simp only[y5,e1]
  exact⟨b',n',rfl,i1,i2⟩
end
theorem Ahd.nil{k:Nat}(h:q41 k=8):Ahd k []:=⟨fun x hx=>absurd hx List.not_mem_nil,by rw[h];rfl⟩
theorem znf{t:LI}{less:Int}{best:LI}(h:LineB true (scT 11 t) 0 less best):q9i 11 best t=less:=by
 rw[h.tells]
 have ob:=h.okb
 unfold q9i errS
 rw[show 64=16*4 from rfl,zic]
 refine qu2 fun i hi=> ?_
 unfold errT
 rw[show(i*4+0)%4=0 by omega,show(i*4+1)%4=1 by omega,show(i*4+2)%4=2 by omega,show(i*4+3)%4=3 by omega]
 rw[show bitM (qmg 11) 0=true from rfl,show bitM (qmg 11) 1=false from rfl,show bitM (qmg 11) 2=false from rfl,show bitM (qmg 11) 3=false from rfl,iP rfl,iN (by decide),iN (by decide),iN (by decide)]
 have hd:(qmi 11 best).getD (i*4+0) 0=(eacL best true).getD i 0:=by
  show(wT 0 (eacL (lo13 best) true) (qmf 2047)).getD (i*4+0) 0=_
  unfold wT
  rw[q77 (by omega),iP (by omega),lo13_8 ob.2,show(i*4+0)/4=i by omega]
 rw[hd]
 have hz:∀x:Int,x+0+0+0=x:=fun x=>by omega
 rw[hz]
 rw[show(scT 11 t).getD (i*4+0) 0-(eacL best true).getD i 0= -((eacL best true).getD i 0-(scT 11 t).getD (i*4+0) 0) by omega,Int.neg_mul_neg]
theorem zng{t:LI}(hl:t.length=64)(ht:Rg 255 t):qlh 600 t=some (true,()):=by
 have l2:∀i:Nat,i<16→q7k 600 600 t (i:Int) (y8 4 (y9 (i*4) t)) 0=some (.inr (t,(i:Int),())):=fun i hi=>by
  obtain⟨r,rfl,e⟩:=q0e (N:=4) (by decide) (fun q (_:Unit) c=>q7k 600 q t (i:Int) (y8 4 (y9 (i*4) t)) c) (fun _ _=>True) (fun r=>r= .inr (t,(i:Int),()))
   (fun q c s hc hs=>by
    have h4:(c:Int)<4:=by omega
    have hr:=ht (i*4+c)
    refine⟨(),trivial,?_⟩
    show qen 600 (q7k 600 q) _ _ _ _=_
    unfold qen
    simp only[h4,dT,cT,yc,yd,yb,z1l hl hi hc,q0d (show c<1000000000000 by omega),show¬t.getD (i*4+c) 0<0 by omega,show¬255<t.getD (i*4+c) 0 by omega,dF,cF])
   (fun q s hs=>⟨_,rfl,rfl⟩) (s:=()) trivial
  exact e
 obtain⟨r,rfl,e⟩:=q0e (N:=16) (by decide) (fun q (_:Unit) i=>q9r 600 q t i) (fun _ _=>True) (fun r=>r= .inr ())
  (fun q i s hi hs=>by
   have h3:(i:Int)<16:=by omega
   refine⟨(),trivial,?_⟩
   show qeo 600 (q9r 600 q) _ _=_
   unfold qeo
   simp only[h3,dT,cT,yc,yd,yb,l2 i hi,y5,q0d (show i<1000000000000 by omega)])
  (fun q s hs=>⟨_,rfl,rfl⟩) (s:=()) trivial
 unfold qlh
 rw[e]
 rfl
def Rnd(k:Nat)(t x3 b:LI)(n i:Int)(x3' b' :LI)(n' :Int):Prop:=
 ∀q (e:Int),i≤e→q11 600 (q+1) (k:Int) e t x3 b (k:Int) t n (scT k t) i=q11 600 q (k:Int) e t x3' b' (k:Int) t n' (scT k t) (y0 .i64 (i+1))
section
variable {t:LI} (tl:t.length=64) (tr:Rg 255 t)
include tl tr
theorem zls{k:Nat}(hk:Fmt k){ah:LI}(ha:Ahd k ah){b:LI}{n:Int}(hI:Inv k t b n):∃b1 n1 b2 n2 b3 n3,q19 600 ah b (k:Int) t n=some ((k:Int),t,ah,b1,n1,())∧
  q3i 600 ah b1 (k:Int) t n1=some ((k:Int),t,ah,b2,n2,())∧q39 600 ah b2 (k:Int) t n2=some ((k:Int),t,ah,b3,n3,())∧Inv k t b3 n3∧n3≤n∧∀tb w,tb<8→w<4→n3≤q9i k (ah++solB t tb w) t:=by
 obtain⟨b1,n1,e1,i1,l1⟩:=qwt hk tl tr ha hI
 obtain⟨b2,n2,e2,i2,l2,g2⟩:=solid_is hk tl tr ha i1
 obtain⟨b3,n3,e3,i3,l3⟩:=zkc hk tl tr ha i2
 exact⟨b1,n1,b2,n2,b3,n3,e1,e2,e3,i3,by omega,fun tb w h1 h2=>by have:=g2 tb w h1 h2;omega⟩
theorem zql{k:Nat}(hk:Fmt k)(h8:q41 k=8)(h11:((k:Int)==11)=false)(h12:((k:Int)==12)=false)(h10:((k:Int)==10)=false){b:LI}{n:Int}(hI:Inv k t b n){i:Int}(hi:i=1∨i=2):
  ∃b' n',Rnd k t [] b n i [] b' n' ∧Inv k t b' n' ∧n' ≤n∧(i=2→∀tb w,tb<8→w<4→n' ≤q9i k (solB t tb w) t):=by
 rcases hi with rfl|rfl
 ·obtain⟨b',n',e,h1,h2⟩:=qwt hk tl tr (Ahd.nil h8) hI
  refine⟨b',n',fun q e' he=> ?_,h1,h2,fun h=>absurd h (by decide)⟩
  show q0k 600 (q11 600 q) _ _ _ _ _ _ _ _ _ _=_
  unfold q0k
  simp only[he,dT,cT,h11,h12,h10,cF,show((1:Int)==2)=false from rfl,e,y5]
 ·obtain⟨b1,n1,b2,n2,b3,n3,e1,e2,e3,h1,h2,h3⟩:=zls tl tr hk (Ahd.nil h8) hI
  refine⟨b3,n3,fun q e' he=> ?_,h1,h2,fun _ tb w g1 g2=>by have:=h3 tb w g1 g2;rwa [List.nil_append]at this⟩
  show q0k 600 (q11 600 q) _ _ _ _ _ _ _ _ _ _=_
  unfold q0k
  simp only[he,dT,cT,h11,h12,h10,cF,beq_self_eq_true,e1,e2,e3,y5]
theorem zlt{x3 b:LI}{n:Int}(hI:Inv 10 t b n){i:Int}(hi:i=1∨i=2):∃x3' b' n',Rnd 10 t x3 b n i x3' b' n' ∧Inv 10 t b' n' ∧n' ≤n:=by
 have hk:Fmt 10:=by unfold Fmt;omega
 obtain⟨less,best,mid,el,⟨_,hB⟩,_⟩:=zfl tl (q4a tr (by decide)) (c:=3) (by decide) false (fun _=>tr) i
 have ha:Ahd 10 best:=⟨hB.okb.1,by rw[hB.okb.2];rfl⟩
 rw[show((3:Nat):Int)=3 from rfl]at el
 rcases hi with rfl|rfl
 ·obtain⟨b',n',e,h1,h2⟩:=qwt hk tl tr ha hI
  refine⟨best,b',n',fun q e' he=> ?_,h1,h2⟩
  show q0k 600 (q11 600 q) _ _ _ _ _ _ _ _ _ _=_
  unfold q0k
  rw[show((10:Nat):Int)=10 from rfl]at e⊢
  simp only[he,dT,cT,show((10:Int)==11)=false from rfl,show((10:Int)==12)=false from rfl,beq_self_eq_true,cF,show((1:Int)==2)=false from rfl,el,e,y5]
 ·obtain⟨b1,n1,b2,n2,b3,n3,e1,e2,e3,h1,h2,h3⟩:=zls tl tr hk ha hI
  refine⟨best,b3,n3,fun q e' he=> ?_,h1,h2⟩
  show q0k 600 (q11 600 q) _ _ _ _ _ _ _ _ _ _=_
  unfold q0k
  rw[show((10:Nat):Int)=10 from rfl]at e1 e2 e3⊢
  simp only[he,dT,cT,show((10:Int)==11)=false from rfl,show((10:Int)==12)=false from rfl,beq_self_eq_true,cF,el,e1,e2,e3,y5]
def Redd(t:LI)(n:Int):Prop:=∀s,(∀i,i<16→(scT 11 t).getD (i*4) 0=s)→∀table times:Nat,table<16→times<16→n≤sumL true (s/8) times (tblE table) (scT 11 t) 0
theorem zlu{x3 b:LI}{n:Int}(hI:Inv 11 t b n)(i:Int):∃b' n',Rnd 11 t x3 b n i x3 b' n' ∧Inv 11 t b' n' ∧n' ≤n∧Redd t n' :=by
 have hk:Fmt 11:=by unfold Fmt;omega
 obtain⟨less,best,mid,el,⟨_,hB⟩,hD,_,hm⟩:=zfl (zf9 (k:=11) tl) (q4a (qyo (k:=11) tr) (by decide)) (c:=0) (by decide) true (fun h=>by cases h) i
 obtain⟨b',n',e,h1,h2,h3⟩:=zk6 hk tl tr x3 b n hI hB.okb
 rw[znf hB]at h3
 rw[show((0:Nat):Int)=0 from rfl]at el
 refine⟨b',n',fun q e' he=> ?_,h1,h2,fun s hs table times ht1 ht2=> ?_⟩
 ·show q0k 600 (q11 600 q) _ _ _ _ _ _ _ _ _ _=_
  unfold q0k
  rw[show((11:Nat):Int)=11 from rfl]at e⊢
  simp only[he,dT,cT,beq_self_eq_true,el,e,y5]
 ·have hmid:=hm s hs
  rw[iP rfl]at hmid
  subst hmid
  have:=(hD table times ht1 ht2).2
  omega
theorem zlv{x3 b:LI}{n:Int}(hI:Inv 12 t b n)(i:Int):∃b' n',Rnd 12 t x3 b n i x3 b' n' ∧Inv 12 t b' n' ∧n' ≤n:=by
 have hk:Fmt 12:=by unfold Fmt;omega
 obtain⟨less,best,mid,el,⟨_,hB⟩,_⟩:=zfl (zf9 (k:=12) tl) (q4a (qyo (k:=12) tr) (by decide)) (c:=0) (by decide) true (fun h=>by cases h) i
 obtain⟨less2,best2,mid2,el2,⟨_,hB2⟩,_⟩:=zfl (zf9 (k:=12) tl) (q4a (qyo (k:=12) tr) (by decide)) (c:=1) (by decide) true (fun h=>by cases h) i
 obtain⟨b',n',e,h1,h2,h3⟩:=zk6 hk tl tr x3 b n hI (zk0 hB.okb hB2.okb)
 rw[show((0:Nat):Int)=0 from rfl]at el
 rw[show((1:Nat):Int)=1 from rfl]at el2
 refine⟨b',n',fun q e' he=> ?_,h1,h2⟩
 show q0k 600 (q11 600 q) _ _ _ _ _ _ _ _ _ _=_
 unfold q0k
 rw[show((12:Nat):Int)=12 from rfl]at e⊢
 simp only[he,dT,cT,show((12:Int)==11)=false from rfl,cF,beq_self_eq_true,el,el2,y5,hB.okb.2,hB2.okb.2,show decide (8+8≤1099511627776)=true from by decide,yd,e]
theorem zqm{k:Nat}(hk:Fmt k){b:LI}{n:Int}(hI:Inv k t b n):∃x1 b1 n1 x2 b2 n2,Rnd k t [] b n 1 x1 b1 n1∧Rnd k t x1 b1 n1 2 x2 b2 n2∧Inv k t b1 n1∧Inv k t b2 n2∧n1≤n∧n2≤n1∧
  (k=7∨k=8→∀tb w,tb<8→w<4→n2≤q9i k (solB t tb w) t)∧(k=11→Redd t n1):=by
 have zmq:∀{k:Nat},Fmt k→q41 k=8→((k:Int)==11)=false→((k:Int)==12)=false→((k:Int)==10)=false→∀{b:LI} {n:Int},Inv k t b n→∃x1 b1 n1 x2 b2 n2,Rnd k t [] b n 1 x1 b1 n1∧Rnd k t x1 b1 n1 2 x2 b2 n2∧Inv k t b1 n1∧Inv k t b2 n2∧n1≤n∧n2≤n1∧
   (k=7∨k=8→∀tb w,tb<8→w<4→n2≤q9i k (solB t tb w) t)∧(k=11→Redd t n1):=by
  intro k hk h8 h11 h12 h10 b n hI
  obtain⟨b1,n1,r1,i1,l1,_⟩:=zql tl tr hk h8 h11 h12 h10 hI (.inl rfl)
  obtain⟨b2,n2,r2,i2,l2,g2⟩:=zql tl tr hk h8 h11 h12 h10 i1 (.inr rfl)
  exact⟨[],b1,n1,[],b2,n2,r1,r2,i1,i2,l1,l2,fun _=>g2 rfl,fun h=>by subst h;cases h11⟩
 rcases show k=7∨k=8∨k=9∨k=10∨k=11∨k=12 by unfold Fmt at hk;omega with rfl|rfl|rfl|rfl|rfl|rfl
 ·exact zmq hk rfl rfl rfl rfl hI
 ·exact zmq hk rfl rfl rfl rfl hI
 ·exact zmq hk rfl rfl rfl rfl hI
 ·obtain⟨x1,b1,n1,r1,i1,l1⟩:=zlt tl tr (x3:=[]) hI (.inl rfl)
  obtain⟨x2,b2,n2,r2,i2,l2⟩:=zlt tl tr (x3:=x1) i1 (.inr rfl)
  exact⟨x1,b1,n1,x2,b2,n2,r1,r2,i1,i2,l1,l2,fun h=>by omega,fun h=>by omega⟩
 ·obtain⟨b1,n1,r1,i1,l1,g1⟩:=zlu tl tr (x3:=[]) hI 1
  obtain⟨b2,n2,r2,i2,l2,g2⟩:=zlu tl tr (x3:=[]) i1 2
  exact⟨[],b1,n1,[],b2,n2,r1,r2,i1,i2,l1,l2,fun h=>by omega,fun _=>g1⟩
 ·obtain⟨b1,n1,r1,i1,l1⟩:=zlv tl tr (x3:=[]) hI 1
  obtain⟨b2,n2,r2,i2,l2⟩:=zlv tl tr (x3:=[]) i1 2
  exact⟨[],b1,n1,[],b2,n2,r1,r2,i1,i2,l1,l2,fun h=>by omega,fun h=>by omega⟩
theorem zqn{k:Nat}(hk:Fmt k):∃b1 n1 b2 n2,q1n 600 (k:Int) t 0=some (qjd k (scT k t),q9i k (qjd k (scT k t)) t,0,())∧q1n 600 (k:Int) t 1=some (b1,n1,0,())∧q1n 600 (k:Int) t 2=some (b2,n2,0,())∧
  Inv k t b1 n1∧Inv k t b2 n2∧n1≤q9i k (qjd k (scT k t)) t∧n2≤n1∧(k=7∨k=8→∀tb w,tb<8→w<4→n2≤q9i k (solB t tb w) t)∧(k=11→Redd t n1):=by
 have hok:=zlq (scT k t) hk
 obtain⟨x1,b1,n1,x2,b2,n2,r1,r2,i1,i2,l1,l2,g1,g2⟩:=zqm tl tr hk (b:=qjd k (scT k t)) (n:=q9i k (qjd k (scT k t)) t) ⟨hok,rfl⟩
 have h7:¬(k:Int)<7:=by unfold Fmt at hk;omega
 have h12:¬(12:Int)<(k:Int):=by unfold Fmt at hk;omega
 have e:∀a2:Int,0≤a2→a2≤2→q1n 600 (k:Int) t a2=(q11 600 600 (k:Int) a2 t [] (qjd k (scT k t)) (k:Int) t (q9i k (qjd k (scT k t)) t) (scT k t) 1).bind fun r=>some (r.2.1,r.2.2.2.2.1,(0:Int),()):=by
  intro a2 h0 h2
  unfold q1n
  rw[zna hk tl tr (zng tl tr)]
  simp only[qu4 hok.1 hk hok.2 tl tr,zfa hk tl tr,h7,h12,dF,cF,y5,bne_self_eq_false,show¬a2<0 by omega,show¬2<a2 by omega]
 have stop:∀q (a2 x:Int) x3 b n,a2<x→q11 600 (q+1) (k:Int) a2 t x3 b (k:Int) t n (scT k t) x=some (x3,b,(k:Int),t,n,()):=by
  intro q a2 x x3 b n h
  show q0k 600 (q11 600 q) _ _ _ _ _ _ _ _ _ _=_
  unfold q0k
  simp only[show¬x≤a2 by omega,dF,cF]
 refine⟨b1,n1,b2,n2,?_,?_,?_,i1,i2,l1,l2,g1,g2⟩
 ·rw[e 0 (by decide) (by decide),stop 599 0 1 _ _ _ (by decide)]
  rfl
 ·rw[e 1 (by decide) (by decide),r1 599 1 (by decide),show y0 .i64 (1+1)=2 from rfl,stop 598 1 2 _ _ _ (by decide)]
  rfl
 ·rw[e 2 (by decide) (by decide),r1 599 2 (by decide),show y0 .i64 (1+1)=2 from rfl,r2 598 2 (by decide),show y0 .i64 (2+1)=3 from rfl,stop 597 2 3 _ _ _ (by decide)]
  rfl
end
def q3a(A:LI)(tb w:Nat)(c:Nat):Int:=if c=3 then 255 else q0w (q0s 5 (A.getD c 0)+(qdh tb).getD w 0)
theorem zik{A:LI}(hl:A.length=3){tb w:Nat}(htb:tb<8)(hw:w<4):qbb true false A [0,0,0] [(tb:Int),(tb:Int)] (q3s (w:Int))=oneT (q3a A tb w):=by
 rw[qge (qoa true false A [0,0,0] [(tb:Int),(tb:Int)] (q3s (w:Int)))]
 unfold oneT
 refine q0a fun j hj=> ?_
 rw[←zjs,show((qbb true false A [0,0,0] [(tb:Int),(tb:Int)] (q3s (w:Int))).drop (j/4*4)).take 4=zb4 (q1h true A [0,0,0]) [(tb:Int),(tb:Int)] (q3s (w:Int)) false (j/4)from qk6 _ (fun _ _=>rfl) (by omega)]
 have hh:=qmc false ((j/4:Nat):Int)
 have hs:q2m false ((j/4:Nat):Int)=0∨q2m false ((j/4:Nat):Int)=1:=by omega
 have h8:((tb:Int)%8).toNat=tb:=by omega
 have h4:((w:Int)%4).toNat=w:=by omega
 have ha:zev [(tb:Int),(tb:Int)] (q3s (w:Int)) false (j/4)=(qdh tb).getD w 0:=by
  unfold zev
  rw[qfq (w:Int) (by omega),h4]
  have ht:([(tb:Int),(tb:Int)]:LI).getD (q2m false ((j/4:Nat):Int)) 0=(tb:Int):=by
   rcases hs with h0|h0<;>rw[h0]<;>rfl
  rw[ht,h8]
 have hz:∀x:Int,x+0=x:=Int.add_zero
 unfold zb4 q3a
 rw[ha]
 generalize (qdh tb).getD w 0=m
 have hc:j%4=0∨j%4=1∨j%4=2∨j%4=3:=by omega
 have b0:n10 true A [0,0,0] 0=A.getD 0 0:=hz _
 have b1:n10 true A [0,0,0] 1=A.getD 1 0:=hz _
 have b2:n10 true A [0,0,0] 2=A.getD 2 0:=hz _
 unfold q1h
 rw[b0,b1,b2]
 rcases hs with h0|h0<;>rcases hc with h5|h5|h5|h5<;>rw[h5,h0]<;>rfl
theorem qed(A:LI)(tb w c:Nat):0≤q3a A tb w c∧q3a A tb w c≤255:=by
 unfold q3a
 split
 ·decide
 ·exact q0y _
theorem solB_dec(t:LI){tb w:Nat}(htb:tb<8)(hw:w<4):z86 (solB t tb w)=oneT (q3a (tab 3 fun c=>(solA t tb w c:Int)) tb w)∧tab 64 (qdo (solB t tb w) false)=oneT (q3a (tab 3 fun c=>(solA t tb w c:Int)) tb w):=by
 have h:=zp7 (f:=false) (zqj t htb hw) (q21 _ _) rfl rfl (qyu _)
 have e:z86 (solB t tb w)=qbb true false (tab 3 fun c=>(solA t tb w c:Int)) [0,0,0] [(tb:Int),(tb:Int)] (q3s (w:Int)):=by
  unfold eP at h
  simp only[ym]at h
  obtain⟨h1,h2,h3,h4,h5,h6,_⟩:=h
  unfold z86 solB
  rw[h5,h6,h3,h4,h1,h2]
 rw[zik (q21 _ _) htb hw]at e
 refine⟨e,?_⟩
 rw[←e]
 refine dec_old ?_
 unfold eP at h
 simp only[ym]at h
 obtain⟨h1,h2,h3,h4,h5,h6,_⟩:=h
 unfold solB
 rw[h3,h4,h1]
 have hc:∀c,c<3→¬qac (tab 3 fun c=>(solA t tb w c:Int)) [0,0,0] c:=fun c hc=>by
  have h0:([0,0,0]:LI).getD c 0=0:=by
   have:=(T3.nil (a:=0) (z:=0) (by decide)).2 c
   omega
  have:=zk7 t tb w c
  unfold qac n10
  rw[iP rfl,q77 hc,h0]
  omega
 unfold qjc
 rw[iP rfl,iN (hc 0 (by decide)),iN (hc 1 (by decide)),iN (hc 2 (by decide))]
theorem zqo{A:LI}(hA:∀c,c<3→0≤A.getD c 0∧A.getD c 0≤31){tb w:Nat}(htb:tb<8)(hw:w<4){k:Nat}(hk:k=7∨k=8):q9i k (solB (oneT (q3a A tb w)) tb w) (oneT (q3a A tb w))=0:=by
 have hrt:Rg 255 (oneT (q3a A tb w)):=qws (by decide) fun c _=>qed A tb w c
 have hru:Rg 255 (oneT (q3a (tab 3 fun c=>(solA (oneT (q3a A tb w)) tb w c:Int)) tb w)):=qws (by decide) fun c _=>qed _ tb w c
 have hd:=solB_dec (oneT (q3a A tb w)) htb hw
 have key:errS 7 (oneT (q3a A tb w)) (oneT (q3a (tab 3 fun c=>(solA (oneT (q3a A tb w)) tb w c:Int)) tb w))=0:=by
  rw[zi4 (q4a hrt (by decide)) (q4a hru (by decide))]
  intro j hj hb
  rw[qk9 _ hj,qk9 _ hj]
  have hc:j%4<3:=by
   by_cases h3:j%4=3
   ·rw[h3]at hb
    cases hb
   ·omega
  generalize j%4=c at hc
  have hz:sqS (oneT (q3a A tb w)) c (q3a A tb w c)=0:=by
   unfold sqS
   rw[qyp fun i _=>sqN _]
   intro i hi
   rw[qk9 _ (by omega),show(i*4+c)%4=c by omega,Int.sub_self]
   rfl
  have hl:=qyr (fun v=>sqS (oneT (q3a A tb w)) c (q0w (q0s 5 (v:Int)+(qdh tb).getD w 0))) (n:=32) (i:=(A.getD c 0).toNat) (by have:=hA c hc;omega)
  have e1:q0w (q0s 5 (((A.getD c 0).toNat:Nat):Int)+(qdh tb).getD w 0)=q3a A tb w c:=by
   unfold q3a
   rw[iN (by omega),Int.toNat_of_nonneg (hA c hc).1]
  simp only[e1,hz]at hl
  have e2:q3a (tab 3 fun c=>(solA (oneT (q3a A tb w)) tb w c:Int)) tb w c=q0w (q0s 5 (solA (oneT (q3a A tb w)) tb w c:Int)+(qdh tb).getD w 0):=by
   unfold q3a
   rw[iN (by omega),q77 hc]
  have hn:0≤sqS (oneT (q3a A tb w)) c (q3a (tab 3 fun c=>(solA (oneT (q3a A tb w)) tb w c:Int)) tb w c):=(qa4 (m:=255*255) fun i _=>qhe (m:=255) (by
   have h1:=hrt (i*4+c)
   have h2:=qed (tab 3 fun c=>(solA (oneT (q3a A tb w)) tb w c:Int)) tb w c
   omega)).1
  rw[e2]at hn⊢
  have h0:sqS (oneT (q3a A tb w)) c (q0w (q0s 5 (solA (oneT (q3a A tb w)) tb w c:Int)+(qdh tb).getD w 0))=0:=Int.le_antisymm hl hn
  unfold sqS at h0
  rw[qyp fun i _=>sqN _]at h0
  have h1:=sq_zero.1 (h0 0 (by decide))
  rw[qk9 _ (by omega),show(0*4+c)%4=c by omega]at h1
  omega
 rcases hk with rfl|rfl
 ·show errS 7 (oneT (q3a A tb w)) (z86 _)=0
  rw[hd.1]
  exact key
 ·show errS 7 (oneT (q3a A tb w)) (tab 64 (qdo _ false))=0
  rw[hd.2]
  exact key
theorem zkd(w:Int)(A B T:LI):q7m 600 600 w q50 A B T q01 0=some (q50,A,B,T,q3s w,()):=by
 obtain⟨r,rfl,e⟩:=q0e (N:=16) (by decide) (fun q (s:LI) i=>q7m 600 q w q50 A B T s i) (fun i s=>s=tab 16 (upT i fun _=>w)) (fun r=>r=(q50,A,B,T,q3s w,()))
  (fun q i s hi hs=>by
   subst hs
   have h3:(i:Int)<16:=by omega
   have e1:(tab 16 (upT i fun _=>w)).set i w=tab 16 (upT (i+1) fun _=>w):=zeo (fun _=>w)
   refine⟨_,rfl,?_⟩
   show qer 600 (q7m 600 q) _ _ _ _ _ _ _=_
   unfold qer
   simp only[h3,dT,cT,yc,yd,yb,e1,q0d (show i<1000000000000 by omega)])
  (fun q s hs=>⟨_,rfl,by subst hs;rw[zep];rfl⟩) (s:=q01) (by rw[z43];rfl)
 exact e
theorem Held_ok{A:LI}(hl:A.length=3){tb w:Nat}(htb:tb<8)(hw:w<4)(hA:∀c,c<3→0≤A.getD c 0∧A.getD c 0≤31):qhp 600 A (tb:Int) (w:Int)=some (oneT (q3a A tb w),true,()):=by
 have hok:Ok10 true A [0,0,0] [(tb:Int),(tb:Int)] (q3s (w:Int)):=by
  refine⟨fun c hc=> ?_,fun i hi=> ?_,?_,?_⟩
  ·rw[iP rfl]
   have:=(T3.nil (a:=0) (z:=0) (by decide)).2 c
   exact⟨hA c hc,by omega⟩
  ·rw[qfq _ hi]
   omega
  ·show 0≤(tb:Int)∧(tb:Int)≤7
   omega
  ·show 0≤(tb:Int)∧(tb:Int)≤7
   omega
 unfold qhp
 rw[zkd]
 simp only[y5]
 rw[May10_is (by decide)]
 simp only[y5,hok,dT,Bool.not_true,cF]
 rw[qwj (by decide) true false (hok.fair hl rfl) (hok.which (qyu _)),zik hl htb hw]
 rfl
theorem held_fit{A:LI}(hA:∀c,c<3→0≤A.getD c 0∧A.getD c 0≤31){tb w:Nat}(htb:tb<8)(hw:w<4){k:Nat}(hk:k=7∨k=8):∃b,q1n 600 (k:Int) (oneT (q3a A tb w)) 2=some (b,0,0,())∧Okb 8 b∧q9i k b (oneT (q3a A tb w))=0:=by
 have hkf:Fmt k:=by unfold Fmt;omega
 have hrt:Rg 255 (oneT (q3a A tb w)):=qws (by decide) fun c _=>qed A tb w c
 obtain⟨b1,n1,b2,n2,_,_,e,_,i2,_,_,g,_⟩:=zqn (t:=oneT (q3a A tb w)) (q21 _ _) hrt hkf
 have h1:=g hk tb w htb hw
 rw[zqo hA htb hw hk]at h1
 have h2:=z1m hkf i2.1.1 hrt
 have h3:=i2.2
 have h0:n2=0:=by omega
 rw[h0]at e
 exact⟨b2,e,by rcases hk with rfl|rfl<;>exact i2.1,by omega⟩
theorem zke:((yz 32).all fun v=>q0w (q0s 5 (v:Int)+2) !=q3a [10,20,5] 3 2 0)=true:=by kernel_rfl
theorem zkf:0<q9i 7 (qjd 7 (scT 7 (oneT (q3a [10,20,5] 3 2)))) (oneT (q3a [10,20,5] 3 2)):=by
 have hk:Fmt 7:=by unfold Fmt;omega
 have hrt:Rg 255 (oneT (q3a [10,20,5] 3 2)):=qws (by decide) fun c _=>qed _ 3 2 c
 have ob:=zlq (scT 7 (oneT (q3a [10,20,5] 3 2))) hk
 have h0:=z1m hk ob.1 hrt
 by_cases hz:q9i 7 (qjd 7 (scT 7 (oneT (q3a [10,20,5] 3 2)))) (oneT (q3a [10,20,5] 3 2))=0
 ·exfalso
  unfold q9i at hz
  rw[zi4 (q4a (qyo (k:=7) hrt) (by decide)) (q4a (z48 ob.1 hk) (by decide))]at hz
  have h1:=hz 0 (by decide) rfl
  rw[dec_blk _ hk,qk9 _ (by decide)]at h1
  have h2:(scT 7 (oneT (q3a [10,20,5] 3 2))).getD 0 0=q3a [10,20,5] 3 2 0:=by
   show(oneT (q3a [10,20,5] 3 2)).getD 0 0=_
   rw[qk9 _ (by decide)]
  rw[h2]at h1
  have h3:col14 7 (scT 7 (oneT (q3a [10,20,5] 3 2))) (0%4)=q0w (q0s 5 ((liN (scT 7 (oneT (q3a [10,20,5] 3 2)))).getD 0 0)+2):=by
   show liC _ 0=_
   unfold liC
   rw[iN (by decide)]
  rw[h3]at h1
  have hb:0≤(liN (scT 7 (oneT (q3a [10,20,5] 3 2)))).getD 0 0∧(liN (scT 7 (oneT (q3a [10,20,5] 3 2)))).getD 0 0≤31:=by
   unfold liN
   rw[q77 (by decide)]
   exact bN_L _ _
  obtain⟨v,hv⟩:∃v:Nat,(liN (scT 7 (oneT (q3a [10,20,5] 3 2)))).getD 0 0=(v:Int):=⟨((liN (scT 7 (oneT (q3a [10,20,5] 3 2)))).getD 0 0).toNat,by omega⟩
  rw[hv]at h1 hb
  have hc:=List.all_eq_true.1 zke v (List.mem_range.2 (by omega))
  rw[bne_iff_ne]at hc
  exact hc h1.symm
 ·omega
theorem Fit_none{f:Int}(h:¬(7≤f∧f≤12))(t:LI)(e:Int):q1n 600 f t e=some ([],0,5,()):=by
 unfold q1n
 by_cases h7:f<7
 ·simp only[h7,dT,cT]
 ·simp only[h7,show 12<f by omega,dT,dF,cT,cF]
theorem Fit_no(t:LI):q1n 600 1 t 1=some ([],0,5,()):=Fit_none (by decide) t 1
theorem znh:qhp 600 [10,20,5] 3 2=some (oneT (q3a [10,20,5] 3 2),true,()):=
 Held_ok (A:=[10,20,5]) rfl (tb:=3) (w:=2) (by decide) (by decide) (by decide)
theorem zqp:∃b:LI,q1n 600 7 (oneT (q3a [10,20,5] 3 2)) 2=some (b,0,0,())∧b.length=8:=by
 obtain⟨b,e1,ob,_⟩:=held_fit (A:=[10,20,5]) (by decide) (tb:=3) (w:=2) (by decide) (by decide) (k:=7) (.inl rfl)
 exact⟨b,e1,ob.2⟩
theorem zni:∃(b:LI) (n:Int),q1n 600 7 (oneT (q3a [10,20,5] 3 2)) 0=some (b,n,0,())∧0<n:=by
 obtain⟨_,_,_,_,e2,_⟩:=zqn (t:=oneT (q3a [10,20,5] 3 2)) (q21 _ _) (qws (by decide) fun c _=>qed _ 3 2 c) (k:=7) (by unfold Fmt;omega)
 exact⟨_,_,e2,zkf⟩
theorem awake_of{T b b0:LI}{n:Int}(h0:qhp 600 [10,20,5] 3 2=some (T,true,()))(e1:q1n 600 7 T 2=some (b,0,0,()))(hb:b.length=8)(e2:q1n 600 7 T 0=some (b0,n,0,()))(hn:0<n)(e3:q1n 600 1 T 1=some ([],0,5,())):qi6 600=some (true,()):=by
 unfold qi6
 rw[h0]
 simp only[y5]
 rw[e1,e2,e3]
 simp only[y5,hb,hn,dT,cT,beq_self_eq_true,show(((8:Nat):Int)==8)=true from rfl]
theorem awake16:qi6 600=some (true,()):=by
 obtain⟨b,e1,hb⟩:=zqp
 obtain⟨b0,n,e2,hn⟩:=zni
 exact awake_of znh e1 hb e2 hn (Fit_no _)
theorem znj:((yz 256).all fun a=>(yz 8).any fun k=>decide (cstL true (a:Int) 0 (tblE 13) (8*(a:Int)+(a:Int)/32) k≤1))=true:=by kernel_rfl
theorem zqq{f:Nat→Int}{n:Nat}(h:∀i,0≤f i):∀{m:Nat},n<m→f n≤sumN f m
 |0,hn=>absurd hn (by omega)
 |m+1,hn=>by
  have hs:0≤sumN f m:=by
   clear hn
   induction m with
   |zero=>exact Int.le_refl _
   |succ m ih=>rw[qfr];have:=h m;omega
  rw[qfr]
  have h1:=h m
  by_cases he:n=m
  ·subst he
   omega
  ·have:=zqq h (n:=n) (m:=m) (by omega)
   omega
theorem sq16{d:Int}(h:d*d≤16): -16≤d∧d≤16:=by
 constructor
 ·by_cases h1:17≤-d
  ·have:=Int.mul_le_mul h1 h1 (by decide) (by omega)
   rw[Int.neg_mul_neg]at this
   omega
  ·omega
 ·by_cases h1:17≤d
  ·have:=Int.mul_le_mul h1 h1 (by decide) (by omega)
   omega
  ·omega
def redC(a:Int)(c:Nat):Int:=if c=0 then a else 0
theorem red_near{a:Int}(ha:0≤a∧a≤255){b:LI}{n:Int}(hI:Inv 11 (oneT (redC a)) b n)(hn:Redd (oneT (redC a)) n):∀i,i<16→(scT 11 (oneT (redC a))).getD (i*4) 0-16≤(qmi 11 b).getD (i*4) 0∧(qmi 11 b).getD (i*4) 0≤(scT 11 (oneT (redC a))).getD (i*4) 0+16:=by
 have hk:Fmt 11:=by unfold Fmt;omega
 have hs:∀i,i<16→(scT 11 (oneT (redC a))).getD (i*4) 0=scV a:=fun i hi=>by
  show(tab 64 fun j=>scV ((oneT (redC a)).getD j 0)).getD (i*4) 0=_
  rw[q77 (by omega),qk9 _ (by omega),show i*4%4=0 by omega]
  rfl
 have hrt:Rg 255 (oneT (redC a)):=qws (by decide) fun c _=>by
  unfold redC
  split<;>omega
 have h1:=hn (scV a) hs 13 0 (by decide) (by decide)
 have h8:scV a/8=a:=by unfold scV;omega
 rw[h8]at h1
 have h2:sumL true a ((0:Nat):Int) (tblE ((13:Nat):Int)) (scT 11 (oneT (redC a))) 0≤1*16:=by
  unfold sumL
  refine(qa4 (n:=16) (m:=1) fun i hi=>⟨sqN _,?_⟩).2
  rw[show i*4+0=i*4 from rfl,hs i hi]
  have hc:=List.all_eq_true.1 znj a.toNat (List.mem_range.2 (by omega))
  rw[Int.toNat_of_nonneg ha.1]at hc
  obtain⟨k,hk8,hc⟩:=List.any_eq_true.1 hc
  have hc:=of_decide_eq_true hc
  exact Int.le_trans (qyr _ (List.mem_range.1 hk8)) hc
 have h3:q9i 11 b (oneT (redC a))≤16:=by
  have:=hI.2
  omega
 intro i hi
 have h4:errT (qmg 11) (scT 11 (oneT (redC a))) (qmi 11 b) (i*4)≤16:=Int.le_trans (zqq (n:=i*4) (m:=64) (fun j=>(qu3 (q4a (qyo (k:=11) hrt) (by decide)) (q4a (z48 hI.1.1 hk) (by decide)) j).1) (by omega)) h3
 unfold errT at h4
 rw[show i*4%4=0 by omega,show bitM (qmg 11) 0=true from rfl,iP rfl]at h4
 have:=sq16 h4
 omega
theorem zqr{a:Int}{u s:LI}(hs:Rg 2047 s)(h:∀i,i<16→s.getD (i*4) 0-16≤u.getD (i*4) 0∧u.getD (i*4) 0≤s.getD (i*4) 0+16)(x0:Bool)(x1:LI)(x3 x6:Int)(x7:Bool):q33 600 600 x0 x1 s x3 u 0 x6 x7=some (.inr (x0,x1,s,x3,x6,x7,())):=by
 obtain⟨r,rfl,e⟩:=q0e (N:=16) (by decide) (fun q (_:Unit) i=>q33 600 q x0 x1 s x3 u i x6 x7) (fun _ _=>True) (fun r=>r= .inr (x0,x1,s,x3,x6,x7,()))
  (fun q i _ hi _=>by
   have h3:(i:Int)<16:=by omega
   have h4:=h i hi
   have h5:=hs (i*4)
   refine⟨(),trivial,?_⟩
   show q7n 600 (q33 600 q) _ _ _ _ _ _ _ _=_
   unfold q7n
   simp only[h3,dT,cT,yc,yd,yb,w64 (x:=s.getD (i*4) 0-16) (by omega) (by omega),w64 (x:=s.getD (i*4) 0+16) (by omega) (by omega),show¬u.getD (i*4) 0<s.getD (i*4) 0-16 by omega,show¬s.getD (i*4) 0+16<u.getD (i*4) 0 by omega,dF,cF,q0d (show i<1000000000000 by omega)])
  (fun q _ _=>⟨_,rfl,rfl⟩) (s:=()) trivial
 exact e
theorem law16_EtcfitRed_true(a:Int)(_:IntKind.i64.has a):∃F,qi7 F a=some (true,()):=by
 refine⟨600,?_⟩
 unfold qi7
 rw[awake16]
 simp only[y5]
 by_cases h0:a<0
 ·simp only[h0,dT,cT]
 by_cases h255:255<a
 ·simp only[h0,h255,dT,dF,cT,cF]
 have hk:Fmt 11:=by unfold Fmt;omega
 have hrt:Rg 255 (oneT (redC a)):=qws (by decide) fun c _=>by
  unfold redC
  split<;>omega
 have hA:qi4 600 [a,0,0,0]=some (oneT (redC a),()):=znb (redC a)
 have hS:=zq9 (t:=oneT (redC a)) hk (q21 _ _) hrt
 rw[show((11:Nat):Int)=11 from rfl]at hS
 simp only[h0,h255,dF,cF,hA,y5,hS]
 obtain⟨b1,n1,b2,n2,_,e1,e2,i1,i2,_,l2,_,g⟩:=zqn (t:=oneT (redC a)) (q21 _ _) hrt hk
 rw[show((11:Nat):Int)=11 from rfl]at e1 e2
 have g1:=g rfl
 have g2:Redd (oneT (redC a)) n2:=fun s hs table times h1 h2=>Int.le_trans l2 (g1 s hs table times h1 h2)
 have step:∀q (x:Int) {b:LI} {n:Int},x≤2→q1n 600 11 (oneT (redC a)) x=some (b,n,0,())→Inv 11 (oneT (redC a)) b n→Redd (oneT (redC a)) n→
   q0r 600 (q+1) true (oneT (redC a)) (scT 11 (oneT (redC a))) x=q0r 600 q true (oneT (redC a)) (scT 11 (oneT (redC a))) (y0 .i64 (x+1)):=by
  intro q x b n hx hF hI hR
  have hD:=zie hI.1.1 hk hI.1.2
  rw[show((11:Nat):Int)=11 from rfl]at hD
  show q7o 600 (q0r 600 q) _ _ _ _=_
  unfold q7o
  simp only[hx,dT,cT,hF,hD,y5,bne_self_eq_false,cF,zqr (a:=a) (q4a (qyo (k:=11) hrt) (by decide)) (red_near (by omega) hI hR)]
 rw[show q0r 600 600=q0r 600 (599+1)from rfl,step 599 1 (by decide) e1 i1 g1,show y0 .i64 (1+1)=2 from rfl,show q0r 600 599=q0r 600 (598+1)from rfl,step 598 2 (by decide) e2 i2 g2]
 rfl
end Go.AE.Gn

/- A part of the proof, put together of my texts: PureX, Pure16a, Pure16b, Pure16c, Pure16d, Pure16e, Pure16f, Pure16g. -/
import Derived.Test.YtdnccegimipapaaGreatRowEtcfitHeldP6
set_option linter.unusedSimpArgs false
set_option linter.unusedVariables false
set_option linter.unusedSectionVars false
open List renaming getD_eq_getElem?_getD → ye, getElem?_eq_none → w7, take → y8, drop → y9, getD_cons_zero → yt, getD_cons_succ → yu, mem_cons → yr, mem_append → yk, length_append → yo, range → yz
open Int renaming natCast_nonneg → yc, toNat_natCast → yb, cast_ofNat_Int → yp, natCast_zero → yq, tdiv → yw, tmod → yv, natCast_pow → w9, toNat → y6, eq_ofNat_of_zero_le → yh
open Bool renaming and_self → yd, false_eq_true → yn
open Option renaming bind_some → y5
open Go.IntKind renaming wrap → y0
open Nat renaming le_refl → w8
open Prod.mk renaming injEq → ym
namespace Go.AE.Gn
open Go Go.AE
def Rg(m:Int)(l:LI):Prop:=∀j,0≤l.getD j 0∧l.getD j 0≤m
theorem zqh{l:LI}{j:Nat}(h:l.length≤j):l.getD j 0=0:=by
 rw[ye,w7 h]
 rfl
theorem qdn{m:Int}{N:Nat}{g:Nat→Int}(hm:0≤m)(h:∀j,j<N→0≤g j∧g j≤m):Rg m (tab N g):=by
 intro j
 by_cases hj:j<N
 ·rw[q7w hj]
  exact h j hj
 ·rw[zqh (by rw[q26];omega)]
  omega
theorem q4p{m m' :Int}{l:LI}(h:Rg m l)(hm:m≤m'):Rg m' l:=fun j=>⟨(h j).1,Int.le_trans (h j).2 hm⟩
theorem qfr{m:Int}{a b:LI}(ha:Rg m a)(hb:Rg m b):Rg m (a++b):=by
 intro j
 simp only[ye,List.getElem?_append]
 split
 ·have:=ha j
  simpa[ye]using this
 ·have:=hb (j-a.length)
  simpa[ye]using this
theorem q2j{m x:Int}{a:LI}(hx:0≤x∧x≤m)(ha:Rg m a):Rg m (x::a):=by
 intro j
 cases j with
 |zero=>simpa using hx
 |succ j=>simpa using ha j
theorem qtf{m:Int}(hm:0≤m):Rg m []:=fun j=>by simp[hm]
theorem rg_tex10(d f:Bool)(A B T W:LI)(i:Nat):Rg 255 (zbg (q1h d A B) T W f i):=
 q2j (q0y _) (q2j (q0y _) (q2j (q0y _) (q2j (qhf d A B _) (qtf (by decide)))))
theorem zkd{l:LI}{j:Nat}:((l.drop (j/4*4)).take 4).getD (j%4) 0=l.getD j 0:=by
 simp only[ye,List.getElem?_take,List.getElem?_drop]
 rw[iP (by omega)]
 congr 2
 omega
theorem zce(d f:Bool)(A B T W:LI):Rg 255 (qb9 d f A B T W):=by
 intro j
 by_cases hj:j<64
 ·rw[←zkd,show((qb9 d f A B T W).drop (j/4*4)).take 4=zbg (q1h d A B) T W f (j/4)from qk9 _ (fun _ _=>rfl) (by omega)]
  exact rg_tex10 d f A B T W _ _
 ·rw[zqh (by rw[qoc];omega)]
  decide
theorem qfs(x y z:Int):Rg 255 (qal x y z):=q2j (q1t (by decide) _) (q2j (q1t (by decide) _) (q2j (q1t (by decide) _) (q2j (by decide) (qtf (by decide)))))
theorem z0m{l:LI}(h:Rg 255 l)(n:Int):Rg 255 (addV l n):=q2j (q0y _) (q2j (q0y _) (q2j (q0y _) (q2j (h 3) (qtf (by decide)))))
theorem rg_fourT(b:LI):Rg 255 (qgk b):=qfr (qfs _ _ _) (qfr (z0m (qfs _ _ _) _) (qfr (qfs _ _ _) (z0m (qfs _ _ _) _)))
theorem rg_fourH(b:LI):Rg 255 (qef b):=qfr (z0m (qfs _ _ _) _) (qfr (z0m (qfs _ _ _) _) (qfr (z0m (qfs _ _ _) _) (z0m (qfs _ _ _) _)))
theorem qwz(b:LI)(p:Bool)(j:Nat):0≤qdq b p j∧qdq b p j≤255:=by
 unfold qdq zF
 split
 ·decide
 ·unfold zig
  split
  ·unfold z8o qob
   split
   ·exact qhf _ _ _ _
   ·exact zce _ _ _ _ _ _ j
  ·split
   ·exact rg_fourT b _
   ·split
    ·exact rg_fourH b _
    ·unfold qwv q5q
     split
     ·decide
     ·exact q0y _
def eacL(b:LI)(wide:Bool):LI:=match q3y 600 (hv b 12 4)with
 |some (l,_)=>eacD (hv b 0 8) (hv b 8 4) l (eacW b) wide
 |none=>[]
theorem zqi{b:LI}(hb:Bytes b)(hl:b.length=8)(wide:Bool):qhr 600 b wide=some (eacL b wide,0,()):=by
 obtain⟨tbl,h1,_,h3⟩:=zfj 600 (n:=hv b 12 4) (by have:=q0x b 12 4;omega)
 rw[zkc (by decide) hb hl wide h1 h3]
 unfold eacL
 rw[h1]
theorem zfl(b:LI)(wide:Bool):Rg (if wide then 2047 else 255) (eacL b wide):=by
 have hm:(0:Int)≤if wide then 2047 else 255:=by cases wide<;>decide
 cases hT:q3y 600 (hv b 12 4)with
 |none=>simp only[eacL,hT];exact qtf hm
 |some p=>simp only[eacL,hT];exact qdn (N:=16) hm fun j _=>z1p _ _ _ _
def wT(c:Nat)(l t:LI):LI:=tab 64 fun j=>if j%4=c then l.getD (j/4) 0 else t.getD j 0
theorem wT_len(c:Nat)(l t:LI):(wT c l t).length=64:=q26 _ _
theorem rg_wT{m:Int}(hm:0≤m){c:Nat}{l t:LI}(hl:Rg m l)(ht:Rg m t):Rg m (wT c l t):=qdn hm fun j _=>by
 split
 ·exact hl _
 ·exact ht _
def upW(c i:Nat)(l t:LI)(j:Nat):Int:=if j%4=c∧j/4<i then l.getD (j/4) 0 else t.getD j 0
theorem zqj{c i:Nat}(hc:c<4)(hi:i<16)(l t:LI):(tab 64 (upW c i l t)).set (i*4+c) (l.getD i 0)=tab 64 (upW c (i+1) l t):=by
 rw[z8a]
 refine q0b fun j hj=> ?_
 unfold upW
 by_cases h:j=i*4+c
 ·subst h
  rw[iP rfl,iP (by omega),show(i*4+c)/4=i by omega]
 ·rw[iN h]
  by_cases h2:j%4=c∧j/4<i
  ·rw[iP h2,iP (by omega)]
  ·rw[iN h2,iN (by omega)]
theorem zke{c:Nat}(hc:c<4)(l t T:LI):∀(d i k:Nat),i+d=16→d<k→q87 600 k c (tab 64 (upW c i l t)) T l (i:Int)=some (tab 64 (upW c 16 l t),T,()):=by
 intro d
 induction d with
 |zero=>
  intro i k h1 h2
  obtain⟨k,rfl⟩:∃k',k=k' +1:=⟨k-1,by omega⟩
  obtain rfl:i=16:=by omega
  rfl
 |succ d ih=>
  intro i k h1 h2
  obtain⟨k,rfl⟩:∃k',k=k' +1:=⟨k-1,by omega⟩
  show qcd 600 (q87 600 k) c (tab 64 (upW c i l t)) T l i=_
  unfold qcd
  have h3:(i:Int)<16:=by omega
  have h4:(c:Int)<4:=by omega
  simp only[h3,h4,dT,cT,yc,yd,yb,zqj hc (show i<16 by omega),q0d (show i<1000000000000 by omega)]
  exact ih (i+1) k (by omega) (by omega)
theorem zqk{c:Nat}(hc:c<4){l t:LI}(ht:t.length=64)(e:Int):qi6 600 t c l e=some (wT c l t,()):=by
 have h:=zke hc l t q5y 16 0 600 (by omega) (by omega)
 have e0:tab 64 (upW c 0 l t)=t:=by
  conv=>rhs;rw[qgi ht]
  exact q0b fun j hj=>by unfold upW;rw[iN (by omega)]
 have e1:tab 64 (upW c 16 l t)=wT c l t:=q0b fun j hj=>by
  unfold upW
  by_cases h2:j%4=c
  ·rw[iP h2,iP (by omega)]
  ·rw[iN h2,iN (by omega)]
 rw[e0,e1]at h
 unfold qi6
 rw[show((0:Nat):Int)=0 from rfl]at h
 rw[h]
 rfl
def qmh(a:Int):LI:=tab 64 fun j=>if j%4=3 then a else 0
theorem qu4(a:Int):(qmh a).length=64:=q26 _ _
theorem blank_is:q96 600 false=some (qmh 255,())∧q96 600 true=some (qmh 2047,()):=by constructor<;>kernel_rfl
theorem zil{m a:Int}(h:0≤a∧a≤m):Rg m (qmh a):=qdn (by omega) fun j _=>by
 split<;>omega
def q3k(k:Nat):Nat:=match k with|1|4|7|8|9|11=>8|_=>16
def qkc(k:Nat):Int:=match k with|1|7|8=>7|2|3|6|9|10=>15|4|11=>1|_=>3
def qyw(k:Nat):Bool:=match k with|11|12=>true|_=>false
def z1q(k:Nat):Int:=if qyw k then 2047 else 255
def Fmt(k:Nat):Prop:=7≤k∧k≤12
theorem qj6{p:Nat→Prop}(h7:p 7)(h8:p 8)(h9:p 9)(h10:p 10)(h11:p 11)(h12:p 12){k:Nat}(h:Fmt k):p k:=by
 obtain⟨a,b⟩:=h
 have:k=7∨k=8∨k=9∨k=10∨k=11∨k=12:=by omega
 rcases this with rfl|rfl|rfl|rfl|rfl|rfl<;>assumption
theorem zkf(F:Nat){k:Nat}(h:Fmt k):q95 F (k:Int)=some (((q3k k:Int),qkc k,qyw k,()),0,()):=by
 refine qj6 (p:=fun k=>q95 F (k:Int)=some (((q3k k:Int),qkc k,qyw k,()),0,())) ?_ ?_ ?_ ?_ ?_ ?_ h<;>rfl
theorem Of_bad(F:Nat){f:Int}(h:¬(1≤f∧f≤12)):q95 F f=some ((0,0,false,()),5,()):=by
 have hn:∀c:Int,1≤c→c≤12→(f==c)=false:=fun c h1 h2=>beqF (by omega)
 unfold q95
 rw[hn 1 (by decide) (by decide),hn 7 (by decide) (by decide),hn 8 (by decide) (by decide),hn 2 (by decide) (by decide),hn 3 (by decide) (by decide),hn 6 (by decide) (by decide),hn 10 (by decide) (by decide),hn 9 (by decide) (by decide),hn 4 (by decide) (by decide),hn 11 (by decide) (by decide),hn 5 (by decide) (by decide),hn 12 (by decide) (by decide)]
 rfl
def lo13(b:LI):LI:=b.take 8
def hi13(b:LI):LI:=(b.drop (b.length-8)).take 8
theorem qmi{b:LI}(hb:Bytes b):Bytes (lo13 b):=fun x hx=>hb x (List.mem_of_mem_take hx)
theorem qu5{b:LI}(hb:Bytes b):Bytes (hi13 b):=fun x hx=>hb x (List.mem_of_mem_drop (List.mem_of_mem_take hx))
theorem z4f{b:LI}(h:8≤b.length):(lo13 b).length=8:=by simp[lo13];omega
theorem zfm{b:LI}(h:8≤b.length):(hi13 b).length=8:=by simp[hi13];omega
theorem lo13_8{b:LI}(h:b.length=8):lo13 b=b:=List.take_of_length_le (by omega)
theorem z0n(k:Nat):8≤q3k k∧q3k k≤16:=by
 unfold q3k
 split<;>decide
def qtg(k:Nat)(b:LI):LI:=match k with
 |7=>z8g b
 |8=>tab 64 (qdq b false)
 |9=>tab 64 (qdq b true)
 |10=>wT 3 (eacL (lo13 b) false) (tab 64 (qdq (hi13 b) false))
 |11=>wT 0 (eacL (lo13 b) true) (qmh 2047)
 |_=>wT 1 (eacL (hi13 b) true) (wT 0 (eacL (lo13 b) true) (qmh 2047))
theorem z4g{b:LI}(hb:Bytes b){k:Nat}(h:Fmt k):Rg (z1q k) (qtg k b):=by
 have hlo:=qmi hb
 have hhi:=qu5 hb
 refine qj6 (p:=fun k=>Rg (z1q k) (qtg k b)) ?_ ?_ ?_ ?_ ?_ ?_ h
 ·exact zce _ _ _ _ _ _
 ·exact qdn (by decide) fun j _=>qwz _ _ _
 ·exact qdn (by decide) fun j _=>qwz _ _ _
 ·exact rg_wT (by decide) (zfl _ false) (qdn (by decide) fun j _=>qwz _ _ _)
 ·exact rg_wT (by decide) (zfl _ true) (zil (by decide))
 ·exact rg_wT (by decide) (zfl _ true) (rg_wT (by decide) (zfl _ true) (zil (by decide)))
theorem ql5{b t:LI}(hb:Bytes b)(hl:b.length=8)(ht:t.length=64){c:Nat}(hc:c<4)(x y:Int):q2l 600 t c b x y true=some (wT c (eacL b true) t,()):=by
 unfold q2l qfy
 simp only[cT,zqi hb hl,y5,zqk hc ht]
section
variable {b:LI}
theorem d13_7(hb:Bytes b)(hl:b.length=8)(x):q0t 600 7 x (lo13 b) (hi13 b) b=some (qtg 7 b,0,()):=by
 have h:=(z8h (F:=600) (by decide) hb hl).1
 unfold q0t
 simp only[Int.reduceBEq,cT,cF,h,y5]
 rfl
theorem d13_8(hb:Bytes b)(hl:b.length=8)(x):q0t 600 8 x (lo13 b) (hi13 b) b=some (qtg 8 b,0,()):=by
 have h:=qwx hb hl false
 unfold q0t
 simp only[Int.reduceBEq,cT,cF,h,y5]
 rfl
theorem d13_9(hb:Bytes b)(hl:b.length=8)(x):q0t 600 9 x (lo13 b) (hi13 b) b=some (qtg 9 b,0,()):=by
 have h:=qwx hb hl true
 unfold q0t
 simp only[Int.reduceBEq,cT,cF,h,y5]
 rfl
theorem d13_10(hb:Bytes b)(hl:b.length=16)(x):q0t 600 10 x (lo13 b) (hi13 b) b=some (qtg 10 b,0,()):=by
 have h1:=zqi (qmi hb) (z4f (b:=b) (by omega)) false
 have h2:=qwx (qu5 hb) (zfm (b:=b) (by omega)) false
 have h3:=fun e=>zqk (c:=3) (by decide) (l:=eacL (lo13 b) false) (q26 64 (qdq (hi13 b) false)) e
 simp only[yp]at h3
 unfold q0t
 simp only[Int.reduceBEq,cT,cF,h1,h2,h3,qr1,y5]
 rfl
theorem d13_11(hb:Bytes b)(hl:b.length=8):q0t 600 11 (8,1,true,()) (lo13 b) (hi13 b) b=some (qtg 11 b,0,()):=by
 have h3:=fun x y=>ql5 (qmi hb) (z4f (by omega)) (qu4 2047) (c:=0) (by decide) x y
 simp only[yq]at h3
 unfold q0t
 simp only[Int.reduceBEq,cT,cF,blank_is.2,h3,y5]
 rfl
theorem d13_12(hb:Bytes b)(hl:b.length=16):q0t 600 12 (16,3,true,()) (lo13 b) (hi13 b) b=some (qtg 12 b,0,()):=by
 have h3:=fun x y=>ql5 (qmi hb) (z4f (by omega)) (qu4 2047) (c:=0) (by decide) x y
 have h4:=fun x y=>ql5 (qu5 hb) (zfm (by omega)) (wT_len 0 (eacL (lo13 b) true) (qmh 2047)) (c:=1) (by decide) x y
 simp only[yq,yp]at h3 h4
 unfold q0t
 simp only[Int.reduceBEq,cT,cF,blank_is.2,h3,h4,y5]
 rfl
theorem decode13(hb:Bytes b){k:Nat}(h:Fmt k):b.length=q3k k→q0t 600 (k:Int) ((q3k k:Int),qkc k,qyw k,()) (lo13 b) (hi13 b) b=some (qtg k b,0,()):=
 qj6 (p:=fun k=>b.length=q3k k→q0t 600 (k:Int) ((q3k k:Int),qkc k,qyw k,()) (lo13 b) (hi13 b) b=some (qtg k b,0,()))
  (fun hl=>d13_7 hb hl _) (fun hl=>d13_8 hb hl _) (fun hl=>d13_9 hb hl _) (fun hl=>d13_10 hb hl _) (fun hl=>d13_11 hb hl) (fun hl=>d13_12 hb hl) h
theorem z8u(hb:Bytes b){k:Nat}(h:Fmt k)(hl:b.length=q3k k):qco 600 (k:Int) b=some (qtg k b,0,()):=by
 have g:=z0n k
 unfold qco
 rw[zkf 600 h]
 have e1:y0 .i64 ((b.length:Int)-8)=((b.length-8:Nat):Int):=by rw[w64 (by omega) (by omega)];omega
 have e2:(((b.length:Nat):Int) !=(q3k k:Int))=false:=by rw[hl];simp
 have e3:psub b.length (b.length-8)=8:=by rw[zje];omega
 simp only[y5,bne_self_eq_false,cF,e2,show 8≤b.length by omega,dT,cT,e1,yc,yb,show b.length-8≤b.length by omega,yd,e3]
 have h3:=decode13 hb h hl
 unfold lo13 hi13 at h3
 rw[h3]
 rfl
end
def scV(x:Int):Int:=8*x+x/32
def upS(n:Nat)(t:LI)(j:Nat):Int:=if j<n then scV (t.getD j 0)else t.getD j 0
theorem zql{t:LI}{n:Nat}(hn:n<64):(tab 64 (upS n t)).set n (scV (t.getD n 0))=tab 64 (upS (n+1) t):=by
 rw[z8a]
 refine q0b fun j hj=> ?_
 unfold upS
 by_cases h:j=n
 ·subst h;rw[iP rfl,iP (by omega)]
 ·rw[iN h]
  by_cases h2:j<n
  ·rw[iP h2,iP (by omega)]
  ·rw[iN h2,iN (by omega)]
theorem zim{t:LI}(ht:Rg 255 t)(T:LI){i:Nat}(hi:i<16)(y:Int):∀(d c k:Nat),c+d=4→d<k→
  q6y 600 k (tab 64 (upS (i*4+c) t)) T (i:Int) y (tab 4 fun c=>t.getD (i*4+c) 0) (c:Int)=some (tab 64 (upS (i*4+4) t),T,y,()):=by
 intro d
 induction d with
 |zero=>
  intro c k h1 h2
  obtain⟨k,rfl⟩:∃k',k=k' +1:=⟨k-1,by omega⟩
  obtain rfl:c=4:=by omega
  rfl
 |succ d ih=>
  intro c k h1 h2
  obtain⟨k,rfl⟩:∃k',k=k' +1:=⟨k-1,by omega⟩
  show qat 600 (q6y 600 k) (tab 64 (upS (i*4+c) t)) T i y (tab 4 fun c=>t.getD (i*4+c) 0) c=_
  unfold qat
  have h3:(i:Int)<16:=by omega
  have h4:(c:Int)<4:=by omega
  have hv:=ht (i*4+c)
  have e:y0 .i64 (y0 .i64 (8*t.getD (i*4+c) 0)+y0 .i64 (yw (t.getD (i*4+c) 0) 32))=scV (t.getD (i*4+c) 0):=by
   rw[q25 hv.1,w64 (x:=8*t.getD (i*4+c) 0) (by omega) (by omega),w64 (x:=t.getD (i*4+c) 0/32) (by omega) (by omega),w64 (by omega) (by omega)]
   rfl
  simp only[h3,h4,dT,cT,yc,yd,yb,q7w (show c<4 by omega),e,zql (t:=t) (show i*4+c<64 by omega),q0d (show c<1000000000000 by omega)]
  exact ih (c+1) k (by omega) (by omega)
theorem zin{t:LI}(ht:Rg 255 t)(T:LI):∀(d i k:Nat),i+d=16→d<k→q6z 600 k (tab 64 (upS (i*4) t)) T (i:Int)=some (tab 64 (upS 64 t),T,()):=by
 intro d
 induction d with
 |zero=>
  intro i k h1 h2
  obtain⟨k,rfl⟩:∃k',k=k' +1:=⟨k-1,by omega⟩
  obtain rfl:i=16:=by omega
  rfl
 |succ d ih=>
  intro i k h1 h2
  obtain⟨k,rfl⟩:∃k',k=k' +1:=⟨k-1,by omega⟩
  show qau 600 (q6z 600 k) (tab 64 (upS (i*4) t)) T i=_
  unfold qau
  have h3:(i:Int)<16:=by omega
  have e:y8 4 (y9 (i*4) (tab 64 (upS (i*4) t)))=tab 4 fun c=>t.getD (i*4+c) 0:=by
   rw[zf1 (by omega)]
   exact q0b fun c hc=>by unfold upS;rw[iN (by omega)]
  have h:=zim ht T (i:=i) (by omega) i 4 0 600 (by omega) (by omega)
  simp only[Nat.add_zero,yq]at h
  simp only[h3,dT,cT,yc,yd,yb,e,h,y5,q0d (show i<1000000000000 by omega)]
  rw[show i*4+4=(i+1)*4 by omega]
  exact ih (i+1) k (by omega) (by omega)
def scT(k:Nat)(t:LI):LI:=if qyw k then tab 64 fun j=>scV (t.getD j 0)else t
theorem zfn{k:Nat}{t:LI}(ht:t.length=64):(scT k t).length=64:=by
 unfold scT
 split
 ·exact q26 _ _
 ·exact ht
theorem z1r{k:Nat}{t:LI}(ht:Rg 255 t):Rg (z1q k) (scT k t):=by
 unfold scT z1q
 cases qyw k
 ·exact ht
 ·exact qdn (by decide) fun j _=>by
   have:=ht j
   unfold scV
   simp only[if_true]
   omega
theorem zfo{k:Nat}(h:Fmt k){t:LI}(hl:t.length=64)(ht:Rg 255 t):qbi 600 (k:Int) t=some (scT k t,()):=by
 unfold qbi scT
 rw[zkf 600 h]
 simp only[y5]
 cases qyw k
 ·rfl
 ·have h:=zin ht q5y 16 0 600 (by omega) (by omega)
  have e0:tab 64 (upS (0*4) t)=t:=by
   conv=>rhs;rw[qgi hl]
   exact q0b fun j hj=>by unfold upS;rw[iN (by omega)]
  have e1:tab 64 (upS 64 t)=tab 64 fun j=>scV (t.getD j 0):=q0b fun j hj=>by unfold upS;rw[iP hj]
  rw[e0,e1,show((0:Nat):Int)=0 from rfl]at h
  simp only[Bool.not_true,cF,h,y5,if_true]
def bitM(mask:Int)(c:Nat):Bool:=mask/2^c%2==1
def errT(mask:Int)(s u:LI)(j:Nat):Int:=if bitM mask (j%4)then(s.getD j 0-u.getD j 0)*(s.getD j 0-u.getD j 0)else 0
def sumN(f:Nat→Int):Nat→Int
 |0=>0
 |n+1=>sumN f n+f n
theorem qa4{f:Nat→Int}{m:Int}:∀{n:Nat},(∀i,i<n→0≤f i∧f i≤m)→0≤sumN f n∧sumN f n≤m*n
 |0,_=>by simp[sumN]
 |n+1,h=>by
  have h1:=qa4 (n:=n) fun i hi=>h i (by omega)
  have h2:=h n (by omega)
  have e:m*((n+1:Nat):Int)=m*(n:Int)+m:=by
   rw[show((n+1:Nat):Int)=(n:Int)+1 by omega,Int.mul_add,Int.mul_one]
  unfold sumN
  rw[e]
  omega
theorem qu6{f g:Nat→Int}:∀{n:Nat},(∀i,i<n→f i=g i)→sumN f n=sumN g n
 |0,_=>rfl
 |n+1,h=>by unfold sumN;rw[qu6 fun i hi=>h i (by omega),h n (by omega)]
theorem qyx{f:Nat→Int}:∀{n:Nat},(∀i,i<n→0≤f i)→(sumN f n=0↔∀i,i<n→f i=0)
 |0,_=>by simp[sumN]
 |n+1,h=>by
  have h1:=qyx (n:=n) fun i hi=>h i (by omega)
  have h0:0≤sumN f n:=by
   have:∀m,m≤n→0≤sumN f m:=by
    intro m
    induction m with
    |zero=>intro _;exact Int.le_refl 0
    |succ m ih=>intro hm;unfold sumN;have:=ih (by omega);have:=h m (by omega);omega
   exact this n (w8 _)
  have h2:=h n (by omega)
  unfold sumN
  constructor
  ·intro e i hi
   by_cases hin:i=n
   ·subst hin;omega
   ·exact h1.1 (by omega) i (by omega)
  ·intro e
   have:=h1.2 fun i hi=>e i (by omega)
   have:=e n (by omega)
   omega
theorem qf3{x m:Int}(h: -m≤x∧x≤m):0≤x*x∧x*x≤m*m:=by
 have hm:0≤m:=by omega
 constructor
 ·rcases Int.le_total 0 x with h1|h1
  ·exact Int.mul_nonneg h1 h1
  ·have:=Int.mul_nonneg (a:= -x) (b:= -x) (by omega) (by omega)
   rwa [Int.neg_mul_neg]at this
 ·rcases Int.le_total 0 x with h1|h1
  ·exact Int.mul_le_mul h.2 h.2 h1 hm
  ·have:=Int.mul_le_mul (a:= -x) (b:= -x) (c:=m) (d:=m) (by omega) (by omega) (by omega) hm
   rwa [Int.neg_mul_neg]at this
theorem sq_zero{x:Int}:x*x=0↔x=0:=by
 rw[Int.mul_eq_zero]
 simp
theorem qu7{mask:Int}{s u:LI}(hs:Rg 2047 s)(hu:Rg 2047 u)(j:Nat):0≤errT mask s u j∧errT mask s u j≤2047*2047:=by
 unfold errT
 split
 ·have h1:=hs j
  have h2:=hu j
  exact qf3 (m:=2047) (by omega)
 ·decide
def errS(mask:Int)(s u:LI):Int:=sumN (errT mask s u) 64
theorem zkg{mask:Int}{s u:LI}(hs:Rg 2047 s)(hu:Rg 2047 u):0≤errS mask s u:=(qa4 (n:=64) fun i _=>qu7 hs hu i).1
theorem zio{mask:Int}{s u:LI}(hs:Rg 2047 s)(hu:Rg 2047 u):errS mask s u=0↔∀j,j<64→bitM mask (j%4)=true→s.getD j 0=u.getD j 0:=by
 unfold errS
 rw[qyx fun i _=>(qu7 hs hu i).1]
 constructor
 ·intro h j hj hb
  have:=h j hj
  unfold errT at this
  rw[iP hb,sq_zero]at this
  omega
 ·intro h j hj
  unfold errT
  split
  ·rename_i hb
   rw[sq_zero,h j hj hb]
   omega
  ·rfl
theorem zmc{mask:Int}{c:Nat}(hc:c≤62):(iand .i64 (ishr .i64 mask (c:Int)) 1==1)=bitM mask c:=by
 have h:=qj1 (b:=1) (by decide) (x:=ishr .i64 mask (c:Int))
 rw[show((2:Int)^1-1)=1 from rfl]at h
 rw[h,z89 (by omega)]
 rfl
theorem zip{mask:Int}{s u:LI}(hs:Rg 2047 s)(hu:Rg 2047 u){i:Nat}(hi:i<16)(y:Int):∀(d c k:Nat),c+d=4→d<k→
  q88 600 k mask s u (sumN (errT mask s u) (i*4+c)) (i:Int) y (c:Int)=some (mask,s,u,sumN (errT mask s u) (i*4+4),y,()):=by
 intro d
 induction d with
 |zero=>
  intro c k h1 h2
  obtain⟨k,rfl⟩:∃k',k=k' +1:=⟨k-1,by omega⟩
  obtain rfl:c=4:=by omega
  rfl
 |succ d ih=>
  intro c k h1 h2
  obtain⟨k,rfl⟩:∃k',k=k' +1:=⟨k-1,by omega⟩
  show qcf 600 (q88 600 k) mask s u (sumN (errT mask s u) (i*4+c)) i y c=_
  unfold qcf
  have h3:(i:Int)<16:=by omega
  have h4:(c:Int)<4:=by omega
  have b1:=hs (i*4+c)
  have b2:=hu (i*4+c)
  have b3:=qa4 (n:=i*4+c) (f:=errT mask s u) fun j _=>qu7 hs hu j
  have b5:(2047*2047:Int)*((i*4+c:Nat):Int)≤2047*2047*64:=Int.mul_le_mul_of_nonneg_left (by omega) (by decide)
  have nx:=ih (c+1) k (by omega) (by omega)
  rw[show i*4+(c+1)=(i*4+c)+1 by omega]at nx
  rw[show sumN (errT mask s u) (i*4+c+1)=sumN (errT mask s u) (i*4+c)+errT mask s u (i*4+c)from rfl]at nx
  cases hb:bitM mask c with
  |true=>
   have e:errT mask s u (i*4+c)=(s.getD (i*4+c) 0-u.getD (i*4+c) 0)*(s.getD (i*4+c) 0-u.getD (i*4+c) 0):=by
    unfold errT
    rw[iP (by rw[show(i*4+c)%4=c by omega];exact hb)]
   have b4:=qf3 (x:=s.getD (i*4+c) 0-u.getD (i*4+c) 0) (m:=2047) (by omega)
   have sq:q4r 600 (y0 .i64 (s.getD (i*4+c) 0-u.getD (i*4+c) 0))=some ((s.getD (i*4+c) 0-u.getD (i*4+c) 0)*(s.getD (i*4+c) 0-u.getD (i*4+c) 0),()):=by
    unfold q4r
    rw[w64 (x:=s.getD (i*4+c) 0-u.getD (i*4+c) 0) (by omega) (by omega),w64 (by omega) (by omega)]
   rw[e]at nx
   simp only[h3,h4,dT,cT,yc,yd,yb,zmc (mask:=mask) (show c≤62 by omega),hb,sq,y5,q0d (show c<1000000000000 by omega)]
   rw[w64 (by omega) (by omega)]
   exact nx
  |false=>
   have e:errT mask s u (i*4+c)=0:=by
    unfold errT
    rw[iN (by rw[show(i*4+c)%4=c by omega,hb];simp)]
   rw[e,Int.add_zero]at nx
   simp only[h3,h4,dT,cT,cF,yc,yd,yb,zmc (mask:=mask) (show c≤62 by omega),hb,q0d (show c<1000000000000 by omega)]
   exact nx
theorem ziq{mask:Int}{s u:LI}(hs:Rg 2047 s)(hu:Rg 2047 u):∀(d i k:Nat),i+d=16→d<k→q89 600 k mask s u (sumN (errT mask s u) (i*4)) (i:Int)=some (errS mask s u,()):=by
 intro d
 induction d with
 |zero=>
  intro i k h1 h2
  obtain⟨k,rfl⟩:∃k',k=k' +1:=⟨k-1,by omega⟩
  obtain rfl:i=16:=by omega
  rfl
 |succ d ih=>
  intro i k h1 h2
  obtain⟨k,rfl⟩:∃k',k=k' +1:=⟨k-1,by omega⟩
  show qcg 600 (q89 600 k) mask s u (sumN (errT mask s u) (i*4)) i=_
  unfold qcg
  have h3:(i:Int)<16:=by omega
  have h:=zip hs hu (i:=i) (by omega) (i:Int) 4 0 600 (by omega) (by omega) (mask:=mask)
  simp only[Nat.add_zero,yq]at h
  simp only[h3,dT,cT,h,y5,q0d (show i<1000000000000 by omega)]
  rw[show i*4+4=(i+1)*4 by omega]
  exact ih (i+1) k (by omega) (by omega)
theorem zqm(mask:Int){s u:LI}(hs:Rg 2047 s)(hu:Rg 2047 u):qnb 600 s u mask=some (errS mask s u,()):=by
 have h:=ziq hs hu 16 0 600 (by omega) (by omega) (mask:=mask)
 unfold qnb
 simp only[Nat.zero_mul,yq,sumN]at h
 rw[h]
 rfl
theorem qmj(k:Nat):z1q k≤2047:=by
 unfold z1q
 split<;>decide
def q9h(k:Nat)(b t:LI):Int:=errS (qkc k) (scT k t) (qtg k b)
theorem qu8{b t:LI}(hb:Bytes b){k:Nat}(h:Fmt k)(hl:b.length=q3k k)(htl:t.length=64)(ht:Rg 255 t):q97 600 (k:Int) b t=some (q9h k b t,0,()):=by
 unfold q97
 rw[z8u hb h hl,zkf 600 h,zfo h htl ht]
 simp only[y5,bne_self_eq_false,cF,zqm (qkc k) (q4p (z1r (k:=k) ht) (qmj k)) (q4p (z4g hb h) (qmj k))]
 rfl
theorem mbit_is{mask:Int}(hm:0≤mask∧mask≤15){c:Nat}(hc:c<4):(yv (y0 .i64 (yw mask (2^c))) 2==1)=bitM mask c:=by
 have hp:(0:Int)<2^c:=qdh c
 have h1:0≤mask/2^c:=Int.ediv_nonneg hm.1 (by omega)
 have h2:mask/2^c≤mask:=Int.ediv_le_self _ hm.1
 rw[q25 hm.1,w64 (by omega) (by omega),tmod_nonneg h1]
 rfl
theorem zir(k:Nat):0≤qkc k∧qkc k≤15:=by
 unfold qkc
 split<;>decide
theorem zqn(F:Nat)(f:Int):qtv F f=q95 F f∧∃r,q95 F f=some r:=by
 by_cases h:1≤f∧f≤12
 ·have:f=1∨f=2∨f=3∨f=4∨f=5∨f=6∨f=7∨f=8∨f=9∨f=10∨f=11∨f=12:=by omega
  rcases this with rfl|rfl|rfl|rfl|rfl|rfl|rfl|rfl|rfl|rfl|rfl|rfl<;>exact⟨rfl,_,rfl⟩
 ·rw[Of_bad F h]
  refine⟨?_,_,rfl⟩
  unfold qtv
  by_cases h1:f<1
  ·simp only[h1,dT,cT]
  ·have h2:12<f:=by omega
   simp only[h1,dF,cF,h2,dT,cT]
def q35(g:Nat→Int):Nat→Nat
 |0=>0
 |n+1=>if n=0 then 0 else if g n<g (q35 g n)then n else q35 g n
theorem qft(g:Nat→Int):∀{n:Nat},0<n→q35 g n<n
 |0,h=>by omega
 |n+1,_=>by
  unfold q35
  split
  ·omega
  ·split
   ·omega
   ·have:=qft g (n:=n) (by omega)
    omega
theorem z8v(g:Nat→Int):∀{n:Nat} {i:Nat},i<n→g (q35 g n)≤g i
 |0,i,h=>by omega
 |n+1,i,h=>by
  unfold q35
  split
  ·have:i=0:=by omega
   subst this
   exact Int.le_refl _
  ·split
   ·by_cases hi:i=n
    ·subst hi;exact Int.le_refl _
    ·have:=z8v g (n:=n) (i:=i) (by omega)
     omega
   ·by_cases hi:i=n
    ·subst hi;omega
    ·exact z8v g (n:=n) (i:=i) (by omega)
def zfp(l:LI)(v:Int):Int:=sumN (fun i=>(l.getD i 0-v)*(l.getD i 0-v)) l.length
theorem zbi{l L:LI}(hl:Rg 2047 l)(hn:l.length≤64){p:Nat}(hp:p<L.length)(hv:0≤L.getD p 0∧L.getD p 0≤2047):∀(d i k:Nat),i+d=l.length→d<k→
  q48 600 k (p:Int) L (sumN (fun i=>(l.getD i 0-L.getD p 0)*(l.getD i 0-L.getD p 0)) i) l (l.length:Int) (i:Int)=some (zfp l (L.getD p 0),()):=by
 intro d
 induction d with
 |zero=>
  intro i k h1 h2
  obtain⟨k,rfl⟩:∃k',k=k' +1:=⟨k-1,by omega⟩
  obtain rfl:i=l.length:=by omega
  show q4y 600 (q48 600 k) _ _ _ _ _ _=_
  unfold q4y
  simp only[Int.lt_irrefl,dF,cF]
  rfl
 |succ d ih=>
  intro i k h1 h2
  obtain⟨k,rfl⟩:∃k',k=k' +1:=⟨k-1,by omega⟩
  show q4y 600 (q48 600 k) _ _ _ _ _ _=_
  unfold q4y
  have h3:(i:Int)<(l.length:Int):=by omega
  have h4:(p:Int)<(L.length:Int):=by omega
  have b1:=hl i
  have b2:=qf3 (x:=l.getD i 0-L.getD p 0) (m:=2047) (by omega)
  have b3:=qa4 (n:=i) (f:=fun i=>(l.getD i 0-L.getD p 0)*(l.getD i 0-L.getD p 0)) (m:=2047*2047) fun j _=>qf3 (m:=2047) (by have:=hl j;omega)
  have b4:(2047*2047:Int)*(i:Int)≤2047*2047*64:=Int.mul_le_mul_of_nonneg_left (by omega) (by decide)
  have sq:q4r 600 (y0 .i64 (l.getD i 0-L.getD p 0))=some ((l.getD i 0-L.getD p 0)*(l.getD i 0-L.getD p 0),()):=by
   unfold q4r
   rw[w64 (x:=l.getD i 0-L.getD p 0) (by omega) (by omega),w64 (by omega) (by omega)]
  simp only[h3,h4,dT,cT,yc,yd,yb,sq,y5,q0d (show i<1000000000000 by omega)]
  rw[w64 (by omega) (by omega)]
  exact ih (i+1) k (by omega) (by omega)
theorem zcf{l L:LI}(hl:Rg 2047 l)(hn:l.length≤64){p:Nat}(hp:p<L.length)(hv:0≤L.getD p 0∧L.getD p 0≤2047):qh9 600 (p:Int) l L=some (zfp l (L.getD p 0),()):=by
 have h:=zbi hl hn hp hv l.length 0 600 (by omega) (by omega)
 unfold qh9
 simp only[yq,sumN]at h
 rw[h]
 rfl
def zbj(L l:LI):Nat:=q35 (fun i=>zfp l (L.getD i 0)) L.length
theorem z0o{l L:LI}(hl:Rg 2047 l)(hn:l.length≤64)(hL:Rg 2047 L)(hm:L.length≤300):∀(d i k:Nat),1≤i→i+d=L.length→d<k→
  q0k 600 k l L (q35 (fun i=>zfp l (L.getD i 0)) i:Int) (zfp l (L.getD (q35 (fun i=>zfp l (L.getD i 0)) i) 0)) (L.length:Int) (i:Int)=some ((zbj L l:Int),()):=by
 intro d
 induction d with
 |zero=>
  intro i k h0 h1 h2
  obtain⟨k,rfl⟩:∃k',k=k' +1:=⟨k-1,by omega⟩
  obtain rfl:i=L.length:=by omega
  show q0o 600 (q0k 600 k) _ _ _ _ _ _=_
  unfold q0o
  simp only[Int.lt_irrefl,dF,cF]
  rfl
 |succ d ih=>
  intro i k h0 h1 h2
  obtain⟨k,rfl⟩:∃k',k=k' +1:=⟨k-1,by omega⟩
  show q0o 600 (q0k 600 k) _ _ _ _ _ _=_
  unfold q0o
  have h3:(i:Int)<(L.length:Int):=by omega
  have nx:=ih (i+1) k (by omega) (by omega) (by omega)
  unfold q35 at nx
  rw[iN (by omega)]at nx
  simp only[h3,dT,cT,zcf hl hn (show i<L.length by omega) (hL i),y5,beqF (show(i:Int)≠0 by omega),cF,q0d (show i<1000000000000 by omega)]
  by_cases hc:zfp l (L.getD i 0)<zfp l (L.getD (q35 (fun i=>zfp l (L.getD i 0)) i) 0)
  ·rw[iP hc]at nx
   simp only[hc,dT,cT]
   exact nx
  ·rw[iN hc]at nx
   simp only[hc,dF,cF]
   exact nx
theorem zfq{l L:LI}(hl:Rg 2047 l)(hn:l.length≤64)(hL:Rg 2047 L)(hm:1≤L.length∧L.length≤300):qe8 600 L l=some ((zbj L l:Int),()):=by
 have h:=z0o hl hn hL hm.2 (L.length-1) 1 599 (by omega) (by omega) (by omega)
 have e:q0k 600 600 l L 0 0 (L.length:Int) 0=some ((zbj L l:Int),()):=by
  show q0o 600 (q0k 600 599) _ _ _ _ _ _=_
  unfold q0o
  have h3:(0:Int)<(L.length:Int):=by omega
  have b0:=zcf hl hn (p:=0) (show 0<L.length by omega) (hL 0)
  simp only[yq]at b0
  simp only[h3,dT,cT,b0,y5,beq_self_eq_true]
  exact h
 unfold qe8 qb6
 rw[e]
 rfl
theorem bestV_lt{L l:LI}(h:0<L.length):zbj L l<L.length:=qft _ h
def colT(t:LI)(c:Nat):LI:=tab 16 fun i=>t.getD (i*4+c) 0
theorem z4h(t:LI)(c:Nat):(colT t c).length=16:=q26 _ _
theorem zfr{m:Int}{t:LI}(h:Rg m t)(c:Nat):Rg m (colT t c):=qdn (by have:=h 0;omega) fun i _=>h _
theorem qyy(N:Nat)(g:Nat→Int):tab N g++[g N]=tab (N+1) g:=by
 unfold tab
 rw[List.range_succ,List.map_append]
 rfl
theorem z1s{t:LI}(hl:t.length=64){i:Nat}(hi:i<16){c:Nat}(hc:c<4):(y8 4 (y9 (i*4) t)).getD c 0=t.getD (i*4+c) 0:=by
 rw[q76 hl (by omega),q7w hc]
section
variable {t:LI} (hl:t.length=64) {c:Nat} (hc:c<4)
include hl hc
theorem zkh(x1 x2:Int):∀(d i k:Nat),i+d=16→d<k→q37 600 k (c:Int) x1 x2 (tab i fun i=>t.getD (i*4+c) 0) t (i:Int)=some (x1,x2,colT t c,()):=by
 intro d
 induction d with
 |zero=>
  intro i k h1 h2
  obtain⟨k,rfl⟩:∃k',k=k' +1:=⟨k-1,by omega⟩
  obtain rfl:i=16:=by omega
  rfl
 |succ d ih=>
  intro i k h1 h2
  obtain⟨k,rfl⟩:∃k',k=k' +1:=⟨k-1,by omega⟩
  show q66 600 (q37 600 k) _ _ _ _ _ _=_
  unfold q66
  have h3:(i:Int)<16:=by omega
  have h4:(c:Int)<4:=by omega
  simp only[h3,h4,dT,cT,yc,yd,yb,q26,show i+1≤1099511627776 by omega,z1s hl (show i<16 by omega) hc,q0d (show i<1000000000000 by omega)]
  rw[qyy i fun i=>t.getD (i*4+c) 0]
  exact ih (i+1) k (by omega) (by omega)
theorem zis(x1:Int):∀(d i k:Nat),i+d=16→d<k→q2u 600 k (c:Int) x1 (tab i fun i=>t.getD (i*4+c) 0) t (i:Int)=some (x1,colT t c,()):=by
 intro d
 induction d with
 |zero=>
  intro i k h1 h2
  obtain⟨k,rfl⟩:∃k',k=k' +1:=⟨k-1,by omega⟩
  obtain rfl:i=16:=by omega
  rfl
 |succ d ih=>
  intro i k h1 h2
  obtain⟨k,rfl⟩:∃k',k=k' +1:=⟨k-1,by omega⟩
  show q5a 600 (q2u 600 k) _ _ _ _ _=_
  unfold q5a
  have h3:(i:Int)<16:=by omega
  have h4:(c:Int)<4:=by omega
  simp only[h3,h4,dT,cT,yc,yd,yb,q26,show i+1≤1099511627776 by omega,z1s hl (show i<16 by omega) hc,q0d (show i<1000000000000 by omega)]
  rw[qyy i fun i=>t.getD (i*4+c) 0]
  exact ih (i+1) k (by omega) (by omega)
theorem zfs(x1:Int):∀(d i k:Nat),i+d=16→d<k→q2b 600 k (c:Int) x1 (tab i fun i=>t.getD (i*4+c) 0) t (i:Int)=some (x1,colT t c,()):=by
 intro d
 induction d with
 |zero=>
  intro i k h1 h2
  obtain⟨k,rfl⟩:∃k',k=k' +1:=⟨k-1,by omega⟩
  obtain rfl:i=16:=by omega
  rfl
 |succ d ih=>
  intro i k h1 h2
  obtain⟨k,rfl⟩:∃k',k=k' +1:=⟨k-1,by omega⟩
  show q4g 600 (q2b 600 k) _ _ _ _ _=_
  unfold q4g
  have h3:(i:Int)<16:=by omega
  have h4:(c:Int)<4:=by omega
  simp only[h3,h4,dT,cT,yc,yd,yb,q26,show i+1≤1099511627776 by omega,z1s hl (show i<16 by omega) hc,q0d (show i<1000000000000 by omega)]
  rw[qyy i fun i=>t.getD (i*4+c) 0]
  exact ih (i+1) k (by omega) (by omega)
theorem zit(x1:Int):∀(d i k:Nat),i+d=16→d<k→q2v 600 k (c:Int) x1 (tab i fun i=>t.getD (i*4+c) 0) t (i:Int)=some (x1,colT t c,()):=by
 intro d
 induction d with
 |zero=>
  intro i k h1 h2
  obtain⟨k,rfl⟩:∃k',k=k' +1:=⟨k-1,by omega⟩
  obtain rfl:i=16:=by omega
  rfl
 |succ d ih=>
  intro i k h1 h2
  obtain⟨k,rfl⟩:∃k',k=k' +1:=⟨k-1,by omega⟩
  show q5b 600 (q2v 600 k) _ _ _ _ _=_
  unfold q5b
  have h3:(i:Int)<16:=by omega
  have h4:(c:Int)<4:=by omega
  simp only[h3,h4,dT,cT,yc,yd,yb,q26,show i+1≤1099511627776 by omega,z1s hl (show i<16 by omega) hc,q0d (show i<1000000000000 by omega)]
  rw[qyy i fun i=>t.getD (i*4+c) 0]
  exact ih (i+1) k (by omega) (by omega)
end
theorem qyz{α:Type}{m:Nat}(hm:m≤300)(g:Nat→Int)(L:Nat→LI→Int→Option α)(res:LI→Option α)
  (step:∀(k i:Nat),i<m→L (k+1) (tab i g) i=L k (tab i g++[g i]) ((i+1:Nat):Int)) (stop:∀k,L (k+1) (tab m g) m=res (tab m g)):L 600 [] 0=res (tab m g):=by
 have key:∀(d i k:Nat),i+d=m→d<k→L k (tab i g) i=res (tab m g):=by
  intro d
  induction d with
  |zero=>
   intro i k h1 h2
   obtain⟨k,rfl⟩:∃k',k=k' +1:=⟨k-1,by omega⟩
   obtain rfl:i=m:=by omega
   exact stop k
  |succ d ih=>
   intro i k h1 h2
   obtain⟨k,rfl⟩:∃k',k=k' +1:=⟨k-1,by omega⟩
   rw[step k i (by omega),qyy]
   exact ih (i+1) k (by omega) (by omega)
 exact key m 0 600 (by omega) (by omega)
def lvW(b:Nat):LI:=tab (2^b) fun i=>q0s b i
def lvP:LI:=tab 256 fun i=>(i:Int)
def lvL:LI:=tab 32 fun i=>q0w (q0s 5 i+2)
def lvF:LI:=tab 256 fun i=>8*(i:Int)+4
theorem pow_b{b:Nat}(hb:1≤b∧b≤8):1≤2^b∧2^b≤256:=by
 have h:(2:Nat)^b≤2^8:=Nat.pow_le_pow_right (by decide) hb.2
 have:=Nat.pow_pos (n:=b) (show 0<2 by decide)
 omega
theorem rg_lvW{b:Nat}(hb:1≤b∧b≤8):Rg 255 (lvW b):=qdn (by decide) fun i _=>q1t hb _
theorem rg_lvP:Rg 255 lvP:=qdn (by decide) fun i hi=>by omega
theorem rg_lvL:Rg 255 lvL:=qdn (by decide) fun i _=>q0y _
theorem rg_lvF:Rg 2047 lvF:=qdn (by decide) fun i hi=>by omega
section
variable {t:LI} (hl:t.length=64) (ht:Rg 2047 t) {c:Nat} (hc:c<4)
include hl ht hc
theorem ziu{b:Nat}(hb:1≤b∧b≤8):q9s 600 t c ((2^b:Nat):Int) b=some ((zbj (lvW b) (colT t c):Int),()):=by
 have hp:=pow_b hb
 have h1:=zkh hl hc ((2^b:Nat):Int) (b:Int) 16 0 600 (by omega) (by omega)
 rw[show tab 0 (fun i=>t.getD (i*4+c) 0)=[]from rfl,show((0:Nat):Int)=0 from rfl]at h1
 have h2:=qyz (m:=2^b) (by omega) (fun i=>q0s b i) (fun k w i=>q23 600 k (b:Int) (colT t c) w ((2^b:Nat):Int) i) (fun w=>some (colT t c,w,())) (fun k i hi=>by
   show q2t 600 (q23 600 k) _ _ _ _ _=_
   unfold q2t qr2
   have h3:(i:Int)<((2^b:Nat):Int):=by omega
   simp only[h3,dT,cT,ql2 (F:=600) (by decide) hb,y5,q26,show i+1≤1099511627776 by omega,yd,q0d (show i<1000000000000 by omega)]) (fun k=>by
   show q2t 600 (q23 600 k) _ _ _ _ _=_
   unfold q2t
   simp only[Int.lt_irrefl,dF,cF])
 have h3:=zfq (l:=colT t c) (L:=lvW b) (zfr ht c) (by rw[z4h];decide) (q4p (rg_lvW hb) (by decide)) (by unfold lvW;rw[q26];omega)
 unfold q9s
 rw[h1]
 simp only[y5]
 rw[h2]
 simp only[y5]
 unfold lvW at h3⊢
 rw[h3]
 rfl
theorem z8w{b:Nat}(hb:1≤b∧b≤8):qi7 600 t c b=some ((zbj (lvW b) (colT t c):Int),()):=by
 have h:=ziu hl ht hc hb
 have e:ishl .i64 1 (b:Int)=((2^b:Nat):Int):=by
  rw[zey (by omega)]
  exact(w9 2 b).symm
 unfold qi7
 simp only[yc,dT,cT,e,h,y5]
theorem znt:qtw 600 t c=some ((zbj lvP (colT t c):Int),()):=by
 have h1:=zis hl hc (256:Int) 16 0 600 (by omega) (by omega)
 rw[show tab 0 (fun i=>t.getD (i*4+c) 0)=[]from rfl,show((0:Nat):Int)=0 from rfl]at h1
 have h2:=qyz (m:=256) (by omega) (fun i=>(i:Int)) (fun k w i=>q1q 600 k (colT t c) w 256 i) (fun w=>some (colT t c,w,())) (fun k i hi=>by
   show q2a 600 (q1q 600 k) _ _ _ _=_
   unfold q2a qnc
   have h3:(i:Int)<256:=by omega
   simp only[h3,dT,cT,y5,q26,show i+1≤1099511627776 by omega,yd,q0d (show i<1000000000000 by omega)]) (fun k=>by
   show q2a 600 (q1q 600 k) _ _ _ _=_
   unfold q2a
   rfl)
 have h3:=zfq (l:=colT t c) (L:=lvP) (zfr ht c) (by rw[z4h];decide) (q4p rg_lvP (by decide)) (by unfold lvP;rw[q26];decide)
 unfold qtw qch
 rw[h1]
 simp only[y5]
 rw[h2]
 simp only[y5]
 unfold lvP at h3⊢
 rw[h3]
 rfl
theorem znu:q7j 600 t c 32=some ((zbj lvL (colT t c):Int),()):=by
 have h1:=zfs hl hc (32:Int) 16 0 600 (by omega) (by omega)
 rw[show tab 0 (fun i=>t.getD (i*4+c) 0)=[]from rfl,show((0:Nat):Int)=0 from rfl]at h1
 have h2:=qyz (m:=32) (by omega) (fun i=>q0w (q0s 5 i+2)) (fun k w i=>q1b 600 k (colT t c) w 32 i) (fun w=>some (colT t c,w,())) (fun k i hi=>by
   show q1x 600 (q1b 600 k) _ _ _ _=_
   unfold q1x qki
   have h3:(i:Int)<32:=by omega
   have wb:=q1t (b:=5) (by decide) (i:Int)
   have wd:=ql2 (F:=600) (by decide) (b:=5) (by decide) (i:Int)
   simp only[yp]at wd
   have e:y0 .i64 (q0s 5 (i:Int)+2)=q0s 5 (i:Int)+2:=w64 (by omega) (by omega)
   simp only[h3,dT,cT,wd,y5,e,qa2,q26,show i+1≤1099511627776 by omega,yd,q0d (show i<1000000000000 by omega)]) (fun k=>by
   show q1x 600 (q1b 600 k) _ _ _ _=_
   unfold q1x
   rfl)
 have h3:=zfq (l:=colT t c) (L:=lvL) (zfr ht c) (by rw[z4h];decide) (q4p rg_lvL (by decide)) (by unfold lvL;rw[q26];decide)
 unfold q7j
 rw[h1]
 simp only[y5]
 rw[h2]
 simp only[y5]
 unfold lvL at h3⊢
 rw[h3]
 rfl
theorem zqo:q8o 600 t c 256=some ((zbj lvF (colT t c):Int),()):=by
 have h1:=zit hl hc (256:Int) 16 0 600 (by omega) (by omega)
 rw[show tab 0 (fun i=>t.getD (i*4+c) 0)=[]from rfl,show((0:Nat):Int)=0 from rfl]at h1
 have h2:=qyz (m:=256) (by omega) (fun i=>8*(i:Int)+4) (fun k w i=>q1r 600 k (colT t c) w 256 i) (fun w=>some (colT t c,w,())) (fun k i hi=>by
   show q2c 600 (q1r 600 k) _ _ _ _=_
   unfold q2c qne
   have h3:(i:Int)<256:=by omega
   have e:=zfk 600 (base:=(i:Int)) (times:=1) (number:=0) (by omega) (by decide) (by decide) true
   have e2:qbw (i:Int) 1 0 true=8*(i:Int)+4:=by
    unfold qbw
    simp only[if_true,show¬(1:Int)=0 by decide,if_false]
    omega
   simp only[h3,dT,cT,y5,e,e2,q26,show i+1≤1099511627776 by omega,yd,q0d (show i<1000000000000 by omega)]) (fun k=>by
   show q2c 600 (q1r 600 k) _ _ _ _=_
   unfold q2c
   rfl)
 have h3:=zfq (l:=colT t c) (L:=lvF) (zfr ht c) (by rw[z4h];decide) rg_lvF (by unfold lvF;rw[q26];decide)
 unfold q8o
 rw[h1]
 simp only[y5]
 rw[h2]
 simp only[y5]
 unfold lvF at h3⊢
 rw[h3]
 rfl
end
theorem zcg(n:Int):qbj 600 n=some (tab 16 fun _=>n,()):=by
 have key:∀T w:LI,w.length=16→q52 600 600 n T w 0=some (T,tab 16 (fun _=>n),()):=by
  intro T w hw
  refine qfo 16 (fun _=>n) (fun k w i=>q52 600 k n T w i) (fun w=>some (T,w,())) ?_ ?_ w hw 600 (by omega)
  ·intro k i w hi hw
   show qav 600 (q52 600 k) n T w i=_
   unfold qav
   have h3:(i:Int)<16:=by omega
   simp only[h3,dT,cT,yc,yd,yb,q0d (show i<1000000000000 by omega)]
  ·intro k w hw
   rfl
 unfold qbj
 rw[key _ _ rfl]
 rfl
def oneT(v:Nat→Int):LI:=tab 64 fun j=>v (j%4)
def q3l(n:Int):LI:=tab 16 fun _=>n
theorem qdo(n:Int){j:Nat}(hj:j<16):(q3l n).getD j 0=n:=q7w hj
theorem qz0(n:Int):(q3l n).length=16:=q26 _ _
theorem hasI64{x:Int}(h: -9223372036854775808≤x∧x≤9223372036854775807):IntKind.i64.has x:=has_iff.2 h
def zki(A:LI):LI:=qgw true false A [0,0,0] [0,0] (q3l 0)
theorem zmd{A:LI}(hA:Rg 31 A):Ok10 true A [0,0,0] [0,0] (q3l 0):=by
 refine⟨fun c hc=> ?_,fun i hi=> ?_,by decide,by decide⟩
 ·have:=hA c
  have:c=0∨c=1∨c=2:=by omega
  rcases this with rfl|rfl|rfl<;>exact⟨hA _,by decide⟩
 ·rw[qdo 0 hi]
  decide
theorem zkj{A:LI}(hl:A.length=3)(hA:Rg 31 A):z8g (zki A)=oneT fun c=>if c=3 then 255 else q0w (q0s 5 (A.getD c 0)+2):=by
 have h:=zpv (f:=false) (zmd hA) hl rfl rfl (qz0 0)
 have e:z8g (zki A)=qb9 true false A [0,0,0] [0,0] (q3l 0):=by
  unfold eP at h
  simp only[ym]at h
  obtain⟨h1,h2,h3,h4,h5,h6,_⟩:=h
  unfold z8g zki
  rw[h5,h6,h3,h4,h1,h2]
 rw[e,qgi (qoc true false A [0,0,0] [0,0] (q3l 0))]
 unfold oneT
 refine q0b fun j hj=> ?_
 rw[←zkd,show((qb9 true false A [0,0,0] [0,0] (q3l 0)).drop (j/4*4)).take 4=zbg (q1h true A [0,0,0]) [0,0] (q3l 0) false (j/4)from qk9 _ (fun _ _=>rfl) (by omega)]
 have hh:=qme false ((j/4:Nat):Int)
 have ha:zf9 [0,0] (q3l 0) false (j/4)=2:=by
  unfold zf9
  rw[qdo 0 (by omega)]
  have:q2n false ((j/4:Nat):Int)=0∨q2n false ((j/4:Nat):Int)=1:=by omega
  rcases this with h0|h0<;>rw[h0]<;>rfl
 have hz:∀x:Int,x+0=x:=Int.add_zero
 unfold zbg
 rw[ha]
 have hc:j%4=0∨j%4=1∨j%4=2∨j%4=3:=by omega
 have hs:q2n false ((j/4:Nat):Int)=0∨q2n false ((j/4:Nat):Int)=1:=by omega
 rcases hs with h0|h0
 ·rcases hc with h4|h4|h4|h4<;>rw[h4,h0]<;>rfl
 ·have b0:n10 true A [0,0,0] 0=A.getD 0 0:=hz _
  have b1:n10 true A [0,0,0] 1=A.getD 1 0:=hz _
  have b2:n10 true A [0,0,0] 2=A.getD 2 0:=hz _
  unfold q1h
  rw[b0,b1,b2]
  rcases hc with h4|h4|h4|h4<;>rw[h4,h0]<;>rfl
theorem liftB_is{A:LI}(hA:Rg 31 A):qb5 600 (true,false,A,[0,0,0],[0,0],q3l 0,())=some (zki A,0,()):=by
 have h0:∀l:LI,Rg 31 l→Is64 l:=fun l hl i=>hasI64 (by have:=hl i;omega)
 have h1:Rg 31 [0,0,0]:=q2j (by decide) (q2j (by decide) (q2j (by decide) (qtf (by decide))))
 have h2:Rg 31 [0,0]:=q2j (by decide) (q2j (by decide) (qtf (by decide)))
 have h3:Rg 31 (q3l 0):=qdn (by decide) fun _ _=>by decide
 have h4:=z8i (F:=600) (by decide) true false (h0 _ hA) (h0 _ h1) (h0 _ h2) (h0 _ h3)
 rw[h4,iP (zmd hA)]
 rfl
theorem zqp{x:Int}(h:0≤x∧x≤255):q0w x=x:=by unfold q0w;omega
theorem znv(x y z:Int)(c:Nat):0≤(qdj x y z).getD c 0∧(qdj x y z).getD c 0≤255:=
 (q2j (q1t (by decide) _) (q2j (q1t (by decide) _) (q2j (q1t (by decide) _) (q2j (by decide) (qtf (by decide)))))) c
theorem znw{o:LI}(ho:∀c,0≤o.getD c 0∧o.getD c 0≤255)(h3:o.getD 3 0=255)(j:Nat):q5q o o o j=o.getD (j%4) 0:=by
 unfold q5q qpv
 split
 ·rename_i h
  rw[h,h3]
 ·rw[Int.sub_self,Int.mul_zero,Int.mul_zero,Int.add_zero,Int.zero_add]
  have:=ho (j%4)
  rw[show(4*o.getD (j%4) 0+2)/4=o.getD (j%4) 0 by omega,zqp this]
theorem zqq{n:LI}(h:ok3 n)(p:Bool):tab 64 (qdq (layV n n n) p)=oneT fun c=>(qdj (n.getD 0 0) (n.getD 1 0) (n.getD 2 0)).getD c 0:=by
 unfold oneT
 refine q0b fun j hj=> ?_
 rw[lay_dec]
 unfold qwv
 obtain⟨h1,h2,h3⟩:=zka (o:=n) (h:=n) (v:=n) ⟨h,h,h⟩
 rw[h1,h2,h3,znw (znv _ _ _) rfl]
theorem layB_is{x y z:Int}(h:ok3 [x,y,z]):qhq 600 [x,y,z] [x,y,z] [x,y,z]=some (layV [x,y,z] [x,y,z] [x,y,z],0,()):=by
 obtain⟨⟨a1,a2⟩,⟨b1,b2⟩,⟨c1,c2⟩⟩:=h
 simp only[yt,yu]at a1 a2 b1 b2 c1 c2
 have r:Rg 127 [x,y,z]:=q2j (by omega) (q2j (by omega) (q2j (by omega) (qtf (by decide))))
 have h64:∀i,I64 (([x,y,z]++([x,y,z]++[x,y,z])).getD i 0):=fun i=>by
  have:=qfr r (qfr r r) i
  unfold I64
  omega
 have hk:ok3 [x,y,z]:=⟨⟨a1,a2⟩,⟨b1,b2⟩,⟨c1,c2⟩⟩
 rw[(lay_is rfl rfl rfl h64).1,iP ⟨hk,hk,hk⟩]
theorem table0:q3y 600 0=some ([-3,-6,-9,-15,2,5,8,14],()):=by kernel_rfl
theorem table13:q3y 600 13=some ([-1,-2,-3,-10,0,1,2,9],()):=by kernel_rfl
theorem qth{base times table n:Int}(h1:0≤base∧base≤255)(h2:0≤times∧times≤15)(h3:0≤table∧table≤15)(h4:0≤n∧n≤7):EacFit base times table (q3l n):=
 ⟨h1,h2,h3,qz0 n,fun i hi=>by rw[qdo n hi];exact h4⟩
theorem zch{base times table n:Int}(h1:0≤base∧base≤255)(h2:0≤times∧times≤15)(h3:0≤table∧table≤15)(h4:0≤n∧n≤7):
  hv (eacJ base times table (q3l n) 19) 0 8=base∧hv (eacJ base times table (q3l n) 19) 8 4=times∧hv (eacJ base times table (q3l n) 19) 12 4=table∧∀i,i<16→(eacW (eacJ base times table (q3l n) 19)).getD i 0=n:=by
 have hf:=qth h1 h2 h3 h4
 refine⟨qte hf (j:=0) (by decide),qte hf (j:=1) (by decide),qte hf (j:=2) (by decide),fun i hi=> ?_⟩
 rw[zfi _ hi]
 have:=qte hf (j:=i+3) (by omega)
 rw[show eacV base times table (q3l n) (i+3)=(q3l n).getD i 0 from rfl,qdo n hi]at this
 exact this
theorem znx{n:Int}(h:0≤n∧n≤255):eacL (eacJ n 0 0 (q3l 0) 19) false=q3l n:=by
 obtain⟨p1,p2,p3,p4⟩:=zch (base:=n) (times:=0) (table:=0) (n:=0) h (by decide) (by decide) (by decide)
 unfold eacL
 rw[p1,p2,p3,table0]
 show tab 16 _=tab 16 _
 refine q0b fun i hi=> ?_
 rw[p4 i hi]
 unfold qbw
 simp only[yn,if_false,Int.mul_zero,Int.add_zero]
 omega
theorem z8x{n:Int}(h:0≤n∧n≤255):eacL (eacJ n 1 13 (q3l 4) 19) true=q3l (8*n+4):=by
 obtain⟨p1,p2,p3,p4⟩:=zch (base:=n) (times:=1) (table:=13) (n:=4) h (by decide) (by decide) (by decide)
 unfold eacL
 rw[p1,p2,p3,table13]
 show tab 16 _=tab 16 _
 refine q0b fun i hi=> ?_
 rw[p4 i hi,show([-1,-2,-3,-10,0,1,2,9]:LI).getD (y6 4) 0=0 from rfl]
 unfold qbw
 rw[iP rfl,iN (by decide),Int.zero_mul,Int.add_zero]
 omega
def zft:LI:=[0,0,0,0,255,255,0,0]
theorem z8y:Bytes zft:=fun x hx=>by
 unfold zft at hx
 simp only[yr,List.not_mem_nil,or_false]at hx
 omega
theorem zfu:qco 600 9 zft=some (tab 64 fun _=>0,0,()):=by kernel_rfl
theorem zkk:tab 64 (qdq zft true)=oneT fun _=>0:=by
 have h:=z8u z8y (k:=9) ⟨by decide,by decide⟩ rfl
 simp only[yp]at h
 rw[zfu]at h
 exact(Prod.mk.inj (Option.some.inj h)).1.symm
def bN(L s:LI)(c:Nat):Int:=(zbj L (colT s c):Int)
theorem z4i{L:LI}(h:0<L.length)(s:LI)(c:Nat):0≤bN L s c∧bN L s c<(L.length:Int):=by
 have:=bestV_lt (L:=L) (l:=colT s c) h
 unfold bN
 omega
theorem zqr(b:Nat):(lvW b).length=2^b:=q26 _ _
theorem zqs:lvP.length=256:=q26 _ _
theorem zqt:lvL.length=32:=q26 _ _
theorem zqu:lvF.length=256:=q26 _ _
theorem bN_W{b:Nat}(hb:1≤b∧b≤8)(s:LI)(c:Nat):0≤bN (lvW b) s c∧bN (lvW b) s c<((2^b:Nat):Int):=by
 have:=z4i (L:=lvW b) (by rw[zqr];have:=pow_b hb;omega) s c
 rwa [zqr]at this
theorem bN_P(s:LI)(c:Nat):0≤bN lvP s c∧bN lvP s c≤255:=by
 have:=z4i (L:=lvP) (by rw[zqs];decide) s c
 rw[zqs]at this
 omega
theorem bN_L(s:LI)(c:Nat):0≤bN lvL s c∧bN lvL s c≤31:=by
 have:=z4i (L:=lvL) (by rw[zqt];decide) s c
 rw[zqt]at this
 omega
theorem bN_F(s:LI)(c:Nat):0≤bN lvF s c∧bN lvF s c≤255:=by
 have:=z4i (L:=lvF) (by rw[zqu];decide) s c
 rw[zqu]at this
 omega
section
variable {t:LI} (hl:t.length=64) (ht:Rg 2047 t)
include hl ht
theorem z8z{c:Nat}(hc:c<4):qhs 600 t c=some (eacJ (bN lvF t c) 1 13 (q3l 4) 19,()):=by
 have h0:=zqo hl ht hc
 have hs:=zcg 4
 have hj:=zkb (F:=600) (by decide) (qth (base:=bN lvF t c) (times:=1) (table:=13) (n:=4) (by have:=bN_F t c;omega) (by decide) (by decide) (by decide))
 unfold q3l bN at hj
 unfold qhs
 simp only[h0,y5,hs,hj]
 rfl
def plN(s:LI):LI:=[bN (lvW 6) s 0,bN (lvW 7) s 1,bN (lvW 6) s 2]
omit hl ht in
theorem plN_ok(s:LI):ok3 (plN s):=by
 have b0:=bN_W (b:=6) (by decide) s 0
 have b1:=bN_W (b:=7) (by decide) s 1
 have b2:=bN_W (b:=6) (by decide) s 2
 exact⟨⟨b0.1,b0.2⟩,⟨b1.1,b1.2⟩,⟨b2.1,b2.2⟩⟩
def plB(s:LI):LI:=layV (plN s) (plN s) (plN s)
theorem qx0:qe9 600 t=some (plB t,()):=by
 have h0:=z8w hl ht (c:=0) (by decide) (b:=6) (by decide)
 have h1:=z8w hl ht (c:=1) (by decide) (b:=7) (by decide)
 have h2:=z8w hl ht (c:=2) (by decide) (b:=6) (by decide)
 simp only[yp,yq,Int.natCast_one]at h0 h1 h2
 have hj:=layB_is (plN_ok t)
 unfold bN at hj
 unfold qe9
 simp only[h0,h1,h2,y5,hj]
 rfl
theorem ziv(A T S U:LI)(hA:A.length=3):q6e 600 600 t A T S U 0=some (tab 3 fun c=>bN lvL t c,T,S,U,()):=by
 refine qfo 3 (fun c=>bN lvL t c) (fun k w i=>q6e 600 k t w T S U i) (fun w=>some (w,T,S,U,())) ?_ ?_ A hA 600 (by omega)
 ·intro k i w hi hw
  show qci 600 (q6e 600 k) _ _ _ _ _ _=_
  unfold qci
  have h3:(i:Int)<3:=by omega
  simp only[h3,dT,cT,znu hl ht (show i<4 by omega),y5,yc,yd,yb,q0d (show i<1000000000000 by omega)]
  rfl
 ·intro k w hw
  rfl
def liN(s:LI):LI:=tab 3 fun c=>bN lvL s c
theorem zkl:qnd 600 t=some (zki (liN t),()):=by
 have hj:=liftB_is (A:=liN t) (qdn (by decide) fun c _=>bN_L t c)
 unfold qnd
 rw[ziv hl ht _ _ _ _ rfl]
 simp only[y5]
 rw[show q2k=q3l 0 from rfl,show(tab 3 fun c=>bN lvL t c)=liN t from rfl,hj]
 simp only[y5]
end
def zqv(k:Nat)(s a b:LI):LI:=if q9h k b s<q9h k a s then b else a
theorem near_is{k:Nat}(h:Fmt k){s a b:LI}(hl:s.length=64)(hs:Rg 255 s)(ha:Bytes a)(hb:Bytes b)(la:a.length=q3k k)(lb:b.length=q3k k):qnj 600 k s a b=some (zqv k s a b,()):=by
 unfold qnj zqv
 rw[qu8 ha h la hl hs,qu8 hb h lb hl hs]
 simp only[y5]
 by_cases hlt:q9h k b s<q9h k a s
 ·simp only[hlt,dT,cT,if_true]
 ·simp only[hlt,dF,cF,if_false]
def qjg(k:Nat)(s:LI):LI:=match k with
 |7=>zki (liN s)
 |8=>plB s
 |9=>zqv 9 s (plB s) zft
 |10=>eacJ (bN lvP s 3) 0 0 (q3l 0) 19++plB s
 |11=>eacJ (bN lvF s 0) 1 13 (q3l 4) 19
 |_=>eacJ (bN lvF s 0) 1 13 (q3l 4) 19++eacJ (bN lvF s 1) 1 13 (q3l 4) 19
def Okb(n:Nat)(b:LI):Prop:=Bytes b∧b.length=n
theorem zkm{n m:Nat}{a b:LI}(ha:Okb n a)(hb:Okb m b):Okb (n+m) (a++b):=
 ⟨fun x hx=>(yk.1 hx).elim (ha.1 x) (hb.1 x),by rw[yo,ha.2,hb.2]⟩
theorem okb_near{n k:Nat}{s a b:LI}(ha:Okb n a)(hb:Okb n b):Okb n (zqv k s a b):=by
 unfold zqv
 split
 ·exact hb
 ·exact ha
theorem zqw(A:LI):Okb 8 (zki A):=⟨z1n _ _ _ _ _ _,zca _ _ _ _ _ _⟩
theorem z90(s:LI):Okb 8 (plB s):=zfe _ _ _
theorem qz1(a b c:Int)(w:LI):Okb 8 (eacJ a b c w 19):=⟨zns _ _ _ _,qhi _ _ _ _⟩
theorem bareB_ok:Okb 8 zft:=⟨z8y,rfl⟩
theorem zme(s:LI){k:Nat}(h:Fmt k):Okb (q3k k) (qjg k s):=
 qj6 (p:=fun k=>Okb (q3k k) (qjg k s)) (zqw _) (z90 _)
  (okb_near (z90 _) bareB_ok) (zkm (qz1 _ _ _ _) (z90 _)) (qz1 _ _ _ _) (zkm (qz1 _ _ _ _) (qz1 _ _ _ _)) h
section
variable {t:LI} (hl:t.length=64)
include hl
theorem blk_7(ht:Rg 255 t):q38 600 7 t=some (qjg 7 t,()):=by
 have h:=zkl hl (q4p ht (by decide))
 unfold q38
 simp only[Int.reduceBEq,cT,cF,h,y5]
 rfl
theorem blk_8(ht:Rg 255 t):q38 600 8 t=some (qjg 8 t,()):=by
 have h:=qx0 hl (q4p ht (by decide))
 unfold q38
 simp only[Int.reduceBEq,cT,cF,h,y5]
 rfl
theorem blk_9(ht:Rg 255 t):q38 600 9 t=some (qjg 9 t,()):=by
 have h:=qx0 hl (q4p ht (by decide))
 have h3:=near_is (k:=9) ⟨by decide,by decide⟩ hl ht (z90 t).1 bareB_ok.1 (z90 t).2 bareB_ok.2
 simp only[yp]at h3
 unfold q38
 rw[show qll=zft from rfl]
 simp only[Int.reduceBEq,cT,cF,h,h3,y5]
 rfl
theorem blk_10(ht:Rg 255 t):q38 600 10 t=some (qjg 10 t,()):=by
 have h:=qx0 hl (q4p ht (by decide))
 have h1:=znt hl (q4p ht (by decide)) (c:=3) (by decide)
 have h2:=zkb (F:=600) (by decide) (qth (base:=bN lvP t 3) (times:=0) (table:=0) (n:=0) (bN_P t 3) (by decide) (by decide) (by decide))
 simp only[yp]at h1
 unfold q3l bN at h2
 unfold q38
 simp only[Int.reduceBEq,cT,cF,h1,zcg,h2,h,y5,(z90 _).2,qhi,show(8+8≤1099511627776)=True by simp,dT,yd]
 rfl
theorem blk_11(ht:Rg 2047 t):q38 600 11 t=some (qjg 11 t,()):=by
 have h1:=z8z hl ht (c:=0) (by decide)
 simp only[yq]at h1
 unfold q38
 simp only[Int.reduceBEq,cT,cF,h1,y5]
 rfl
theorem blk_12(ht:Rg 2047 t):q38 600 12 t=some (qjg 12 t,()):=by
 have h1:=z8z hl ht (c:=0) (by decide)
 have h2:=z8z hl ht (c:=1) (by decide)
 simp only[yq,Int.natCast_one]at h1 h2
 unfold q38
 simp only[Int.reduceBEq,cT,cF,h1,h2,y5,qhi,show(8+8≤1099511627776)=True by simp,dT,yd]
 rfl
theorem blk_is{k:Nat}(h:Fmt k):Rg (z1q k) t→q38 600 k t=some (qjg k t,()):=
 qj6 (p:=fun k=>Rg (z1q k) t→q38 600 (k:Int) t=some (qjg k t,())) (fun h=>blk_7 hl h) (fun h=>blk_8 hl h) (fun h=>blk_9 hl h) (fun h=>blk_10 hl h) (fun h=>blk_11 hl h) (fun h=>blk_12 hl h) h
end
theorem sqN(x:Int):0≤x*x:=(qf3 (m:=(x.natAbs:Int)) (by omega)).1
theorem z0p{m:Int}(hm:0≤m){v:Nat→Int}(h:∀c,c<4→0≤v c∧v c≤m):Rg m (oneT v):=qdn hm fun j _=>h _ (by omega)
theorem z1t{k:Nat}(h:Fmt k){b s:LI}(hb:Bytes b)(hs:Rg 255 s):0≤q9h k b s:=
 zkg (q4p (z1r hs) (qmj k)) (q4p (z4g hb h) (qmj k))
theorem zny{k:Nat}(hk:Fmt k){t:LI}(hl:t.length=64)(ht:Rg 255 t)(hb:qlj 600 t=some (true,())):qtx 600 k t=some (qjg k (scT k t),0,()):=by
 unfold qtx
 rw[zkf 600 hk,hb]
 simp only[y5,bne_self_eq_false,cF,Bool.not_true,zfo hk hl ht,blk_is (zfn hl) hk (z1r ht)]
theorem lo_app{a b:LI}(la:a.length=8):lo13 (a++b)=a:=by
 unfold lo13
 rw[←la,List.take_left]
theorem hi_app{a b:LI}(la:a.length=8)(lb:b.length=8):hi13 (a++b)=b:=by
 unfold hi13
 rw[yo,la,lb,show 8+8-8=8 from rfl]
 conv=>lhs;rw[←la]
 rw[List.drop_left,List.take_of_length_le (by omega)]
theorem qoe(v:Nat→Int){j:Nat}(hj:j<64):(oneT v).getD j 0=v (j%4):=q7w hj
theorem zmf(c:Nat)(n:Int)(v:Nat→Int):wT c (q3l n) (oneT v)=oneT fun q=>if q=c then n else v q:=by
 unfold wT
 show tab 64 _=tab 64 _
 refine q0b fun j hj=> ?_
 rw[qdo n (show j/4<16 by omega),qoe v hj]
theorem ziw(a:Int):qmh a=oneT fun q=>if q=3 then a else 0:=rfl
def plC(s:LI)(c:Nat):Int:=(qdj (bN (lvW 6) s 0) (bN (lvW 7) s 1) (bN (lvW 6) s 2)).getD c 0
def liC(s:LI)(c:Nat):Int:=if c=3 then 255 else q0w (q0s 5 ((liN s).getD c 0)+2)
def b9(s:LI):Prop:=q9h 9 zft s<q9h 9 (plB s) s
instance (s:LI):Decidable (b9 s):=by unfold b9;exact inferInstance
def col14(k:Nat)(s:LI):Nat→Int:=match k with
 |7=>liC s
 |8=>plC s
 |9=>if b9 s then fun _=>0 else plC s
 |10=>fun q=>if q=3 then bN lvP s 3 else plC s q
 |11=>fun q=>if q=0 then 8*bN lvF s 0+4 else if q=3 then 2047 else 0
 |_=>fun q=>if q=1 then 8*bN lvF s 1+4 else if q=0 then 8*bN lvF s 0+4 else if q=3 then 2047 else 0
theorem zqx(s:LI)(p:Bool):tab 64 (qdq (plB s) p)=oneT (plC s):=zqq (plN_ok s) p
theorem dec_blk(s:LI){k:Nat}(h:Fmt k):qtg k (qjg k s)=oneT (col14 k s):=by
 refine qj6 (p:=fun k=>qtg k (qjg k s)=oneT (col14 k s)) ?_ ?_ ?_ ?_ ?_ ?_ h
 ·exact zkj (q26 _ _) (qdn (by decide) fun c _=>bN_L s c)
 ·exact zqx s false
 ·show tab 64 (qdq (if b9 s then zft else plB s) true)=oneT (if b9 s then fun _=>0 else plC s)
  split
  ·exact zkk
  ·exact zqx s true
 ·show wT 3 (eacL (lo13 (eacJ (bN lvP s 3) 0 0 (q3l 0) 19++plB s)) false) (tab 64 (qdq (hi13 (eacJ (bN lvP s 3) 0 0 (q3l 0) 19++plB s)) false))=_
  rw[lo_app (qhi _ _ _ _),hi_app (qhi _ _ _ _) (z90 s).2,znx (bN_P s 3),zqx,zmf]
  rfl
 ·show wT 0 (eacL (lo13 (eacJ (bN lvF s 0) 1 13 (q3l 4) 19)) true) (qmh 2047)=_
  rw[lo13_8 (qhi _ _ _ _),z8x (bN_F s 0),ziw,zmf]
  rfl
 ·show wT 1 (eacL (hi13 (eacJ (bN lvF s 0) 1 13 (q3l 4) 19++eacJ (bN lvF s 1) 1 13 (q3l 4) 19)) true) (wT 0 (eacL (lo13 (eacJ (bN lvF s 0) 1 13 (q3l 4) 19++eacJ (bN lvF s 1) 1 13 (q3l 4) 19)) true) (qmh 2047))=_
  rw[lo_app (qhi _ _ _ _),hi_app (qhi _ _ _ _) (qhi _ _ _ _),z8x (bN_F s 0),z8x (bN_F s 1),ziw,zmf,zmf]
  rfl
theorem qmk(f:Nat→Int)(n:Nat):sumN f (n+1)=sumN f n+f n:=rfl
theorem zix(f:Nat→Int):∀n,sumN f (n*4)=sumN (fun i=>f (i*4+0)+f (i*4+1)+f (i*4+2)+f (i*4+3)) n
 |0=>rfl
 |n+1=>by
  rw[show(n+1)*4=n*4+1+1+1+1 by omega,qmk,qmk,qmk,qmk,qmk,zix f n,show n*4+1+1=n*4+2 by omega,show n*4+2+1=n*4+3 by omega]
  simp only[Nat.add_zero]
  omega
theorem zkn:((yz 16).all fun i=>(y0 .i64 ((16:Int)+(y0 .i64 ((3:Int)*(y0 .i64 ((y0 .i64 ((4:Int)*(yv (i:Int) (4:Int))))+(y0 .i64 (yw (i:Int) (4:Int))))))))==(qqj i:Int)))=true:=by kernel_rfl
theorem at12_is{i:Nat}(h:i<16):y0 .i64 ((16:Int)+(y0 .i64 ((3:Int)*(y0 .i64 ((y0 .i64 ((4:Int)*(yv (i:Int) (4:Int))))+(y0 .i64 (yw (i:Int) (4:Int))))))))=(qqj i:Int):=by
 have:=List.all_eq_true.1 zkn i (by simpa using h)
 simpa using this
theorem zko{b:LI}(hb:Bytes b)(hl:b.length=8):qng 600 b=some (hv b 0 8,hv b 8 4,hv b 12 4,eacW b,0,()):=by
 have loop:∀T:LI,q6f 600 600 b T q2k 0=some (b,T,eacW b,()):=by
  intro T
  refine qfo 16 (fun i=>hv b (qqj i) 3) (fun k w i=>q6f 600 k b T w i) (fun w=>some (b,T,w,())) ?_ ?_ _ rfl 600 (by omega)
  ·intro k i w hi hw
   show qcl 600 (q6f 600 k) b T w i=_
   unfold qcl
   have:=zm9 hi
   have e:=qfp (F:=600) (by decide) hb hl (a:=qqj i) (n:=3) (by decide) (by omega)
   simp only[yp]at e
   have h1:(i:Int)<16:=by omega
   simp only[h1,dT,cT,at12_is hi,e,y5,yc,yd,q0d (show i<1000000000000 by omega),yb]
  ·intro k w hw
   rfl
 unfold qng
 have e1:=qfp (F:=600) (by decide) hb hl (a:=0) (n:=8) (by decide) (by decide)
 have e2:=qfp (F:=600) (by decide) hb hl (a:=8) (n:=4) (by decide) (by decide)
 have e3:=qfp (F:=600) (by decide) hb hl (a:=12) (n:=4) (by decide) (by decide)
 simp only[yp,yq]at e1 e2 e3
 have e:((b.length:Int) !=8)=false:=by rw[hl];rfl
 simp only[e,cF,loop,y5,e1,e2,e3]
theorem z91:((yz 16).all fun n=>qnh 600 (n:Int)==q3y 600 (n:Int))=true:=by kernel_rfl
theorem zkp{n:Int}(h:0≤n∧n≤15):qnh 600 n=q3y 600 n:=by
 obtain⟨m,rfl⟩:=yh h.1
 have:=List.all_eq_true.1 z91 m (by simp;omega)
 simpa using this
theorem zkq{base times number:Int}(hb:0≤base∧base≤255)(ht:0≤times∧times≤15)(hn: -15≤number∧number≤15)(wide:Bool):qni 600 base times number wide=some (qbw base times number wide,()):=by
 have hm:=mulB (c:=15) hn ht (by decide)
 have e8:number*(8*times)=8*(number*times):=by rw[←Int.mul_assoc,Int.mul_comm number 8,Int.mul_assoc]
 have cl:∀x m:Int,0≤m→q6a 600 x m=some (max 0 (min x m),()):=fun x m hm=>by
  unfold q6a
  by_cases h1:m<x
  ·have h2:¬m<0:=by omega
   simp only[h1,h2,dT,dF,cT,cF]
   rw[show max 0 (min x m)=m by omega]
  ·by_cases h2:x<0
   ·simp only[h1,h2,dT,dF,cT,cF]
    rw[show max 0 (min x m)=0 by omega]
   ·simp only[h1,h2,dF,cF]
    rw[show max 0 (min x m)=x by omega]
 unfold qni qbw
 rw[cl _ 255 (by decide),cl _ 2047 (by decide),cl _ 2047 (by decide),w64 (x:=number*times) (by omega) (by omega),w64 (x:=base+number*times) (by omega) (by omega),w64 (x:=8*base) (by omega) (by omega),w64 (x:=8*base+4) (by omega) (by omega),Int.mul_one,
  w64 (x:=number) (by omega) (by omega),w64 (x:=8*base+4+number) (by omega) (by omega),w64 (x:=8*times) (by omega) (by omega),e8,w64 (x:=8*(number*times)) (by omega) (by omega),w64 (x:=8*base+4+8*(number*times)) (by omega) (by omega)]
 cases wide
 ·rfl
 ·by_cases h0:times=0
  ·subst h0
   rfl
  ·simp only[Bool.not_true,cF,beqF h0,y5,if_true,h0,if_false]
   rw[show 8*base+4+8*(number*times)=8*(base+number*times)+4 by omega]
theorem qfu{b:LI}(hb:Bytes b)(hl:b.length=8)(wide:Bool):q67 600 b wide=some (eacL b wide,0,()):=by
 obtain⟨f1,f2,f3,f4,f5⟩:=zmb (b:=b)
 obtain⟨tbl,h1,_,h3⟩:=zfj 600 (n:=hv b 12 4) f3
 have h1' :=zkp f3
 rw[h1]at h1'
 have loop:∀T:LI,q54 600 600 wide T (hv b 0 8) (hv b 8 4) (hv b 12 4) (eacW b) 0=some (T,eacD (hv b 0 8) (hv b 8 4) tbl (eacW b) wide,()):=by
  intro T
  refine zc7 16 (fun i=>qbw (hv b 0 8) (hv b 8 4) (tbl.getD ((eacW b).getD i 0).toNat 0) wide) (eacW b) (fun k w i=>q54 600 k wide T (hv b 0 8) (hv b 8 4) (hv b 12 4) w i) (fun w=>some (T,w,())) ?_ ?_ f4 600 (by omega)
  ·intro k i w hi hw hs
   show qaw 600 (q54 600 k) wide T (hv b 0 8) (hv b 8 4) (hv b 12 4) w i=_
   unfold qaw
   have h4:(i:Int)<16:=by omega
   have h2:=f5 i hi
   have h5:(eacW b).getD i 0<8:=by omega
   have e:=hs i (w8 _)
   simp only[h4,dT,cT,yc,yd,yb,h1',y5,e,h2.1,h5,zkq f1 f2 (h3 _),q0d (show i<1000000000000 by omega)]
  ·intro k w hw
   rfl
 unfold q67
 rw[zko hb hl]
 simp only[y5,bne_self_eq_false,cF,loop]
 unfold eacL
 rw[h1]
theorem ziy{c:Nat}(hc:c<4)(l t T:LI):∀(d i k:Nat),i+d=16→d<k→q9t 600 k c (tab 64 (upW c i l t)) l T (i:Int)=some (tab 64 (upW c 16 l t),T,()):=by
 intro d
 induction d with
 |zero=>
  intro i k h1 h2
  obtain⟨k,rfl⟩:∃k',k=k' +1:=⟨k-1,by omega⟩
  obtain rfl:i=16:=by omega
  rfl
 |succ d ih=>
  intro i k h1 h2
  obtain⟨k,rfl⟩:∃k',k=k' +1:=⟨k-1,by omega⟩
  show qer 600 (q9t 600 k) c (tab 64 (upW c i l t)) l T i=_
  unfold qer
  have h3:(i:Int)<16:=by omega
  have h4:(c:Int)<4:=by omega
  simp only[h3,h4,dT,cT,yc,yd,yb,zqj hc (show i<16 by omega),q0d (show i<1000000000000 by omega)]
  exact ih (i+1) k (by omega) (by omega)
theorem zfv{c:Nat}(hc:c<4){l t:LI}(ht:t.length=64):q1l 600 t l c=some (wT c l t,()):=by
 have h:=ziy hc l t q9q 16 0 600 (by omega) (by omega)
 have e0:tab 64 (upW c 0 l t)=t:=by
  conv=>rhs;rw[qgi ht]
  exact q0b fun j hj=>by unfold upW;rw[iN (by omega)]
 have e1:tab 64 (upW c 16 l t)=wT c l t:=q0b fun j hj=>by
  unfold upW
  by_cases h2:j%4=c
  ·rw[iP h2,iP (by omega)]
  ·rw[iN h2,iN (by omega)]
 rw[e0,e1]at h
 unfold q1l
 rw[show((0:Nat):Int)=0 from rfl]at h
 rw[h]
 rfl
theorem rblank_is:q53 600 255=some (qmh 255,())∧q53 600 2047=some (qmh 2047,()):=by constructor<;>kernel_rfl
theorem ziz{b:LI}(hb:Bytes b){k:Nat}(h:Fmt k)(hl:b.length=q3k k):qjq 600 (k:Int) b=some (qtg k b,0,()):=by
 have hlo:=qmi hb
 have hhi:=qu5 hb
 have hg:=z0n k
 have l1:=z4f (b:=b) (by omega)
 have l2:=zfm (b:=b) (by omega)
 have e8:y0 .i64 ((b.length:Int)-8)=((b.length-8:Nat):Int):=by rw[w64 (by omega) (by omega)];omega
 have r7:=z88 (F:=600) (by decide) hlo l1
 have r7' :=z88 (F:=600) (by decide) hhi l2
 have c1:((b.length:Int) !=(q3k k:Int))=false:=by rw[hl];simp
 have c2:8≤b.length:=by omega
 have c3:b.length-8≤b.length:=by omega
 have ht:psub b.length (b.length-8)=8:=by rw[zje];omega
 have p3:∀{l t:LI},t.length=64→q1l 600 t l 3=some (wT 3 l t,()):=fun ht=>zfv (c:=3) (by decide) ht
 have p0:∀{l t:LI},t.length=64→q1l 600 t l 0=some (wT 0 l t,()):=fun ht=>zfv (c:=0) (by decide) ht
 have p1:∀{l t:LI},t.length=64→q1l 600 t l 1=some (wT 1 l t,()):=fun ht=>zfv (c:=1) (by decide) ht
 unfold qjq
 rw[(zqn 600 _).1,zkf 600 h]
 simp only[y5,bne_self_eq_false,cF,c1,c2,c3,dT,cT,e8,yc,yb,yd,ht]
 rw[show y8 8 b=lo13 b from rfl,show y8 8 (y9 (b.length-8) b)=hi13 b from rfl,r7,r7']
 simp only[y5]
 refine qj6 (p:=fun k=>b.length=q3k k→(cond ((k:Int)==(1:Int))
       none
      (cond ((k:Int)==(2:Int))
        none
       (cond ((k:Int)==(3:Int))
         none
        (cond ((k:Int)==(4:Int))
         ((q53 600 (255:Int)).bind fun r8437=>
         (q1l 600 r8437.1 (zpr (lo13 b)) (0:Int)).bind fun r8438=>
         some (r8438.1,(0:Int),()))
         (cond ((k:Int)==(5:Int))
          ((q53 600 (255:Int)).bind fun r8440=>
          (q1l 600 r8440.1 (zpr (lo13 b)) (0:Int)).bind fun r8441=>
          (q1l 600 r8441.1 (zpr (hi13 b)) (1:Int)).bind fun r8442=>
          some (r8442.1,(0:Int),()))
          (cond ((k:Int)==(6:Int))
            none
           (cond ((k:Int)==(7:Int))
            ((qf8 600 b).bind fun r12480=>
            some (r12480.1,r12480.2.1,()))
            (cond ((k:Int)==(8:Int))
             ((q64 600 b false).bind fun r13133=>
             some (r13133.1,r13133.2.1,()))
             (cond ((k:Int)==(9:Int))
              ((q64 600 b true).bind fun r13135=>
              some (r13135.1,r13135.2.1,()))
              (cond ((k:Int)==(10:Int))
               ((q64 600 (hi13 b) false).bind fun r13137=>
               (q67 600 (lo13 b) false).bind fun r13248=>
               (q1l 600 r13137.1 r13248.1 (3:Int)).bind fun r13249=>
               some (r13249.1,(0:Int),()))
               ((q67 600 (lo13 b) true).bind fun r13250=>
               (q67 600 (hi13 b) true).bind fun r13251=>
               cond ((k:Int)==(11:Int))
                ((q53 600 (2047:Int)).bind fun r13253=>
                (q1l 600 r13253.1 r13250.1 (0:Int)).bind fun r13254=>
                some (r13254.1,(0:Int),()))
                ((q53 600 (2047:Int)).bind fun r13255=>
                (q1l 600 r13255.1 r13250.1 (0:Int)).bind fun r13256=>
                (q1l 600 r13256.1 r13251.1 (1:Int)).bind fun r13257=>
                some (r13257.1,(0:Int),())))))))))))))=some (qtg k b,0,())) ?_ ?_ ?_ ?_ ?_ ?_ h hl
 ·intro hl
  simp only[yp,Int.reduceBEq,cT,cF,(z8h (F:=600) (by decide) hb hl).2,y5]
  rfl
 ·intro hl
  simp only[yp,Int.reduceBEq,cT,cF,qtc hb hl false,y5]
  rfl
 ·intro hl
  simp only[yp,Int.reduceBEq,cT,cF,qtc hb hl true,y5]
  rfl
 ·intro hl
  simp only[yp,Int.reduceBEq,cT,cF,qtc hhi l2 false,qfu hlo l1 false,p3 (q26 64 _),y5]
  rfl
 ·intro hl
  simp only[yp,Int.reduceBEq,cT,cF,qfu hlo l1 true,qfu hhi l2 true,rblank_is.2,p0 (qu4 2047),y5]
  rfl
 ·intro hl
  simp only[yp,Int.reduceBEq,cT,cF,qfu hlo l1 true,qfu hhi l2 true,rblank_is.2,p0 (qu4 2047),p1 (wT_len _ _ _),y5]
  rfl
theorem zfw{t:LI}(ht:Rg 255 t)(T:LI)(y z:Int){i:Nat}(hi:i<16):∀(d c k:Nat),c+d=4→d<k→
  q8a 600 k (tab 64 (upS (i*4+c) t)) T y z true (i:Int) (c:Int) true=some (tab 64 (upS (i*4+4) t),T,y,z,true,(i:Int),true,()):=by
 intro d
 induction d with
 |zero=>
  intro c k h1 h2
  obtain⟨k,rfl⟩:∃k',k=k' +1:=⟨k-1,by omega⟩
  obtain rfl:c=4:=by omega
  rfl
 |succ d ih=>
  intro c k h1 h2
  obtain⟨k,rfl⟩:∃k',k=k' +1:=⟨k-1,by omega⟩
  show qcj 600 (q8a 600 k) (tab 64 (upS (i*4+c) t)) T y z true i c true=_
  unfold qcj
  have h3:(i:Int)<16:=by omega
  have h4:(c:Int)<4:=by omega
  have hv:=ht (i*4+c)
  have g:(tab 64 (upS (i*4+c) t)).getD (i*4+c) 0=t.getD (i*4+c) 0:=by
   rw[q7w (by omega)]
   unfold upS
   rw[iN (by omega)]
  have e:y0 .i64 (y0 .i64 (8*t.getD (i*4+c) 0)+y0 .i64 (yw (t.getD (i*4+c) 0) 32))=scV (t.getD (i*4+c) 0):=by
   rw[q25 hv.1,w64 (x:=8*t.getD (i*4+c) 0) (by omega) (by omega),w64 (x:=t.getD (i*4+c) 0/32) (by omega) (by omega),w64 (by omega) (by omega)]
   rfl
  simp only[h3,h4,dT,cT,yc,yd,yb,g,e,zql (t:=t) (show i*4+c<64 by omega),q0d (show c<1000000000000 by omega)]
  exact ih (c+1) k (by omega) (by omega)
theorem zfx{t:LI}(ht:Rg 255 t)(T:LI)(y z:Int):∀(d i k:Nat),i+d=16→d<k→q8b 600 k (tab 64 (upS (i*4) t)) T y z true (i:Int)=some (tab 64 (upS 64 t),T,()):=by
 intro d
 induction d with
 |zero=>
  intro i k h1 h2
  obtain⟨k,rfl⟩:∃k',k=k' +1:=⟨k-1,by omega⟩
  obtain rfl:i=16:=by omega
  rfl
 |succ d ih=>
  intro i k h1 h2
  obtain⟨k,rfl⟩:∃k',k=k' +1:=⟨k-1,by omega⟩
  show qck 600 (q8b 600 k) (tab 64 (upS (i*4) t)) T y z true i=_
  unfold qck
  have h3:(i:Int)<16:=by omega
  have h:=zfw ht T y z (i:=i) (by omega) 4 0 600 (by omega) (by omega)
  simp only[Nat.add_zero,yq]at h
  simp only[h3,dT,cT,h,y5,q0d (show i<1000000000000 by omega)]
  rw[show i*4+4=(i+1)*4 by omega]
  exact ih (i+1) k (by omega) (by omega)
theorem zqy{k:Nat}(h:Fmt k){t:LI}(hl:t.length=64)(ht:Rg 255 t):qnf 600 (k:Int) t=some (scT k t,()):=by
 unfold qnf scT
 rw[(zqn 600 _).1,zkf 600 h]
 simp only[y5]
 cases qyw k
 ·rfl
 ·have h:=zfx ht q9q (q3k k:Int) (qkc k) 16 0 600 (by omega) (by omega)
  have e0:tab 64 (upS (0*4) t)=t:=by
   conv=>rhs;rw[qgi hl]
   exact q0b fun j hj=>by unfold upS;rw[iN (by omega)]
  have e1:tab 64 (upS 64 t)=tab 64 fun j=>scV (t.getD j 0):=q0b fun j hj=>by unfold upS;rw[iP hj]
  rw[e0,e1,show((0:Nat):Int)=0 from rfl]at h
  simp only[h,y5,if_true]
theorem zfy{mask:Int}(hm:0≤mask∧mask≤15){s u:LI}(hs:Rg 2047 s)(hu:Rg 2047 u){i:Nat}(hi:i<16):∀(d c k:Nat),c+d=4→d<k→
  q8c 600 k mask s u (sumN (errT mask s u) (i*4+c)) (i:Int) (c:Int)=some (mask,s,u,sumN (errT mask s u) (i*4+4),(i:Int),()):=by
 intro d
 induction d with
 |zero=>
  intro c k h1 h2
  obtain⟨k,rfl⟩:∃k',k=k' +1:=⟨k-1,by omega⟩
  obtain rfl:c=4:=by omega
  rfl
 |succ d ih=>
  intro c k h1 h2
  obtain⟨k,rfl⟩:∃k',k=k' +1:=⟨k-1,by omega⟩
  show qcm 600 (q8c 600 k) mask s u (sumN (errT mask s u) (i*4+c)) i c=_
  unfold qcm
  have h3:(i:Int)<16:=by omega
  have h4:(c:Int)<4:=by omega
  have b1:=hs (i*4+c)
  have b2:=hu (i*4+c)
  have b3:=qa4 (n:=i*4+c) (f:=errT mask s u) fun j _=>qu7 hs hu j
  have b5:(2047*2047:Int)*((i*4+c:Nat):Int)≤2047*2047*64:=Int.mul_le_mul_of_nonneg_left (by omega) (by decide)
  have hp:(0:Int)<2^c:=qdh c
  have hp0:((2:Int)^c==0)=false:=beqF (by omega)
  have m16:qi2 600 mask 16=some (mask,()):=by
   rw[zez 600 (by decide) (by omega),Int.emod_eq_of_lt (by omega) (by omega)]
  have nx:=ih (c+1) k (by omega) (by omega)
  rw[show i*4+(c+1)=(i*4+c)+1 by omega]at nx
  rw[show sumN (errT mask s u) (i*4+c+1)=sumN (errT mask s u) (i*4+c)+errT mask s u (i*4+c)from rfl]at nx
  simp only[h3,h4,dT,cT,yc,yd,yb,m16,zi6 (F:=600) (by decide) (show c≤8 by omega),y5,hp0,Bool.not_false,mbit_is hm (show c<4 by omega),q0d (show c<1000000000000 by omega)]
  cases hb:bitM mask c with
  |true=>
   have e:errT mask s u (i*4+c)=(s.getD (i*4+c) 0-u.getD (i*4+c) 0)*(s.getD (i*4+c) 0-u.getD (i*4+c) 0):=by
    unfold errT
    rw[iP (by rw[show(i*4+c)%4=c by omega];exact hb)]
   have b4:=qf3 (x:=s.getD (i*4+c) 0-u.getD (i*4+c) 0) (m:=2047) (by omega)
   have sq:qxl 600 (y0 .i64 (s.getD (i*4+c) 0-u.getD (i*4+c) 0))=some ((s.getD (i*4+c) 0-u.getD (i*4+c) 0)*(s.getD (i*4+c) 0-u.getD (i*4+c) 0),()):=by
    unfold qxl
    rw[w64 (x:=s.getD (i*4+c) 0-u.getD (i*4+c) 0) (by omega) (by omega),w64 (by omega) (by omega)]
   rw[e]at nx
   simp only[cT,sq,y5]
   rw[w64 (by omega) (by omega)]
   exact nx
  |false=>
   have e:errT mask s u (i*4+c)=0:=by
    unfold errT
    rw[iN (by rw[show(i*4+c)%4=c by omega,hb];simp)]
   rw[e,Int.add_zero]at nx
   simp only[cF]
   exact nx
theorem zfz{mask:Int}(hm:0≤mask∧mask≤15){s u:LI}(hs:Rg 2047 s)(hu:Rg 2047 u):∀(d i k:Nat),i+d=16→d<k→q8d 600 k mask s u (sumN (errT mask s u) (i*4)) (i:Int)=some (errS mask s u,()):=by
 intro d
 induction d with
 |zero=>
  intro i k h1 h2
  obtain⟨k,rfl⟩:∃k',k=k' +1:=⟨k-1,by omega⟩
  obtain rfl:i=16:=by omega
  rfl
 |succ d ih=>
  intro i k h1 h2
  obtain⟨k,rfl⟩:∃k',k=k' +1:=⟨k-1,by omega⟩
  show qcn 600 (q8d 600 k) mask s u (sumN (errT mask s u) (i*4)) i=_
  unfold qcn
  have h3:(i:Int)<16:=by omega
  have h:=zfy hm hs hu (i:=i) (by omega) 4 0 600 (by omega) (by omega)
  simp only[Nat.add_zero,yq]at h
  simp only[h3,dT,cT,h,y5,q0d (show i<1000000000000 by omega)]
  rw[show i*4+4=(i+1)*4 by omega]
  exact ih (i+1) k (by omega) (by omega)
theorem zkr{b t:LI}(hb:Bytes b){k:Nat}(h:Fmt k)(hl:b.length=q3k k)(htl:t.length=64)(ht:Rg 255 t):qnk 600 (k:Int) b t=some (q9h k b t,0,()):=by
 have e:=zfz (zir k) (q4p (z1r (k:=k) ht) (qmj k)) (q4p (z4g hb h) (qmj k)) 16 0 600 (by omega) (by omega)
 simp only[Nat.zero_mul,yq,sumN]at e
 unfold qnk qwb
 rw[ziz hb h hl,(zqn 600 _).1,zkf 600 h,zqy h htl ht]
 simp only[y5,bne_self_eq_false,cF,e]
 rfl
section
variable {base times table:Int} {w:LI} (hf:EacFit base times table w)
include hf
end
section
variable {t:LI} (hl:t.length=64) (ht:Rg 2047 t)
include hl ht
end
section
variable {t:LI} (hl:t.length=64) (ht:Rg 255 t)
include hl ht
end
section
variable {t:LI} (hl:t.length=64) (ht:Rg 255 t)
include hl ht
end
theorem zci{σ ρ:Type}{N:Nat}(hN:N≤500)(L:Nat→σ→Int→Option ρ)(I:Nat→σ→Prop)(R:ρ→Prop)
  (step:∀k i s,i<N→I i s→∃s',I (i+1) s' ∧L (k+1) s (i:Int)=L k s' ((i+1:Nat):Int))
  (stop:∀k s,I N s→∃r,R r∧L (k+1) s (N:Int)=some r) (i0:Nat) (hi:i0≤N) {s:σ} (h0:I i0 s) (k:Nat) (hk:N-i0<k):∃r,R r∧L k s (i0:Int)=some r:=by
 have key:∀(d i k:Nat) (s:σ),i+d=N→d<k→I i s→∃r,R r∧L k s (i:Int)=some r:=by
  intro d
  induction d with
  |zero=>
   intro i k s h1 h2 hI
   obtain⟨k,rfl⟩:∃k',k=k' +1:=⟨k-1,by omega⟩
   obtain rfl:i=N:=by omega
   exact stop k s hI
  |succ d ih=>
   intro i k s h1 h2 hI
   obtain⟨k,rfl⟩:∃k',k=k' +1:=⟨k-1,by omega⟩
   obtain⟨s',h3,h4⟩:=step k i s (by omega) hI
   rw[h4]
   exact ih (i+1) k s' (by omega) (by omega) h3
 exact key (N-i0) i0 k s (by omega) hk h0
theorem q0f{σ ρ:Type}{N:Nat}(hN:N≤500)(L:Nat→σ→Int→Option ρ)(I:Nat→σ→Prop)(R:ρ→Prop)
  (step:∀k i s,i<N→I i s→∃s',I (i+1) s' ∧L (k+1) s (i:Int)=L k s' ((i+1:Nat):Int))
  (stop:∀k s,I N s→∃r,R r∧L (k+1) s (N:Int)=some r) {s:σ} (h0:I 0 s):∃r,R r∧L 600 s 0=some r:=
 zci hN L I R step stop 0 (by omega) h0 600 (by omega)
def cstL(wide:Bool)(base times:Int)(l:LI)(u:Int)(k:Nat):Int:=(qbw base times (l.getD k 0) wide-u)*(qbw base times (l.getD k 0) wide-u)
theorem z92(base times n:Int)(wide:Bool):0≤qbw base times n wide∧qbw base times n wide≤2047:=by
 have:=z1p base times n wide
 cases wide<;>simp only[yn,if_false,if_true]at this<;>omega
theorem qu9(wide:Bool)(base times:Int)(l:LI){u:Int}(hu:0≤u∧u≤2047)(k:Nat):0≤cstL wide base times l u k∧cstL wide base times l u k≤2047*2047:=by
 have h:=z92 base times (l.getD k 0) wide
 exact qf3 (m:=2047) (by omega)
def L15(l:LI):Prop:=∀i,-15≤l.getD i 0∧l.getD i 0≤15
section
variable {base times:Int} (hb:0≤base∧base≤255) (ht:0≤times∧times≤15) {l:LI} (hl:L15 l) (wide:Bool) {row:LI} {c:Nat} (hc:c<4) (hu:0≤row.getD c 0∧row.getD c 0≤2047)
include hb ht hl hc hu
theorem zqz{k:Nat}(hk:k<8):q2w 600 (k:Int) base times l wide row (c:Int)=some (cstL wide base times l (row.getD c 0) k,()):=by
 have h1:(k:Int)<8:=by omega
 have h2:(c:Int)<4:=by omega
 have h3:=z92 base times (l.getD k 0) wide
 have h4:=qu9 wide base times l hu k
 unfold cstL at h4⊢
 unfold q2w
 simp only[h1,h2,dT,cT,yc,yd,yb,zfk 600 hb ht (hl k),y5]
 rw[w64 (x:=qbw base times (l.getD k 0) wide-row.getD c 0) (by omega) (by omega),w64 (by omega) (by omega)]
theorem zj0:∀(d i k:Nat),1≤i→i+d=8→d<k→q0a 600 k 8 base times l wide row (c:Int) (q35 (cstL wide base times l (row.getD c 0)) i:Int) (i:Int)=some ((q35 (cstL wide base times l (row.getD c 0)) 8:Int),()):=by
 intro d
 induction d with
 |zero=>
  intro i k h0 h1 h2
  obtain⟨k,rfl⟩:∃k',k=k' +1:=⟨k-1,by omega⟩
  obtain rfl:i=8:=by omega
  rfl
 |succ d ih=>
  intro i k h0 h1 h2
  obtain⟨k,rfl⟩:∃k',k=k' +1:=⟨k-1,by omega⟩
  show q0n 600 (q0a 600 k) _ _ _ _ _ _ _ _ _=_
  unfold q0n
  have h3:(i:Int)<8:=by omega
  have hlt:=qft (cstL wide base times l (row.getD c 0)) (n:=i) (by omega)
  have nx:=ih (i+1) k (by omega) (by omega) (by omega)
  rw[show q35 (cstL wide base times l (row.getD c 0)) (i+1)=if i=0 then 0 else if cstL wide base times l (row.getD c 0) i<cstL wide base times l (row.getD c 0) (q35 (cstL wide base times l (row.getD c 0)) i)then i else q35 (cstL wide base times l (row.getD c 0)) i from rfl,iN (by omega)]at nx
  simp only[h3,dT,cT,zqz hb ht hl wide hc hu (show i<8 by omega),zqz hb ht hl wide hc hu (show q35 (cstL wide base times l (row.getD c 0)) i<8 by omega),y5,q0d (show i<1000000000000 by omega)]
  by_cases hc' :cstL wide base times l (row.getD c 0) i<cstL wide base times l (row.getD c 0) (q35 (cstL wide base times l (row.getD c 0)) i)
  ·rw[iP hc']at nx
   simp only[hc',dT,cT]
   exact nx
  ·rw[iN hc']at nx
   simp only[hc',dF,cF]
   exact nx
theorem zj1:q13 600 8 base times l wide row (c:Int)=some ((q35 (cstL wide base times l (row.getD c 0)) 8:Int),()):=by
 have h:=zj0 hb ht hl wide hc hu 7 1 600 (by omega) (by omega) (by omega)
 have e:q35 (cstL wide base times l (row.getD c 0)) 1=0:=rfl
 rw[e]at h
 unfold q13
 rw[show((0:Nat):Int)=0 from rfl,show((1:Nat):Int)=1 from rfl]at h
 rw[h]
 rfl
end
def whL(wide:Bool)(base times:Int)(l t:LI)(c:Nat)(i:Nat):Int:=(q35 (cstL wide base times l (t.getD (i*4+c) 0)) 8:Int)
def sumL(wide:Bool)(base times:Int)(l t:LI)(c:Nat):Int:=sumN (fun i=>cstL wide base times l (t.getD (i*4+c) 0) (q35 (cstL wide base times l (t.getD (i*4+c) 0)) 8)) 16
theorem whL_lt(wide:Bool)(base times:Int)(l t:LI)(c i:Nat):0≤whL wide base times l t c i∧whL wide base times l t c i≤7:=by
 have:=qft (cstL wide base times l (t.getD (i*4+c) 0)) (n:=8) (by decide)
 unfold whL
 omega
theorem row16{t:LI}(hl:t.length=64){i:Nat}(hi:i<16):y8 4 (y9 (i*4) t)=tab 4 fun c=>t.getD (i*4+c) 0:=q76 hl (by omega)
section
variable {t:LI} (tl:t.length=64) (tr:Rg 2047 t) {c:Nat} (hc:c<4)
include tl tr hc
theorem c1_l0_in{base times:Int}(hb:0≤base∧base≤255)(ht:0≤times∧times≤15){l:LI}(hl:L15 l)(wide:Bool)(table less:Int)(best:LI):∀(d i k:Nat),i+d=16→d<k→
  q1y 600 k table wide (c:Int) less best base times (tab 16 (upT i (whL wide base times l t c))) l (sumN (fun i=>cstL wide base times l (t.getD (i*4+c) 0) (q35 (cstL wide base times l (t.getD (i*4+c) 0)) 8)) i) t (i:Int)=
   some (table,less,best,base,times,tab 16 (whL wide base times l t c),sumL wide base times l t c,()):=by
 intro d
 induction d with
 |zero=>
  intro i k h1 h2
  obtain⟨k,rfl⟩:∃k',k=k' +1:=⟨k-1,by omega⟩
  obtain rfl:i=16:=by omega
  rw[zf3]
  rfl
 |succ d ih=>
  intro i k h1 h2
  obtain⟨k,rfl⟩:∃k',k=k' +1:=⟨k-1,by omega⟩
  show q42 600 (q1y 600 k) _ _ _ _ _ _ _ _ _ _ _ _=_
  unfold q42
  have h3:(i:Int)<16:=by omega
  have hr:(tab 4 fun c=>t.getD (i*4+c) 0).getD c 0=t.getD (i*4+c) 0:=q7w hc
  have hu:=tr (i*4+c)
  have hn:=zj1 hb ht hl wide (row:=tab 4 fun c=>t.getD (i*4+c) 0) hc (by rw[hr];exact hu)
  rw[hr]at hn
  have hlt:=qft (cstL wide base times l (t.getD (i*4+c) 0)) (n:=8) (by decide)
  have hk:=zqz hb ht hl wide (row:=tab 4 fun c=>t.getD (i*4+c) 0) hc (by rw[hr];exact hu) hlt
  rw[hr]at hk
  have e1:(tab 16 (upT i (whL wide base times l t c))).set i (q35 (cstL wide base times l (t.getD (i*4+c) 0)) 8:Int)=tab 16 (upT (i+1) (whL wide base times l t c)):=zf2 _
  have e2:(tab 16 (upT (i+1) (whL wide base times l t c))).getD i 0=(q35 (cstL wide base times l (t.getD (i*4+c) 0)) 8:Int):=by
   rw[q7w (by omega)]
   unfold upT
   rw[iP (by omega)]
   rfl
  have b1:=qu9 wide base times l hu (q35 (cstL wide base times l (t.getD (i*4+c) 0)) 8)
  have b2:=qa4 (n:=i) (f:=fun i=>cstL wide base times l (t.getD (i*4+c) 0) (q35 (cstL wide base times l (t.getD (i*4+c) 0)) 8)) (m:=2047*2047) fun j _=>qu9 wide base times l (tr _) _
  have b3:(2047*2047:Int)*(i:Int)≤2047*2047*16:=Int.mul_le_mul_of_nonneg_left (by omega) (by decide)
  simp only[h3,dT,cT,yc,yd,yb,row16 tl (show i<16 by omega),hn,y5,e1,e2,hk,q0d (show i<1000000000000 by omega)]
  rw[w64 (by omega) (by omega)]
  exact ih (i+1) k (by omega) (by omega)
end
theorem znz(base times n:Int)(wide:Bool):∃v,qfc 600 base times n wide=some (v,()):=by
 unfold qfc q31
 cases wide
 ·exact⟨_,rfl⟩
 ·by_cases h:times=0
  ·subst h
   exact⟨_,rfl⟩
  ·simp only[beqF h,Bool.not_true,cF]
   exact⟨_,rfl⟩
theorem zg0{c:Nat}(hc:c<4)(base times:Int)(l:LI)(wide:Bool)(row:LI){k:Nat}(hk:k<8):∃v,q2w 600 (k:Int) base times l wide row (c:Int)=some (v,()):=by
 obtain⟨v,hv⟩:=znz base times (l.getD k 0) wide
 have h1:(k:Int)<8:=by omega
 have h2:(c:Int)<4:=by omega
 unfold q2w
 simp only[h1,h2,dT,cT,yc,yd,yb,hv,y5]
 exact⟨_,rfl⟩
theorem zbk{c:Nat}(hc:c<4)(base times:Int)(l:LI)(wide:Bool)(row:LI):∃n:Nat,n<8∧q13 600 8 base times l wide row (c:Int)=some ((n:Int),()):=by
 obtain⟨r,⟨n,hn,rfl⟩,h⟩:=zci (N:=8) (by decide) (fun k (s:Nat) i=>q0a 600 k 8 base times l wide row (c:Int) (s:Int) i) (fun _ s=>s<8) (fun r=>∃n:Nat,n<8∧r=((n:Int),()))
  (fun k i s hi hs=>by
   show∃s',s' <8∧q0n 600 (q0a 600 k) _ _ _ _ _ _ _ _ _=_
   unfold q0n
   have h3:(i:Int)<8:=by omega
   obtain⟨v,hv⟩:=zg0 hc base times l wide row hi
   obtain⟨u,hu⟩:=zg0 hc base times l wide row hs
   by_cases hlt:v<u
   ·refine⟨i,hi,?_⟩
    simp only[h3,dT,cT,hv,hu,y5,hlt,q0d (show i<1000000000000 by omega)]
   ·refine⟨s,hs,?_⟩
    simp only[h3,dT,cT,hv,hu,y5,hlt,dF,cF,q0d (show i<1000000000000 by omega)])
  (fun k s hs=>⟨_,⟨s,hs,rfl⟩,rfl⟩) 1 (by decide) (s:=0) (by decide) 600 (by decide)
 refine⟨n,hn,?_⟩
 unfold q13
 rw[show((0:Nat):Int)=0 from rfl,show((1:Nat):Int)=1 from rfl]at h
 rw[h]
 rfl
theorem zo0{c:Nat}(hc:c<4)(base times:Int)(l:LI)(wide:Bool)(t:LI)(table less:Int)(best:LI):∃w n,q1y 600 600 table wide (c:Int) less best base times q01 l 0 t 0=some (table,less,best,base,times,w,n,()):=by
 obtain⟨r,⟨w,n,rfl⟩,h⟩:=q0f (N:=16) (by decide) (fun k (s:LI×Int) i=>q1y 600 k table wide (c:Int) less best base times s.1 l s.2 t i) (fun _ s=>s.1.length=16) (fun r=>∃w n,r=(table,less,best,base,times,w,n,()))
  (fun k i s hi hs=>by
   show∃s' :LI×Int,s'.1.length=16∧q42 600 (q1y 600 k) _ _ _ _ _ _ _ _ _ _ _ _=_
   unfold q42
   have h3:(i:Int)<16:=by omega
   obtain⟨q,hq,hn⟩:=zbk hc base times l wide (y8 4 (y9 (i*4) t))
   have e2:(s.1.set i (q:Int)).getD i 0=(q:Int):=by rw[qez _ _ _ _ (by omega),iP rfl]
   obtain⟨v,hv⟩:=zg0 hc base times l wide (y8 4 (y9 (i*4) t)) hq
   refine⟨(s.1.set i (q:Int),y0 .i64 (s.2+v)),by rw[List.length_set];exact hs,?_⟩
   simp only[h3,dT,cT,yc,yd,yb,hn,y5,e2,hv,q0d (show i<1000000000000 by omega)])
  (fun k s hs=>⟨_,⟨s.1,s.2,rfl⟩,rfl⟩) (s:=(q01,0)) rfl
 exact⟨w,n,h⟩
theorem zr0{x:Int}(h:(-9223372036854775808≤x∧x<0)∨(255<x∧x≤9223372036854775807)):256≤y0 .u64 x∧y0 .u64 x≤18446744073709551615:=by
 have hb:=has_iff.1 (qjh .u64 x)
 simp only[loB,hiB]at hb
 rcases h with h|h
 ·have e:y0 .u64 x=x+18446744073709551616:=by
   have h1:=wu64 (x:=x+18446744073709551616) (by omega) (by omega)
   rw[←h1]
   unfold y0
   simp only[IntKind.bits,IntKind.signed]
   simp
  omega
 ·rw[wu64 (by omega) (by omega)]
  omega
theorem Join_bad{base:Int}(h:(-9223372036854775808≤base∧base<0)∨(255<base∧base≤9223372036854775807))(times table:Int)(w:LI):qjp 600 base times table w=some ([],1,()):=by
 have e1:=z0l (F:=600) base times table w eac_JoinT0 600 0 (by omega) (by omega)
 have hlen:(eacF base times table w 16).length/3=19:=by rw[z4e]
 have e0:eacF base times table w 0=[0,8,base,8,4,times,12,4,table]:=rfl
 rw[e0,yq]at e1
 have hb:=zr0 h
 have hf:qt5 8 0 8 (y0 .u64 base)≠0:=fun h0=>by
  have:=(fits0 h0).2 (by decide)
  rw[show((2:Int)^y6 8)=256 from rfl]at this
  omega
 have hs:=z0h (F:=600) (by decide) (b:=eac_JoinT0) qu3 (by decide) (a:=0) (n:=8) (v:=y0 .u64 base) (by decide) ⟨by omega,hb.2⟩
 rw[show eac_JoinT0.length=8 from rfl]at hs
 have e2:q93 600 600 eac_JoinT0 (eacF base times table w 16) 19 0=some (eac_JoinT0,false,()):=by
  show qfb 600 (q93 600 599) _ _ _ _=_
  unfold qfb
  have h2:=zma base times table w (i:=0) (by decide)
  rw[Nat.zero_mul,List.drop_zero]at h2
  simp only[hlen,show decide ((0:Int)<19)=true from rfl,cT,show decide ((0:Int)≤0)=true from rfl,yd,show y6 0=0 from rfl,Nat.zero_mul,List.drop_zero,and_self,if_true,h2,yt,yu]
  rw[show(eacA 0:Int)=0 from rfl,show(eacN 0:Int)=8 from rfl,show eacV base times table w 0=base from rfl,hs]
  simp only[y5,bneT hf,cT]
  rfl
 unfold qjp
 simp only[and_self,if_true]
 rw[e1]
 simp only[y5,hlen,yp]
 rw[e2]
 rfl
def tblE(n:Int):LI:=match q3y 600 n with
 |some (l,_)=>l
 |none=>[]
theorem zr1{n:Int}(h:0≤n∧n≤15):q3y 600 n=some (tblE n,())∧L15 (tblE n):=by
 obtain⟨l,h1,_,h3⟩:=zfj 600 h
 unfold tblE
 rw[h1]
 exact⟨rfl,h3⟩
def LineB(wide:Bool)(t:LI)(c:Nat)(less:Int)(best:LI):Prop:=
 ∃base times table:Int,∃w:Nat→Int,EacFit base times table (tab 16 w)∧best=eacJ base times table (tab 16 w) 19∧less=sumN (fun i=>cstL wide base times (tblE table) (t.getD (i*4+c) 0) (w i).toNat) 16
def z0q(wide:Bool)(t:LI)(c:Nat)(less:Int)(best:LI):Prop:=(less<0∧best=[])∨(0≤less∧LineB wide t c less best)
def Le(less Z:Int):Prop:=0≤less∧less≤Z
section
variable {t:LI} (tl:t.length=64) (tr:Rg 2047 t) {c:Nat} (hc:c<4) (wide:Bool)
include tl tr hc
theorem zks(base times:Int)(l:LI):0≤sumL wide base times l t c:=
 (qa4 (n:=16) (m:=2047*2047) fun i _=>qu9 wide base times l (tr _) _).1
theorem zr2{base:Int}(hb: -1000≤base∧base≤1000){times table:Int}(ht:0≤times∧times≤15)(htb:0≤table∧table≤15){less:Int}{best:LI}(hI:z0q wide t c less best):
  ∃less' best',q6g 600 base times table t wide (c:Int) less best=some (less',best',())∧z0q wide t c less' best' ∧(∀Z,Le less Z→Le less' Z)∧(0≤base∧base≤255→Le less' (sumL wide base times (tblE table) t c)):=by
 obtain⟨hT,hL⟩:=zr1 htb
 by_cases hin:0≤base∧base≤255
 ·have h0:=c1_l0_in tl tr hc hin ht hL wide table less best 16 0 600 (by omega) (by omega)
  rw[z4b,show(tab 16 fun _=>(0:Int))=q01 from rfl,show((0:Nat):Int)=0 from rfl]at h0
  simp only[sumN]at h0
  have hfit:EacFit base times table (tab 16 (whL wide base times (tblE table) t c)):=⟨hin,ht,htb,q26 _ _,fun i hi=>by rw[q7w hi];exact whL_lt _ _ _ _ _ _ _⟩
  have hj:=zkb (F:=600) (by decide) hfit
  have hn:=zks tl tr hc wide base times (tblE table)
  have hB:LineB wide t c (sumL wide base times (tblE table) t c) (eacJ base times table (tab 16 (whL wide base times (tblE table) t c)) 19):=by
   refine⟨base,times,table,whL wide base times (tblE table) t c,hfit,rfl,?_⟩
   unfold sumL
   exact qu6 fun i _=>by unfold whL;rw[yb]
  have e:q6g 600 base times table t wide (c:Int) less best=(cond (decide (less<0)) (some (sumL wide base times (tblE table) t c,eacJ base times table (tab 16 (whL wide base times (tblE table) t c)) 19,())) (cond (decide (sumL wide base times (tblE table) t c<less)) (some (sumL wide base times (tblE table) t c,eacJ base times table (tab 16 (whL wide base times (tblE table) t c)) 19,())) (some (less,best,())))):=by
   unfold q6g
   rw[hT]
   simp only[y5]
   rw[h0]
   simp only[y5]
   rw[hj]
   simp only[y5,beq_self_eq_true,cT]
  rw[e]
  by_cases h1:less<0
  ·refine⟨_,_,by simp only[h1,dT,cT],.inr ⟨hn,hB⟩,fun Z h=> ?_,fun _=>⟨hn,Int.le_refl _⟩⟩
   have:=h.1
   omega
  ·by_cases h2:sumL wide base times (tblE table) t c<less
   ·refine⟨_,_,by simp only[h1,h2,dT,dF,cT,cF],.inr ⟨hn,hB⟩,fun Z h=>⟨hn,by have:=h.2;omega⟩,fun _=>⟨hn,Int.le_refl _⟩⟩
   ·exact⟨_,_,by simp only[h1,h2,dF,cF],hI,fun Z h=>h,fun _=>⟨by omega,by omega⟩⟩
 ·obtain⟨w,n,h0⟩:=zo0 hc base times (tblE table) wide t table less best
  have hj:=Join_bad (base:=base) (by omega) times table w
  refine⟨less,best,?_,hI,fun Z h=>h,fun h=>absurd h hin⟩
  unfold q6g
  rw[hT]
  simp only[y5]
  rw[h0]
  simp only[y5]
  rw[hj]
  simp only[y5,Int.reduceBEq,cF]
theorem lineL6{mid d table:Int}(hm:0≤mid∧mid≤255)(hd:0≤d∧d≤2)(htb:0≤table∧table≤15)(x0 x9 x10:Int){less:Int}{best:LI}(hI:z0q wide t c less best):
  ∃less' best',q6i 600 600 x0 best t wide (c:Int) less mid d table x9 x10 0=some (x0,best',t,wide,(c:Int),less',mid,d,x9,x10,())∧z0q wide t c less' best' ∧(∀Z,Le less Z→Le less' Z)∧(d=0→∀times:Nat,times<16→Le less' (sumL wide mid times (tblE table) t c)):=by
 obtain⟨r,⟨less',best',rfl,h1,h2,h3⟩,h⟩:=q0f (N:=16) (by decide) (fun k (s:Int×LI) i=>q6i 600 k x0 s.2 t wide (c:Int) s.1 mid d table x9 x10 i)
  (fun i s=>z0q wide t c s.1 s.2∧(∀Z,Le less Z→Le s.1 Z)∧(d=0→∀times:Nat,times<i→Le s.1 (sumL wide mid times (tblE table) t c)))
  (fun r=>∃less' best',r=(x0,best',t,wide,(c:Int),less',mid,d,x9,x10,())∧z0q wide t c less' best' ∧(∀Z,Le less Z→Le less' Z)∧(d=0→∀times:Nat,times<16→Le less' (sumL wide mid times (tblE table) t c)))
  (fun k i s hi hs=>by
   obtain⟨g1,g2,g3⟩:=hs
   obtain⟨l1,b1,e1,a1,a2,a3⟩:=zr2 tl tr hc wide (base:=mid+d) (by omega) (times:=(i:Int)) (by omega) htb g1
   obtain⟨l2,b2,e2,c1,c2,c3⟩:=zr2 tl tr hc wide (base:=mid-d) (by omega) (times:=(i:Int)) (by omega) htb a1
   refine⟨(l2,b2),⟨c1,fun Z h=>c2 Z (a2 Z (g2 Z h)),fun hd0 times hlt=> ?_⟩,?_⟩
   ·by_cases he:times=i
    ·subst he
     subst hd0
     rw[Int.add_zero]at a3
     exact c2 _ (a3 hm)
    ·exact c2 _ (a2 _ (g3 hd0 times (by omega)))
   ·show qcq 600 (q6i 600 k) _ _ _ _ _ _ _ _ _ _ _ _=_
    unfold qcq
    have h3:(i:Int)<16:=by omega
    simp only[h3,dT,cT,w64 (x:=mid+d) (by omega) (by omega),w64 (x:=mid-d) (by omega) (by omega),e1,e2,y5,q0d (show i<1000000000000 by omega)])
  (fun k s hs=>⟨_,⟨s.1,s.2,rfl,hs.1,hs.2.1,hs.2.2⟩,rfl⟩) (s:=(less,best)) ⟨hI,fun Z h=>h,fun _ times h=>absurd h (by omega)⟩
 exact⟨less',best',h,h1,h2,h3⟩
theorem zr3{mid d:Int}(hm:0≤mid∧mid≤255)(hd:0≤d∧d≤2)(x0 x8:Int){less:Int}{best:LI}(hI:z0q wide t c less best):
  ∃less' best',q4u 600 600 x0 best t wide (c:Int) less mid d x8 0=some (x0,best',t,wide,(c:Int),less',mid,x8,())∧z0q wide t c less' best' ∧(∀Z,Le less Z→Le less' Z)∧(d=0→∀table times:Nat,table<16→times<16→Le less' (sumL wide mid times (tblE table) t c)):=by
 obtain⟨r,⟨less',best',rfl,h1,h2,h3⟩,h⟩:=q0f (N:=16) (by decide) (fun k (s:Int×LI) i=>q4u 600 k x0 s.2 t wide (c:Int) s.1 mid d x8 i)
  (fun i s=>z0q wide t c s.1 s.2∧(∀Z,Le less Z→Le s.1 Z)∧(d=0→∀table times:Nat,table<i→times<16→Le s.1 (sumL wide mid times (tblE table) t c)))
  (fun r=>∃less' best',r=(x0,best',t,wide,(c:Int),less',mid,x8,())∧z0q wide t c less' best' ∧(∀Z,Le less Z→Le less' Z)∧(d=0→∀table times:Nat,table<16→times<16→Le less' (sumL wide mid times (tblE table) t c)))
  (fun k i s hi hs=>by
   obtain⟨g1,g2,g3⟩:=hs
   obtain⟨l1,b1,e1,a1,a2,a3⟩:=lineL6 tl tr hc wide hm hd (table:=(i:Int)) (by omega) x0 x8 (i:Int) g1
   refine⟨(l1,b1),⟨a1,fun Z h=>a2 Z (g2 Z h),fun hd0 table times hlt ht=> ?_⟩,?_⟩
   ·by_cases he:table=i
    ·subst he
     exact a3 hd0 times ht
    ·exact a2 _ (g3 hd0 table times (by omega) ht)
   ·show qcr 600 (q4u 600 k) _ _ _ _ _ _ _ _ _ _=_
    unfold qcr
    have h3:(i:Int)<16:=by omega
    simp only[h3,dT,cT,e1,y5,q0d (show i<1000000000000 by omega)])
  (fun k s hs=>⟨_,⟨s.1,s.2,rfl,hs.1,hs.2.1,hs.2.2⟩,rfl⟩) (s:=(less,best)) ⟨hI,fun Z h=>h,fun _ table times h=>absurd h (by omega)⟩
 exact⟨less',best',h,h1,h2,h3⟩
def Done(less mid:Int):Prop:=∀table times:Nat,table<16→times<16→Le less (sumL wide mid times (tblE table) t c)
theorem lineL2{mid:Int}(hm:0≤mid∧mid≤255)(effort:Int):∃less best,q14 600 600 effort [] t wide (c:Int) (-1) mid 0=some (best,())∧z0q wide t c less best∧Done (t:=t) (c:=c) wide less mid:=by
 have h0:z0q wide t c (-1) []:= .inl ⟨by decide,rfl⟩
 obtain⟨l1,b1,e1,a1,a2,a3⟩:=zr3 tl tr hc wide hm (d:=0) (by decide) effort 0 h0
 have st:∀l b,q14 600 597 effort b t wide (c:Int) l mid 3=some (b,()):=fun l b=>rfl
 obtain⟨l2,b2,e2,c1,c2,c3⟩:=zr3 tl tr hc wide hm (d:=1) (by decide) effort 1 a1
 obtain⟨l3,b3,e3,f1,f2,f3⟩:=zr3 tl tr hc wide hm (d:=2) (by decide) effort 2 c1
 have s0:q14 600 600 effort [] t wide (c:Int) (-1) mid 0=q14 600 599 effort b1 t wide (c:Int) l1 mid 1:=by
  show q2i 600 (q14 600 599) _ _ _ _ _ _ _ _=_
  unfold q2i
  simp only[show decide ((0:Int)<3)=true from rfl,show decide ((0:Int)<0)=false from rfl,cT,cF,e1,y5]
  rfl
 have d1:Done (t:=t) (c:=c) wide l1 mid:=a3 rfl
 by_cases hf:effort<2
 ·refine⟨l1,b1,?_,a1,d1⟩
  rw[s0]
  show q2i 600 (q14 600 598) _ _ _ _ _ _ _ _=_
  unfold q2i
  simp only[show decide ((1:Int)<3)=true from rfl,show decide ((0:Int)<1)=true from rfl,cT,hf,dT]
 ·refine⟨l3,b3,?_,f1,fun table times h1 h2=>f2 _ (c2 _ (d1 table times h1 h2))⟩
  rw[s0]
  show q2i 600 (q14 600 598) _ _ _ _ _ _ _ _=_
  unfold q2i
  simp only[show decide ((1:Int)<3)=true from rfl,show decide ((0:Int)<1)=true from rfl,cT,cF,hf,dF,e2,y5]
  rw[show y0 .i64 (1+1)=2 from rfl]
  show q2i 600 (q14 600 597) _ _ _ _ _ _ _ _=_
  unfold q2i
  simp only[show decide ((2:Int)<3)=true from rfl,show decide ((0:Int)<2)=true from rfl,cT,cF,hf,dF,e3,y5]
  rw[show y0 .i64 (2+1)=3 from rfl]
  exact st _ _
theorem lineL0{m:Int}(hm:Rg m t)(x0:Int)(x1:LI):∃lo hi,q6h 600 600 x0 x1 (c:Int) wide (t.getD c 0) (t.getD c 0) t 0=some (x0,x1,(c:Int),wide,lo,hi,())∧(0≤lo∧lo≤m)∧(0≤hi∧hi≤m)∧(∀s,(∀i,i<16→t.getD (i*4+c) 0=s)→lo=s∧hi=s):=by
 have hz:=hm c
 obtain⟨r,⟨lo,hi,rfl,h1,h2,h3⟩,h⟩:=q0f (N:=16) (by decide) (fun k (s:Int×Int) i=>q6h 600 k x0 x1 (c:Int) wide s.1 s.2 t i)
  (fun i s=>(0≤s.1∧s.1≤m)∧(0≤s.2∧s.2≤m)∧(∀v,(∀i,i<16→t.getD (i*4+c) 0=v)→s.1=v∧s.2=v))
  (fun r=>∃lo hi,r=(x0,x1,(c:Int),wide,lo,hi,())∧(0≤lo∧lo≤m)∧(0≤hi∧hi≤m)∧(∀s,(∀i,i<16→t.getD (i*4+c) 0=s)→lo=s∧hi=s))
  (fun k i s hi hs=>by
   obtain⟨g1,g2,g3⟩:=hs
   have hv:=hm (i*4+c)
   refine⟨(min s.1 (t.getD (i*4+c) 0),max s.2 (t.getD (i*4+c) 0)),⟨by show 0≤min _ _∧min _ _≤m;omega,by show 0≤max _ _∧max _ _≤m;omega,fun v hall=> ?_⟩,?_⟩
   ·have:=g3 v hall
    have:=hall i hi
    show min _ _=v∧max _ _=v
    omega
   ·show qcp 600 (q6h 600 k) _ _ _ _ _ _ _ _=_
    unfold qcp
    have h3:(i:Int)<16:=by omega
    have h4:(c:Int)<4:=by omega
    simp only[h3,h4,dT,cT,yc,yd,yb,z1s tl hi hc,q0d (show i<1000000000000 by omega)])
  (fun k s hs=>⟨_,⟨s.1,s.2,rfl,hs.1,hs.2.1,hs.2.2⟩,rfl⟩) (s:=(t.getD c 0,t.getD c 0)) ⟨hz,hz,fun v hall=>by have:=hall 0 (by decide);rw[Nat.zero_mul,Nat.zero_add]at this;exact⟨this,this⟩⟩
 exact⟨lo,hi,h,h1,h2,h3⟩
theorem zg1(hw:wide=false→Rg 255 t)(effort:Int):∃less best mid,q98 600 t (c:Int) wide effort=some (best,())∧(0≤less∧LineB wide t c less best)∧Done (t:=t) (c:=c) wide less mid∧(0≤mid∧mid≤255)∧(∀s,(∀i,i<16→t.getD (i*4+c) 0=s)→mid=if wide then s/8 else s):=by
 have h4:(c:Int)<4:=by omega
 have fin:∀{less best} {mid:Int},z0q wide t c less best→Done (t:=t) (c:=c) wide less mid→0≤less∧LineB wide t c less best:=fun hI hD=>by
  have:=(hD 0 0 (by decide) (by decide)).1
  rcases hI with h|h
  ·omega
  ·exact h
 cases wide with
 |true=>
  obtain⟨lo,hi,e0,b1,b2,b3⟩:=lineL0 tl tr hc true tr effort t
  have em:y0 .i64 (yw (y0 .i64 (yw (y0 .i64 (lo+hi)) 2)) 8)=(lo+hi)/2/8:=by
   rw[w64 (x:=lo+hi) (by omega) (by omega),q25 (x:=lo+hi) (by omega),w64 (x:=(lo+hi)/2) (by omega) (by omega),q25 (x:=(lo+hi)/2) (by omega),w64 (by omega) (by omega)]
  obtain⟨less,best,e1,c1,c2⟩:=lineL2 tl tr hc true (mid:=(lo+hi)/2/8) (by omega) effort
  refine⟨less,best,_,?_,fin c1 c2,c2,by omega,fun s hs=> ?_⟩
  ·unfold q98
   simp only[h4,dT,cT,yc,yd,yb]
   rw[e0]
   simp only[y5,cT,em]
   rw[e1]
   rfl
  ·have:=b3 s hs
   simp only[if_true]
   omega
 |false=>
  obtain⟨lo,hi,e0,b1,b2,b3⟩:=lineL0 tl tr hc false (hw rfl) effort t
  have em:y0 .i64 (yw (y0 .i64 (yw (y0 .i64 (lo+hi)) 2)) 1)=(lo+hi)/2:=by
   rw[w64 (x:=lo+hi) (by omega) (by omega),q25 (x:=lo+hi) (by omega),w64 (x:=(lo+hi)/2) (by omega) (by omega),Int.tdiv_one,w64 (by omega) (by omega)]
  obtain⟨less,best,e1,c1,c2⟩:=lineL2 tl tr hc false (mid:=(lo+hi)/2) (by omega) effort
  refine⟨less,best,_,?_,fin c1 c2,c2,by omega,fun s hs=> ?_⟩
  ·unfold q98
   simp only[h4,dT,cT,yc,yd,yb]
   rw[e0]
   simp only[y5,cF,em]
   rw[e1]
   rfl
  ·have:=b3 s hs
   simp only[yn,if_false]
   omega
end
theorem LineB.okb{wide:Bool}{t:LI}{c:Nat}{less:Int}{best:LI}(h:LineB wide t c less best):Okb 8 best:=by
 unfold LineB at h
 obtain⟨base,times,table,w,hf,hb,hl⟩:=h
 rw[hb]
 exact qz1 _ _ _ _
theorem LineB.tells{wide:Bool}{t:LI}{c:Nat}{less:Int}{best:LI}(h:LineB wide t c less best):less=sumN (fun i=>((eacL best wide).getD i 0-t.getD (i*4+c) 0)*((eacL best wide).getD i 0-t.getD (i*4+c) 0)) 16:=by
 unfold LineB at h
 obtain⟨base,times,table,w,hf,hb,hl⟩:=h
 rw[hl,hb]
 have p1:hv (eacJ base times table (tab 16 w) 19) 0 8=base:=qte hf (j:=0) (by decide)
 have p2:hv (eacJ base times table (tab 16 w) 19) 8 4=times:=qte hf (j:=1) (by decide)
 have p3:hv (eacJ base times table (tab 16 w) 19) 12 4=table:=qte hf (j:=2) (by decide)
 have e:eacL (eacJ base times table (tab 16 w) 19) wide=eacD base times (tblE table) (eacW (eacJ base times table (tab 16 w) 19)) wide:=by
  unfold eacL
  rw[p1,p2,p3,(zr1 hf.2.2.1).1]
 refine qu6 fun i hi=> ?_
 have hg:(eacL (eacJ base times table (tab 16 w) 19) wide).getD i 0=qbw base times ((tblE table).getD (w i).toNat 0) wide:=by
  rw[e]
  unfold eacD
  rw[qf1 _ hi,zfi _ hi]
  have hq:=qte hf (j:=i+3) (by omega)
  rw[show eacV base times table (tab 16 w) (i+3)=(tab 16 w).getD i 0 from rfl,q7w hi]at hq
  rw[show hv (eacJ base times table (tab 16 w) 19) (qqj i) 3=w i from hq]
 rw[hg]
 rfl
def valO(x:Option (Int×Unit)):Int:=match x with
 |some (v,_)=>v
 |none=>0
theorem valO_of{x:Option (Int×Unit)}(h:∃v,x=some (v,())):x=some (valO x,()):=by
 obtain⟨v,rfl⟩:=h
 rfl
theorem z93{N:Nat}(hN:1≤N∧N≤500){g:Int→Option (Int×Unit)}{f:Nat→Int}{L:Nat→Int→Int→Option (Int×Unit)}(hg:∀i:Nat,i<N→g (i:Int)=some (f i,()))
  (hL:∀k (s x:Int),L (k+1) s x=cond (decide (x<(N:Int))) ((g x).bind fun a=>(g s).bind fun b=>cond (decide (a.1<b.1)) (L k x (y0 .i64 (x+1))) (L k s (y0 .i64 (x+1)))) (some (s,()))):L 600 0 1=some ((q35 f N:Int),()):=by
 have key:∀(d i k:Nat),1≤i→i+d=N→d<k→L k (q35 f i:Int) (i:Int)=some ((q35 f N:Int),()):=by
  intro d
  induction d with
  |zero=>
   intro i k h0 h1 h2
   obtain⟨k,rfl⟩:∃k',k=k' +1:=⟨k-1,by omega⟩
   obtain rfl:i=N:=by omega
   rw[hL]
   simp only[Int.lt_irrefl,dF,cF]
  |succ d ih=>
   intro i k h0 h1 h2
   obtain⟨k,rfl⟩:∃k',k=k' +1:=⟨k-1,by omega⟩
   have h3:(i:Int)<(N:Int):=by omega
   have hlt:=qft f (n:=i) (by omega)
   have nx:=ih (i+1) k (by omega) (by omega) (by omega)
   rw[show q35 f (i+1)=if i=0 then 0 else if f i<f (q35 f i)then i else q35 f i from rfl,iN (by omega)]at nx
   rw[hL]
   simp only[h3,dT,cT,hg i (by omega),hg _ (show q35 f i<N by omega),y5,q0d (show i<1000000000000 by omega)]
   by_cases hc' :f i<f (q35 f i)
   ·rw[iP hc']at nx
    simp only[hc',dT,cT]
    exact nx
   ·rw[iN hc']at nx
    simp only[hc',dF,cF]
    exact nx
 exact key (N-1) 1 600 (by omega) (by omega) (by omega)
theorem qti{N:Nat}(hN:1≤N∧N≤500){g:Int→Option (Int×Unit)}{L:Nat→Int→Int→Option (Int×Unit)}(hg:∀i:Nat,i<N→∃v,g (i:Int)=some (v,()))
  (hL:∀k (s x:Int),L (k+1) s x=cond (decide (x<(N:Int))) ((g x).bind fun a=>(g s).bind fun b=>cond (decide (a.1<b.1)) (L k x (y0 .i64 (x+1))) (L k s (y0 .i64 (x+1)))) (some (s,()))):∃n:Nat,n<N∧L 600 0 1=some ((n:Int),()):=
 ⟨q35 (fun i=>valO (g i)) N,qft _ (by omega),z93 hN (f:=fun i=>valO (g i)) (fun i hi=>valO_of (hg i hi)) hL⟩
theorem zg2(a b:LI):∃v,qht 600 a b=some (v,()):=by
 obtain⟨r,⟨v,rfl⟩,h⟩:=q0f (N:=4) (by decide) (fun k (s:Int) i=>q9u 600 k a b s i) (fun _ _=>True) (fun r=>∃v,r=(v,()))
  (fun k i s hi hs=>by
   have h3:(i:Int)<4:=by omega
   refine⟨y0 .i64 (s+y0 .i64 (y0 .i64 (a.getD i 0-b.getD i 0)*y0 .i64 (a.getD i 0-b.getD i 0))),trivial,?_⟩
   show qeu 600 (q9u 600 k) _ _ _ _=_
   unfold qeu
   simp only[h3,dT,cT,yc,yd,yb,q0d (show i<1000000000000 by omega)])
  (fun k s hs=>⟨_,⟨s,rfl⟩,rfl⟩) (s:=0) trivial
 refine⟨v,?_⟩
 unfold qht
 rw[h]
 rfl
theorem zr4(a l:LI){i:Nat}(hi:i<4):∃v,q16 600 (i:Int) a l=some (v,()):=by
 obtain⟨v,hv⟩:=zg2 a (y8 4 (y9 (i*4) l))
 have h3:(i:Int)<4:=by omega
 refine⟨v,?_⟩
 unfold q16
 simp only[h3,dT,cT,yc,yd,yb,hv,y5]
theorem c2_ends(a l:LI){i:Nat}(hi:i<4):∃v,q2e 600 (i:Int) a l=some (v,()):=by
 obtain⟨v,hv⟩:=zg2 a (y8 4 (y9 (i*4) l))
 have h3:(i:Int)<4:=by omega
 refine⟨v,?_⟩
 unfold q2e
 simp only[h3,dT,cT,yc,yd,yb,hv,y5]
theorem zg3(a l:LI):∃n:Nat,n<4∧q1k 600 4 a l=some ((n:Int),()):=by
 obtain⟨n,hn,h⟩:=qti (N:=4) (by decide) (g:=fun x=>q16 600 x a l) (L:=fun k s x=>q0h 600 k 4 a l s x) (fun i hi=>zr4 a l hi) (fun k s x=>rfl)
 refine⟨n,hn,?_⟩
 unfold q1k
 rw[h]
 rfl
theorem zbl(a l:LI):∃n:Nat,n<4∧q28 600 4 a l=some ((n:Int),()):=by
 obtain⟨n,hn,h⟩:=qti (N:=4) (by decide) (g:=fun x=>q2e 600 x a l) (L:=fun k s x=>q0q 600 k 4 a l s x) (fun i hi=>c2_ends a l hi) (fun k s x=>rfl)
 refine⟨n,hn,?_⟩
 unfold q28
 rw[h]
 rfl
theorem z94(x0:Bool)(x1 x2 x3:LI){i:Nat}(hi:i<4)(x5:Int)(x6:LI)(x7:Int):∃l,q15 600 600 x0 x1 x2 x3 (i:Int) x5 x6 x7 0=some (x0,x1,x2,l,(i:Int),x6,x7,()):=by
 obtain⟨r,⟨l,rfl⟩,h⟩:=q0f (N:=3) (by decide) (fun k (s:LI) c=>q15 600 k x0 x1 x2 s (i:Int) x5 x6 x7 c) (fun _ _=>True) (fun r=>∃l,r=(x0,x1,x2,l,(i:Int),x6,x7,()))
  (fun k c s hc hs=>by
   have h3:(c:Int)<3:=by omega
   have h4:(c:Int)<4:=by omega
   have h5:(i:Int)<4:=by omega
   refine⟨s.set (i*4+c) (q0w (y0 .i64 (x1.getD c 0+x5))),trivial,?_⟩
   show q8p 600 (q15 600 k) _ _ _ _ _ _ _ _ _=_
   unfold q8p
   simp only[h3,h4,h5,dT,cT,yc,yd,yb,qa2,y5,q0d (show c<1000000000000 by omega)])
  (fun k s hs=>⟨_,⟨s,rfl⟩,rfl⟩) (s:=x3) trivial
 exact⟨l,h⟩
theorem z1u(a:LI)(n:Int)(solid:Bool):∃l,qad 600 a n solid=some (l,()):=by
 obtain⟨r,⟨l,rfl⟩,h⟩:=q0f (N:=4) (by decide) (fun k (s:LI) i=>q4z 600 k solid a q01 s (qdi (n%8).toNat) i) (fun _ _=>True) (fun r=>∃l,r=(q01,l,()))
  (fun k i s hi hs=>by
   have h3:(i:Int)<4:=by omega
   have hz:∀x5,∃l,q15 600 600 solid a q01 s (i:Int) x5 (qdi (n%8).toNat) (i:Int) 0=some (solid,a,q01,l,(i:Int),qdi (n%8).toNat,(i:Int),()):=fun x5=>z94 solid a _ s hi x5 _ _
   show∃s',True∧q8q 600 (q4z 600 k) _ _ _ _ _ _=_
   unfold q8q
   cases solid with
   |true=>
    obtain⟨l,e⟩:=hz ((qdi (n%8).toNat).getD i 0)
    simp only[h3,dT,cT,cF,Bool.not_true,yc,yd,yb,e,y5,q0d (show i<1000000000000 by omega)]
    exact⟨_,trivial,rfl⟩
   |false=>
    by_cases h0:i=0
    ·subst h0
     obtain⟨l,e⟩:=hz 0
     rw[show((0:Nat):Int)=0 from rfl]at e
     simp only[show((0:Nat):Int)=0 from rfl,dT,cT,cF,Bool.not_false,yc,yd,yb,beq_self_eq_true,e,y5,show decide ((0:Int)<4)=true from rfl,show decide ((0:Int)≤0)=true from rfl,show((0:Int)==2)=false from rfl]
     exact⟨_,trivial,rfl⟩
    ·obtain⟨l,e⟩:=hz ((qdi (n%8).toNat).getD i 0)
     have hb:((i:Int)==0)=false:=by rw[beq_eq_false_iff_ne];omega
     simp only[h3,dT,cT,cF,Bool.not_false,yc,yd,yb,hb,e,y5,q0d (show i<1000000000000 by omega)]
     cases((i:Int)==2)<;>exact⟨_,trivial,rfl⟩)
  (fun k s hs=>⟨_,⟨s,rfl⟩,rfl⟩) (s:=q01) trivial
 refine⟨l,?_⟩
 unfold qad
 rw[z0j]
 simp only[y5]
 rw[h]
 rfl
theorem zj2(a0 a1:LI)(a2:Int)(a3:LI)(a4:Int){i:Nat}(hi:i<16):∃l,q68 600 a0 a1 a2 a3 a4 (i:Int)=some (l,()):=by
 have h3:(i:Int)<16:=by omega
 unfold q68
 simp only[h3,dT,cT,yc,yd]
 cases a2 !=9<;>exact⟨_,rfl⟩
theorem zg4(x:Int)(a1:LI){h:Nat}(hh:h<2)(s d f:Bool)(A B T W ah b:LI)(k:Int)(t:LI)(n:Int):∃v,q2d 600 x a1 (h:Int) s d f A B T W ah b k t n=some (v,()):=by
 obtain⟨l,hl⟩:=z1u (y8 4 (y9 (h*4) a1)) x s
 obtain⟨r,⟨v,rfl⟩,e⟩:=q0f (N:=16) (by decide) (fun q (s:Int) i=>q17 600 q (h:Int) d f A B T W ah b k t n l s i) (fun _ _=>True) (fun r=>∃v,r=(v,()))
  (fun q i s hi hs=>by
   have h3:(i:Int)<16:=by omega
   obtain⟨t4,e1⟩:=zj2 ah b k t n hi
   obtain⟨m,hm,e2⟩:=zg3 t4 l
   obtain⟨v,e3⟩:=zg2 t4 (y8 4 (y9 (m*4) l))
   have hm4:(m:Int)<4:=by omega
   show∃s',True∧q3d 600 (q17 600 q) _ _ _ _ _ _ _ _ _ _ _ _ _ _ _=_
   unfold q3d
   rw[(qj4 600 f (i:Int)).1]
   simp only[h3,hm4,dT,cT,yc,yd,yb,e1,e2,e3,y5,q0d (show i<1000000000000 by omega)]
   cases((q2n f (i:Int):Int)==(h:Int))<;>exact⟨_,trivial,rfl⟩)
  (fun q s hs=>⟨_,⟨s,rfl⟩,rfl⟩) (s:=0) trivial
 refine⟨v,?_⟩
 have h2:(h:Int)<2:=by omega
 unfold q2d
 simp only[h2,dT,cT,yc,yd,yb,hl,y5]
 rw[e]
 rfl
theorem zg5(a1:LI){h:Nat}(hh:h<2)(s d f:Bool)(A B T W ah b:LI)(k:Int)(t:LI)(n:Int):∃m:Nat,m<8∧q27 600 8 a1 (h:Int) s d f A B T W ah b k t n=some ((m:Int),()):=by
 obtain⟨m,hm,e⟩:=qti (N:=8) (by decide) (g:=fun x=>q2d 600 x a1 (h:Int) s d f A B T W ah b k t n) (L:=fun q y x=>q0p 600 q 8 a1 (h:Int) s d f A B T W ah b k t n y x) (fun i hi=>zg4 _ a1 hh s d f A B T W ah b k t n) (fun q y x=>rfl)
 refine⟨m,hm,?_⟩
 unfold q27
 rw[e]
 rfl
def Inv(k:Nat)(t b:LI)(n:Int):Prop:=Okb (q3k k) b∧n=q9h k b t
def Ahd(k:Nat)(ah:LI):Prop:=Bytes ah∧ah.length+8=q3k k
abbrev FR:=Int×LI×LI×LI×Int×Unit
def Stp(k:Nat)(t ah:LI)(n:Int)(r:Option FR):Prop:=∃b' n',r=some ((k:Int),t,ah,b',n',())∧Inv k t b' n' ∧n' ≤n
section
variable {k:Nat} (hk:Fmt k) {t:LI} (tl:t.length=64) (tr:Rg 255 t)
include hk tl tr
theorem zkt(ah b:LI)(n:Int){new:LI}(hI:Inv k t b n)(hn:Okb (q3k k) new):∃b' n',q43 600 ah b (k:Int) t n new=some ((k:Int),t,ah,b',n',())∧Inv k t b' n' ∧n' ≤n∧n' ≤q9h k new t:=by
 have e:=qu8 hn.1 hk hn.2 tl tr
 unfold q43
 rw[e]
 simp only[y5,beq_self_eq_true,cT]
 by_cases hlt:q9h k new t<n
 ·exact⟨_,_,by simp only[hlt,dT,cT],⟨hn,rfl⟩,by omega,Int.le_refl _⟩
 ·exact⟨_,_,by simp only[hlt,dF,cF],hI,Int.le_refl _,by omega⟩
theorem qz2{ah:LI}(ha:Ahd k ah)(b:LI)(n:Int){new:LI}(hI:Inv k t b n)(hn:Okb 8 new):∃b' n',q24 600 ah b (k:Int) t n new=some ((k:Int),t,ah,b',n',())∧Inv k t b' n' ∧n' ≤n∧n' ≤q9h k (ah++new) t:=by
 have hb:=z0n k
 have hal:ah.length≤8:=by
  have:=ha.2
  omega
 obtain⟨b',n',e,h1,h2,h3⟩:=zkt hk tl tr ah b n hI (new:=ah++new) ⟨fun x hx=>(yk.1 hx).elim (ha.1 x) (hn.1 x),by rw[yo,hn.2];exact ha.2⟩
 refine⟨b',n',?_,h1,h2,h3⟩
 have g1:ah.length+new.length≤1099511627776:=by rw[hn.2];omega
 have g2:0<new.length:=by rw[hn.2];decide
 unfold q24
 simp only[yc,yb,w8,dT,yd,cT,g1,g2,List.take_length,e,y5]
theorem Stp.refl{ah b:LI}{n:Int}(hI:Inv k t b n):Stp k t ah n (some ((k:Int),t,ah,b,n,())):=⟨b,n,rfl,hI,Int.le_refl _⟩
end
theorem zr5{m:Int}{l:LI}(h:Rg m l)(i:Nat){v:Int}(hv:0≤v∧v≤m):Rg m (l.set i v):=fun j=>by
 by_cases hi:i<l.length
 ·rw[qez _ _ _ _ hi]
  split
  ·exact hv
  ·exact h j
 ·rw[List.set_eq_of_length_le (by omega)]
  exact h j
theorem Rg.i64{m:Int}{l:LI}(h:Rg m l)(hm:m≤9000000000000000000):Is64 l:=fun i=>by
 have:=h i
 exact has_iff.2 (show-9223372036854775808≤_∧_≤9223372036854775807 by omega)
section
variable (s d f:Bool) (A B ah b:LI) (k:Int) (t:LI) (n:Int)
theorem zg6(T bases l:LI){h:Int}(x15:Int){W:LI}(hW:Rg 3 W):∃W',Rg 3 W' ∧q1c 600 600 ah b k t n d f A B T W s bases h l x15 0=some (ah,b,k,t,n,d,f,A,B,T,W',s,bases,x15,()):=by
 obtain⟨r,⟨W',hW',rfl⟩,e⟩:=q0f (N:=16) (by decide) (fun q (w:LI) i=>q1c 600 q ah b k t n d f A B T w s bases h l x15 i) (fun _ w=>Rg 3 w) (fun r=>∃W',Rg 3 W' ∧r=(ah,b,k,t,n,d,f,A,B,T,W',s,bases,x15,()))
  (fun q i w hi hs=>by
   have h3:(i:Int)<16:=by omega
   obtain⟨t4,e1⟩:=zj2 ah b k t n hi
   obtain⟨m,hm,e2⟩:=zbl t4 l
   show∃s',Rg 3 s' ∧q4h 600 (q1c 600 q) _ _ _ _ _ _ _ _ _ _ _ _ _ _ _ _ _=_
   unfold q4h
   rw[(qj4 600 f (i:Int)).1]
   simp only[h3,dT,cT,yc,yd,yb,e1,e2,y5,q0d (show i<1000000000000 by omega)]
   cases((q2n f (i:Int):Int)==h)
   ·exact⟨_,hs,rfl⟩
   ·exact⟨_,zr5 hs i (by omega),rfl⟩)
  (fun q w hw=>⟨_,⟨w,hw,rfl⟩,rfl⟩) (s:=W) hW
 exact⟨W',hW',e⟩
theorem zg7(bases:LI){T W:LI}(hT:Rg 7 T)(hW:Rg 3 W):∃T' W',Rg 7 T' ∧Rg 3 W' ∧q1d 600 600 ah b k t n d f A B T W s bases 0=some (ah,b,k,t,n,d,f,A,B,T',W',s,()):=by
 obtain⟨r,⟨T',W',h1,h2,rfl⟩,e⟩:=q0f (N:=2) (by decide) (fun q (w:LI×LI) i=>q1d 600 q ah b k t n d f A B w.1 w.2 s bases i) (fun _ w=>Rg 7 w.1∧Rg 3 w.2) (fun r=>∃T' W',Rg 7 T' ∧Rg 3 W' ∧r=(ah,b,k,t,n,d,f,A,B,T',W',s,()))
  (fun q i w hi hs=>by
   have h3:(i:Int)<2:=by omega
   obtain⟨m,hm,e1⟩:=zg5 bases hi s d f A B w.1 w.2 ah b k t n
   obtain⟨l,e2⟩:=z1u (y8 4 (y9 (i*4) bases)) ((w.1.set i (m:Int)).getD i 0) s
   obtain⟨W',hW',e3⟩:=zg6 s d f A B ah b k t n (w.1.set i (m:Int)) bases l (h:=(i:Int)) (i:Int) hs.2
   refine⟨(w.1.set i (m:Int),W'),⟨zr5 hs.1 i (by omega),hW'⟩,?_⟩
   show q4i 600 (q1d 600 q) _ _ _ _ _ _ _ _ _ _ _ _ _ _=_
   unfold q4i
   simp only[h3,dT,cT,yc,yd,yb,e1,e2,e3,y5,q0d (show i<1000000000000 by omega)])
  (fun q w hw=>⟨_,⟨w.1,w.2,hw.1,hw.2,rfl⟩,rfl⟩) (s:=(T,W)) ⟨hT,hW⟩
 exact⟨T',W',h1,h2,e⟩
end
theorem zcj(d f:Bool)(A B T W:LI):Okb 8 (qgw d f A B T W):=⟨z1n d f A B T W,zca d f A B T W⟩
section
variable {k:Nat} (hk:Fmt k) {t:LI} (tl:t.length=64) (tr:Rg 255 t) {ah:LI} (ha:Ahd k ah)
include hk tl tr ha
theorem zg8{b:LI}{n:Int}(hI:Inv k t b n)(d f:Bool){A B T W:LI}(hf:qgv A B)(hT:Rg 7 T)(hW:Rg 3 W)(s:Bool):Stp k t ah n (q08 600 ah b (k:Int) t n (d,f,A,B,T,W,()) s):=by
 unfold q08
 rw[qu0 (by decide) d f hf T W]
 simp only[y5]
 by_cases h3:qjf d A B=3
 ·obtain⟨T',W',h1,h2,e⟩:=zg7 s d f A B ah b (k:Int) t n (q1h d A B) hT hW
  have hA:Is64 A:=fun i=>has_iff.2 (by have:=hf.2.2.1 i;show-9223372036854775808≤_∧_≤9223372036854775807;omega)
  have hB:Is64 B:=fun i=>has_iff.2 (by have:=hf.2.2.2 i;show-9223372036854775808≤_∧_≤9223372036854775807;omega)
  have j:=z8i (F:=600) (by decide) d f hA hB (h1.i64 (by decide)) (h2.i64 (by decide))
  rw[h3]
  simp only[bne_self_eq_false,cF]
  rw[e]
  simp only[y5]
  rw[j]
  by_cases hok:Ok10 d A B T' W'
  ·rw[iP hok]
   simp only[y5,bne_self_eq_false,cF]
   have ob:=zcj d f A B T' W'
   cases s with
   |true=>
    obtain⟨b',n',e1,g1,g2,_⟩:=qz2 hk tl tr ha b n hI ob
    simp only[Bool.not_true,cF,e1,y5]
    exact⟨b',n',rfl,g1,g2⟩
   |false=>
    have hs:=qhv (F:=600) (by decide) ob.1 (by rw[ob.2];decide) (a:=30) (n:=1) (v:=0) (by decide) (by rw[ob.2];decide) (by decide)
    obtain⟨b',n',e1,g1,g2,_⟩:=qz2 hk tl tr ha b n hI (new:=hset (qgw d f A B T' W') 30 1 0) ⟨qhu ob.1 _ _ _,by rw[qty];exact ob.2⟩
    rw[show((30:Nat):Int)=30 from rfl,show((1:Nat):Int)=1 from rfl]at hs
    simp only[Bool.not_false,cT,hs,e1,y5]
    exact⟨b',n',rfl,g1,g2⟩
  ·rw[iN hok]
   simp only[y5,show((1:Int) !=0)=true from rfl,cT]
   exact Stp.refl hk tl tr hI
 ·have hb:(qjf d A B !=3)=true:=by rw[bne_iff_ne];exact h3
  simp only[hb,cT]
  exact Stp.refl hk tl tr hI
end
section
variable {k:Nat} (hk:Fmt k) {t:LI} (tl:t.length=64) (tr:Rg 255 t) (ah b:LI) (n:Int)
include hk tl tr
theorem zo1(fl:Bool)(h:Int)(x2:LI){i:Nat}(hi:i<16){s:LI}(hs:Rg (255*i) s):∃s',Rg (255*(i+1:Nat)) s' ∧q1s 600 600 fl h x2 s t (i:Int) (y8 4 (y9 (i*4) t)) 0=some (fl,h,x2,s',t,(i:Int),()):=by
 obtain⟨r,⟨s',hs',rfl⟩,e⟩:=q0f (N:=4) (by decide) (fun q (s:LI) c=>q1s 600 q fl h x2 s t (i:Int) (y8 4 (y9 (i*4) t)) c)
  (fun c s=>∀j,0≤s.getD j 0∧s.getD j 0≤255*i+(if j<c then 255 else 0)) (fun r=>∃s',Rg (255*(i+1:Nat)) s' ∧r=(fl,h,x2,s',t,(i:Int),()))
  (fun q c s hc hs=>by
   have h3:(c:Int)<4:=by omega
   have hr:=z1s tl hi hc
   have hv:=tr (i*4+c)
   have hsc:=hs c
   rw[iN (by omega)]at hsc
   refine⟨s.set c (y0 .i64 (s.getD c 0+t.getD (i*4+c) 0)),fun j=> ?_,?_⟩
   ·rw[w64 (by omega) (by omega)]
    have hj:=hs j
    by_cases hcl:c<s.length
    ·rw[qez _ _ _ _ hcl]
     by_cases hcj:c=j
     ·subst hcj
      rw[iP rfl,iP (by omega)]
      omega
     ·rw[iN hcj]
      split at hj
      ·rw[iP (by omega)]
       omega
      ·split<;>omega
    ·rw[List.set_eq_of_length_le (by omega)]
     split at hj
     ·rw[iP (by omega)]
      omega
     ·split<;>omega
   ·show q5c 600 (q1s 600 q) _ _ _ _ _ _ _ _=_
    unfold q5c
    simp only[h3,dT,cT,yc,yd,yb,hr,q0d (show c<1000000000000 by omega)])
  (fun q s hs=>⟨_,⟨s,fun j=>by
   have:=hs j
   split at this<;>omega,rfl⟩,rfl⟩) (s:=s) (fun j=>by
   have:=hs j
   rw[iN (by omega)]
   omega)
 exact⟨s',hs',e⟩
theorem zr6(fl:Bool)(h:Int):∃l,Rg 4080 l∧q1j 600 ah b (k:Int) t n fl h=some (l,()):=by
 obtain⟨r,⟨s,hs,rfl⟩,e⟩:=q0f (N:=16) (by decide) (fun q (s:LI) i=>q2x 600 q fl h [0,0,0,0] s t i) (fun i s=>Rg (255*i) s) (fun r=>∃s,Rg 4080 s∧r=([0,0,0,0],s,()))
  (fun q i s hi hs=>by
   have h3:(i:Int)<16:=by omega
   obtain⟨s',hs',e1⟩:=zo1 hk tl tr fl h [0,0,0,0] hi hs
   show∃s',Rg (255*(i+1:Nat)) s' ∧q5d 600 (q2x 600 q) _ _ _ _ _ _=_
   unfold q5d
   rw[(qj4 600 fl (i:Int)).1]
   simp only[h3,dT,cT,yc,yd,yb,e1,y5,q0d (show i<1000000000000 by omega)]
   cases((q2n fl (i:Int):Int)==h)
   ·exact⟨s,q4p hs (by omega),rfl⟩
   ·exact⟨s',hs',rfl⟩)
  (fun q s hs=>⟨_,⟨s,q4p hs (by decide),rfl⟩,rfl⟩) (s:=[0,0,0,0]) (q2j (by decide) (q2j (by decide) (q2j (by decide) (q2j (by decide) (qtf (by decide))))))
 obtain⟨r,⟨l,hl,rfl⟩,e2⟩:=q0f (N:=4) (by decide) (fun q (s:LI) i=>q2y 600 q [0,0,0,0] s i) (fun i s=>Rg 4080 s) (fun r=>∃s,Rg 4080 s∧r=([0,0,0,0],s,()))
  (fun q i s hi hs=>by
   have h3:(i:Int)<4:=by omega
   have hv:=hs i
   refine⟨s.set i (y0 .i64 (yw (s.getD i 0) 8)),zr5 hs i (by rw[q25 hv.1,w64 (by omega) (by omega)];omega),?_⟩
   show q5e 600 (q2y 600 q) _ _ _=_
   unfold q5e
   simp only[h3,dT,cT,yc,yd,yb,q0d (show i<1000000000000 by omega)])
  (fun q s hs=>⟨_,⟨s,hs,rfl⟩,rfl⟩) (s:=s) hs
 refine⟨l,hl,?_⟩
 unfold q1j
 rw[e]
 simp only[y5]
 rw[e2]
 rfl
end
theorem z95{b:Nat}(hb:1≤b∧b≤8){v:Int}(hv:0≤v∧v≤4080):∃m:Nat,m<2^b∧q9l 600 v (b:Int)=some ((m:Int),()):=
 ⟨qwo b v (2^b),by
  have:=zm0 b v (2^b)
  have:0<2^b:=Nat.two_pow_pos b
  omega,Near_is (by decide) hb ⟨by omega,by omega⟩⟩
def T3(a z:Int)(l:LI):Prop:=l.length=3∧∀j,a≤l.getD j 0∧l.getD j 0≤z
theorem T3.set{a z:Int}{l:LI}(h:T3 a z l)(i:Nat){v:Int}(hv:a≤v∧v≤z):T3 a z (l.set i v):=⟨by rw[List.length_set];exact h.1,fun j=>by
 by_cases hi:i<l.length
 ·rw[qez _ _ _ _ hi]
  split
  ·exact hv
  ·exact h.2 j
 ·rw[List.set_eq_of_length_le (by omega)]
  exact h.2 j⟩
theorem T3.nil{a z:Int}(h:a≤0∧0≤z):T3 a z [0,0,0]:=⟨rfl,fun j=>by
 match j with
 |0=>exact h
 |1=>exact h
 |2=>exact h
 |j+3=>exact h⟩
theorem zj3(ah b:LI)(k:Int)(t:LI)(n:Int)(fl:Bool)(pr:Bool×Bool×Unit)(x18:Int){m0 m1:LI}(h0:Rg 4080 m0)(h1:Rg 4080 m1):
  ∃A B A' B',qgv A B∧qgv A' B' ∧q0e 600 600 ah b k t n m0 m1 fl [0,0,0] [0,0,0] [0,0] q01 fl [0,0,0] [0,0,0] [0,0] q01 pr x18 0=
   some (ah,b,k,t,n,fl,A,B,[0,0],q01,fl,A',B',[0,0],q01,pr,x18,()):=by
 obtain⟨r,⟨A,B,A',B',g1,g2,rfl⟩,e⟩:=q0f (N:=3) (by decide) (fun q (s:LI×LI×LI×LI) c=>q0e 600 q ah b k t n m0 m1 fl s.1 s.2.1 [0,0] q01 fl s.2.2.1 s.2.2.2 [0,0] q01 pr x18 c)
  (fun c s=>T3 0 31 s.1∧T3 (-4) 3 s.2.1∧T3 0 15 s.2.2.1∧T3 0 15 s.2.2.2)
  (fun r=>∃A B A' B',qgv A B∧qgv A' B' ∧r=(ah,b,k,t,n,fl,A,B,[0,0],q01,fl,A',B',[0,0],q01,pr,x18,()))
  (fun q c s hc hs=>by
   have h3:(c:Int)<3:=by omega
   have h4:(c:Int)<4:=by omega
   obtain⟨p0,hp0,e0⟩:=z95 (b:=5) (by decide) (h0 c)
   obtain⟨p1,hp1,e1⟩:=z95 (b:=5) (by decide) (h1 c)
   obtain⟨p2,hp2,e2⟩:=z95 (b:=4) (by decide) (h0 c)
   obtain⟨p3,hp3,e3⟩:=z95 (b:=4) (by decide) (h1 c)
   rw[show((5:Nat):Int)=5 from rfl]at e0 e1
   rw[show((4:Nat):Int)=4 from rfl]at e2 e3
   rw[show 2^5=32 from rfl]at hp0 hp1
   rw[show 2^4=16 from rfl]at hp2 hp3
   refine⟨(s.1.set c p0,s.2.1.set c (max (-4) (min (y0 .i64 ((p1:Int)-(s.1.set c (p0:Int)).getD c 0)) 3)),s.2.2.1.set c p2,s.2.2.2.set c p3),⟨hs.1.set c (by omega),hs.2.1.set c (by omega),hs.2.2.1.set c (by omega),hs.2.2.2.set c (by omega)⟩,?_⟩
   show q44 600 (q0e 600 q) _ _ _ _ _ _ _ _ _ _ _ _ _ _ _ _ _ _ _ _=_
   unfold q44
   simp only[h3,h4,dT,cT,yc,yd,yb,e0,e1,e2,e3,y5,q0d (show c<1000000000000 by omega)])
  (fun q s hs=>⟨_,⟨s.1,s.2.1,s.2.2.1,s.2.2.2,⟨hs.1.1,hs.2.1.1,hs.1.2,fun c=>by have:=hs.2.1.2 c;omega⟩,⟨hs.2.2.1.1,hs.2.2.2.1,fun c=>by have:=hs.2.2.1.2 c;omega,fun c=>by have:=hs.2.2.2.2 c;omega⟩,rfl⟩,rfl⟩)
  (s:=([0,0,0],[0,0,0],[0,0,0],[0,0,0])) ⟨T3.nil (by decide),T3.nil (by decide),T3.nil (by decide),T3.nil (by decide)⟩
 exact⟨A,B,A',B',g1,g2,e⟩
theorem rg_zz:Rg 7 [0,0]:=q2j (by decide) (q2j (by decide) (qtf (by decide)))
theorem zr7:Rg 3 q01:=qdn (N:=16) (g:=fun _=>0) (by decide) fun j _=>by omega
section
variable {k:Nat} (hk:Fmt k) {t:LI} (tl:t.length=64) (tr:Rg 255 t) {ah:LI} (ha:Ahd k ah)
include hk tl tr ha
theorem pair_is{b:LI}{n:Int}(hI:Inv k t b n)(fl:Bool){A B A' B' :LI}(g1:qgv A B)(g2:qgv A' B'):∃b1 n1 b2 n2,q08 600 ah b (k:Int) t n (true,fl,A,B,[0,0],q01,()) true=some ((k:Int),t,ah,b1,n1,())∧
  (cond ((k:Int)==9) (q08 600 ah b1 (k:Int) t n1 (true,fl,A,B,[0,0],q01,()) false) (q08 600 ah b1 (k:Int) t n1 (false,fl,A',B',[0,0],q01,()) true))=some ((k:Int),t,ah,b2,n2,())∧Inv k t b2 n2∧n2≤n:=by
 obtain⟨b1,n1,e1,i1,l1⟩:=zg8 hk tl tr ha hI true fl g1 rg_zz zr7 true
 cases h9:((k:Int)==9)with
 |true=>
  obtain⟨b2,n2,e2,i2,l2⟩:=zg8 hk tl tr ha i1 true fl g1 rg_zz zr7 false
  exact⟨b1,n1,b2,n2,e1,e2,i2,by omega⟩
 |false=>
  obtain⟨b2,n2,e2,i2,l2⟩:=zg8 hk tl tr ha i1 false fl g2 rg_zz zr7 true
  exact⟨b1,n1,b2,n2,e1,e2,i2,by omega⟩
theorem qx1{b:LI}{n:Int}(hI:Inv k t b n):Stp k t ah n (q19 600 ah b (k:Int) t n):=by
 have round:∀(q:Nat) (x:Int) (b:LI) (n:Int),x=0∨x=1→Inv k t b n→∃b' n',q07 600 (q+1) ah b (k:Int) t n (false,true,()) x=q07 600 q ah b' (k:Int) t n' (false,true,()) (y0 .i64 (x+1))∧Inv k t b' n' ∧n' ≤n:=by
  intro q x b n hx hI
  have key:∀fl,∃m0 m1 A B A' B' b1 n1 b2 n2,q1j 600 ah b (k:Int) t n fl 0=some (m0,())∧q1j 600 ah b (k:Int) t n fl 1=some (m1,())∧
    q0e 600 600 ah b (k:Int) t n m0 m1 fl [0,0,0] [0,0,0] [0,0] q01 fl [0,0,0] [0,0,0] [0,0] q01 (false,true,()) x 0=some (ah,b,(k:Int),t,n,fl,A,B,[0,0],q01,fl,A',B',[0,0],q01,(false,true,()),x,())∧
    q08 600 ah b (k:Int) t n (true,fl,A,B,[0,0],q01,()) true=some ((k:Int),t,ah,b1,n1,())∧
    (cond ((k:Int)==9) (q08 600 ah b1 (k:Int) t n1 (true,fl,A,B,[0,0],q01,()) false) (q08 600 ah b1 (k:Int) t n1 (false,fl,A',B',[0,0],q01,()) true))=some ((k:Int),t,ah,b2,n2,())∧Inv k t b2 n2∧n2≤n:=by
   intro fl
   obtain⟨m0,hm0,e0⟩:=zr6 hk tl tr ah b n fl 0
   obtain⟨m1,hm1,e1⟩:=zr6 hk tl tr ah b n fl 1
   obtain⟨A,B,A',B',g1,g2,e2⟩:=zj3 ah b (k:Int) t n fl (false,true,()) x hm0 hm1
   obtain⟨b1,n1,b2,n2,p1,p2,p3,p4⟩:=pair_is hk tl tr ha hI fl g1 g2
   exact⟨m0,m1,A,B,A',B',b1,n1,b2,n2,e0,e1,e2,p1,p2,p3,p4⟩
  rcases hx with rfl|rfl
  ·obtain⟨m0,m1,A,B,A',B',b1,n1,b2,n2,e0,e1,e2,p1,p2,p3,p4⟩:=key false
   refine⟨b2,n2,?_,p3,p4⟩
   show q1m 600 (q07 600 q) _ _ _ _ _ _ _=_
   unfold q1m
   simp only[show decide ((0:Int)<2)=true from rfl,cT,beq_self_eq_true,e0,e1,y5,e2,p1]
   cases h9:((k:Int)==9)with
   |true=>
    rw[h9]at p2
    simp only[cT]at p2⊢
    rw[p2]
    rfl
   |false=>
    rw[h9]at p2
    simp only[cF]at p2⊢
    rw[p2]
    rfl
  ·obtain⟨m0,m1,A,B,A',B',b1,n1,b2,n2,e0,e1,e2,p1,p2,p3,p4⟩:=key true
   refine⟨b2,n2,?_,p3,p4⟩
   show q1m 600 (q07 600 q) _ _ _ _ _ _ _=_
   unfold q1m
   simp only[show decide ((1:Int)<2)=true from rfl,cT,cF,show((1:Int)==0)=false from rfl,beq_self_eq_true,e0,e1,y5,e2,p1]
   cases h9:((k:Int)==9)with
   |true=>
    rw[h9]at p2
    simp only[cT]at p2⊢
    rw[p2]
    rfl
   |false=>
    rw[h9]at p2
    simp only[cF]at p2⊢
    rw[p2]
    rfl
 obtain⟨b1,n1,e1,i1,l1⟩:=round 599 0 b n (.inl rfl) hI
 obtain⟨b2,n2,e2,i2,l2⟩:=round 598 1 b1 n1 (.inr rfl) i1
 refine⟨b2,n2,?_,i2,by omega⟩
 unfold q19
 rw[show q07 600 600=q07 600 (599+1)from rfl,e1,show y0 .i64 (0+1)=1 from rfl,show q07 600 599=q07 600 (598+1)from rfl,e2]
 rfl
end
def sqS(t:LI)(c:Nat)(u:Int):Int:=sumN (fun i=>(t.getD (i*4+c) 0-u)*(t.getD (i*4+c) 0-u)) 16
def solA(t:LI)(tb w:Nat)(c:Nat):Nat:=q35 (fun v=>sqS t c (q0w (q0s 5 (v:Int)+(qdi tb).getD w 0))) 32
def solB(t:LI)(tb w:Nat):LI:=qgw true false (tab 3 fun c=>(solA t tb w c:Int)) [0,0,0] [(tb:Int),(tb:Int)] (q3l (w:Int))
theorem zku(t:LI)(tb w c:Nat):solA t tb w c<32:=qft _ (by decide)
theorem zr8(t:LI){tb w:Nat}(htb:tb<8)(hw:w<4):Ok10 true (tab 3 fun c=>(solA t tb w c:Int)) [0,0,0] [(tb:Int),(tb:Int)] (q3l (w:Int)):=by
 refine⟨fun c hc=> ?_,fun i hi=> ?_,?_,?_⟩
 ·rw[q7w hc,iP rfl]
  have:=zku t tb w c
  refine⟨by omega,?_⟩
  have:=(T3.nil (a:=0) (z:=0) (by decide)).2 c
  omega
 ·rw[qdo _ hi]
  omega
 ·show 0≤(tb:Int)∧(tb:Int)≤7
  omega
 ·show 0≤(tb:Int)∧(tb:Int)≤7
  omega
section
variable {k:Nat} (hk:Fmt k) {t:LI} (tl:t.length=64) (tr:Rg 255 t) {ah:LI} (ha:Ahd k ah)
include hk tl tr ha
theorem zr9{c:Nat}{u:Int}(hu:0≤u∧u≤255)(i:Nat):0≤sumN (fun i=>(t.getD (i*4+c) 0-u)*(t.getD (i*4+c) 0-u)) i∧sumN (fun i=>(t.getD (i*4+c) 0-u)*(t.getD (i*4+c) 0-u)) i≤255*255*i:=
 qa4 (m:=255*255) fun j _=>qf3 (m:=255) (by have:=tr (j*4+c);omega)
theorem zkv(v:Nat){m:Int}(hm: -183≤m∧m≤183)(b:LI)(n:Int){c:Nat}(hc:c<4):q2f 600 (v:Int) m ah b (k:Int) t n (c:Int)=some (sqS t c (q0w (q0s 5 (v:Int)+m)),()):=by
 have hw:=q1t (b:=5) (by decide) (v:Int)
 have hu:=q0y (q0s 5 (v:Int)+m)
 obtain⟨r,rfl,e⟩:=q0f (N:=16) (by decide) (fun q (s:Int) i=>q18 600 q (c:Int) (q0w (q0s 5 (v:Int)+m)) s t i) (fun i s=>s=sumN (fun i=>(t.getD (i*4+c) 0-q0w (q0s 5 (v:Int)+m))*(t.getD (i*4+c) 0-q0w (q0s 5 (v:Int)+m))) i) (fun r=>r=(sqS t c (q0w (q0s 5 (v:Int)+m)),()))
  (fun q i s hi hs=>by
   subst hs
   have h3:(i:Int)<16:=by omega
   have h4:(c:Int)<4:=by omega
   have hx:=tr (i*4+c)
   have b1:=zr9 hk tl tr ha (c:=c) hu i
   have b2:=qf3 (x:=t.getD (i*4+c) 0-q0w (q0s 5 (v:Int)+m)) (m:=255) (by omega)
   refine⟨_,rfl,?_⟩
   show q3e 600 (q18 600 q) _ _ _ _ _=_
   unfold q3e
   simp only[h3,h4,dT,cT,yc,yd,yb,z1s tl hi hc,q0d (show i<1000000000000 by omega),qmk]
   rw[w64 (x:=t.getD (i*4+c) 0-q0w (q0s 5 (v:Int)+m)) (by omega) (by omega),w64 (x:=(t.getD (i*4+c) 0-q0w (q0s 5 (v:Int)+m))*(t.getD (i*4+c) 0-q0w (q0s 5 (v:Int)+m))) (by omega) (by omega),w64 (by omega) (by omega)])
  (fun q s hs=>⟨_,rfl,by subst hs;rfl⟩) (s:=0) rfl
 unfold q2f
 have hW:=ql2 (F:=600) (by decide) (b:=5) (by decide) (v:Int)
 rw[show((5:Nat):Int)=5 from rfl]at hW
 rw[hW]
 simp only[y5,qa2]
 rw[w64 (x:=q0s 5 (v:Int)+m) (by omega) (by omega),e]
 rfl
theorem zg9{m:Int}(hm: -183≤m∧m≤183)(b:LI)(n:Int){c:Nat}(hc:c<4):q29 600 32 m ah b (k:Int) t n (c:Int)=some ((q35 (fun v=>sqS t c (q0w (q0s 5 (v:Int)+m))) 32:Int),()):=by
 have e:=z93 (N:=32) (by decide) (g:=fun x=>q2f 600 x m ah b (k:Int) t n (c:Int)) (L:=fun q y x=>q0r 600 q 32 m ah b (k:Int) t n (c:Int) y x) (fun i hi=>zkv hk tl tr ha i hm b n hc) (fun q y x=>rfl)
 unfold q29
 rw[e]
 rfl
theorem zkw(b:LI)(n:Int)(x5:Int)(w:Nat)(x7:Int)(A B T:LI)(x12:Int)(x13:LI)(x14:Int):q1e 600 600 ah b (k:Int) t n x5 (w:Int) x7 A B T q01 x12 x13 x14 0=some (ah,b,(k:Int),t,n,x5,x7,A,B,T,q3l (w:Int),x12,x13,x14,()):=by
 obtain⟨r,rfl,e⟩:=q0f (N:=16) (by decide) (fun q (s:LI) i=>q1e 600 q ah b (k:Int) t n x5 (w:Int) x7 A B T s x12 x13 x14 i) (fun i s=>s=tab 16 (upT i fun _=>(w:Int))) (fun r=>r=(ah,b,(k:Int),t,n,x5,x7,A,B,T,q3l (w:Int),x12,x13,x14,()))
  (fun q i s hi hs=>by
   subst hs
   have h3:(i:Int)<16:=by omega
   have e1:(tab 16 (upT i fun _=>(w:Int))).set i (w:Int)=tab 16 (upT (i+1) fun _=>(w:Int)):=zf2 (fun _=>(w:Int))
   refine⟨_,rfl,?_⟩
   show q4j 600 (q1e 600 q) _ _ _ _ _ _ _ _ _ _ _ _ _ _ _ _=_
   unfold q4j
   simp only[h3,dT,cT,yc,yd,yb,e1,q0d (show i<1000000000000 by omega)])
  (fun q s hs=>⟨_,rfl,by subst hs;rw[zf3];rfl⟩) (s:=q01) (by rw[z4b];rfl)
 exact e
theorem zkx(b:LI)(n:Int)(x5:Int)(tb w:Nat)(B T W:LI)(x11:Int)(x12:LI)(x13:Int):q1f 600 600 ah b (k:Int) t n x5 ((qdi tb).getD w 0) [0,0,0] B T W x11 x12 x13 0=some (ah,b,(k:Int),t,n,x5,tab 3 fun c=>(solA t tb w c:Int),B,T,W,x11,x12,x13,()):=by
 obtain⟨r,rfl,e⟩:=q0f (N:=3) (by decide) (fun q (s:LI) i=>q1f 600 q ah b (k:Int) t n x5 ((qdi tb).getD w 0) s B T W x11 x12 x13 i) (fun i s=>s=tab 3 (upT i fun c=>(solA t tb w c:Int))) (fun r=>r=(ah,b,(k:Int),t,n,x5,tab 3 fun c=>(solA t tb w c:Int),B,T,W,x11,x12,x13,()))
  (fun q i s hi hs=>by
   subst hs
   have h3:(i:Int)<3:=by omega
   have e0:=zg9 hk tl tr ha (qwq tb w) b n (c:=i) (by omega)
   have e1:(tab 3 (upT i fun c=>(solA t tb w c:Int))).set i (solA t tb w i:Int)=tab 3 (upT (i+1) fun c=>(solA t tb w c:Int)):=zf2 (fun c=>(solA t tb w c:Int))
   have e2:(q35 (fun v=>sqS t i (q0w (q0s 5 (v:Int)+(qdi tb).getD w 0))) 32:Int)=(solA t tb w i:Int):=rfl
   refine⟨_,rfl,?_⟩
   show q4k 600 (q1f 600 q) _ _ _ _ _ _ _ _ _ _ _ _ _ _ _=_
   unfold q4k
   rw[e0,e2]
   simp only[h3,dT,cT,yc,yd,yb,e1,y5,q0d (show i<1000000000000 by omega)])
  (fun q s hs=>⟨_,rfl,by subst hs;rw[zf3];rfl⟩) (s:=[0,0,0]) (by rw[z4b];rfl)
 exact e
theorem zky{b:LI}{n:Int}(hI:Inv k t b n){tb:Nat}(htb:tb<8):∃b' n',q1g 600 600 ah b (k:Int) t n (tb:Int) (tb:Int) (qdi tb) 0=some (ah,b',(k:Int),t,n',(tb:Int),())∧Inv k t b' n' ∧n' ≤n∧∀w,w<4→n' ≤q9h k (ah++solB t tb w) t:=by
 obtain⟨r,⟨b',n',g1,g2,g3,rfl⟩,e⟩:=q0f (N:=4) (by decide) (fun q (s:LI×Int) i=>q1g 600 q ah s.1 (k:Int) t s.2 (tb:Int) (tb:Int) (qdi tb) i)
  (fun i s=>Inv k t s.1 s.2∧s.2≤n∧∀w,w<i→s.2≤q9h k (ah++solB t tb w) t)
  (fun r=>∃b' n',Inv k t b' n' ∧n' ≤n∧(∀w,w<4→n' ≤q9h k (ah++solB t tb w) t)∧r=(ah,b',(k:Int),t,n',(tb:Int),()))
  (fun q w s hw hs=>by
   have h3:(w:Int)<4:=by omega
   have hok:=zr8 t htb hw
   have e4:=zkw hk tl tr ha s.1 s.2 (tb:Int) w ((qdi tb).getD w 0) [0,0,0] [0,0,0] [(tb:Int),(tb:Int)] (tb:Int) (qdi tb) (w:Int)
   have e6:=zkx hk tl tr ha s.1 s.2 (tb:Int) tb w [0,0,0] [(tb:Int),(tb:Int)] (q3l (w:Int)) (tb:Int) (qdi tb) (w:Int)
   have j:=z8i (F:=600) (by decide) true false (A:=tab 3 fun c=>(solA t tb w c:Int)) (B:=[0,0,0]) (T:=[(tb:Int),(tb:Int)]) (W:=q3l (w:Int))
    (Rg.i64 (m:=31) (qdn (by decide) fun c _=>by have:=zku t tb w c;omega) (by decide))
    (Rg.i64 (m:=0) (T3.nil (by decide)).2 (by decide))
    (Rg.i64 (m:=7) (q2j (by omega) (q2j (by omega) (qtf (by decide)))) (by decide))
    (Rg.i64 (m:=3) (qdn (by decide) fun c _=>by omega) (by decide))
   rw[iP hok]at j
   obtain⟨b',n',e1,g1,g2,g3⟩:=qz2 hk tl tr ha s.1 s.2 hs.1 (zcj true false (tab 3 fun c=>(solA t tb w c:Int)) [0,0,0] [(tb:Int),(tb:Int)] (q3l (w:Int)))
   refine⟨(b',n'),⟨g1,by show n' ≤n;have:=hs.2.1;omega,fun w' hw' => ?_⟩,?_⟩
   ·show n' ≤_
    by_cases he:w' =w
    ·subst he
     exact g3
    ·have:=hs.2.2 w' (by omega)
     omega
   ·show q4l 600 (q1g 600 q) _ _ _ _ _ _ _ _ _=_
    unfold q4l
    simp only[h3,dT,cT,yc,yd,yb,e4,y5,e6,j,e1,q0d (show w<1000000000000 by omega)])
  (fun q s hs=>⟨_,⟨s.1,s.2,hs.1,hs.2.1,hs.2.2,rfl⟩,rfl⟩) (s:=(b,n)) ⟨hI,Int.le_refl _,fun w h=>absurd h (by omega)⟩
 exact⟨b',n',e,g1,g2,g3⟩
theorem solid_is{b:LI}{n:Int}(hI:Inv k t b n):∃b' n',q3i 600 ah b (k:Int) t n=some ((k:Int),t,ah,b',n',())∧Inv k t b' n' ∧n' ≤n∧∀tb w,tb<8→w<4→n' ≤q9h k (ah++solB t tb w) t:=by
 obtain⟨r,⟨b',n',g1,g2,g3,rfl⟩,e⟩:=q0f (N:=8) (by decide) (fun q (s:LI×Int) i=>q2g 600 q ah s.1 (k:Int) t s.2 i)
  (fun i s=>Inv k t s.1 s.2∧s.2≤n∧∀tb w,tb<i→w<4→s.2≤q9h k (ah++solB t tb w) t)
  (fun r=>∃b' n',Inv k t b' n' ∧n' ≤n∧(∀tb w,tb<8→w<4→n' ≤q9h k (ah++solB t tb w) t)∧r=(ah,b',(k:Int),t,n',()))
  (fun q tb s htb hs=>by
   have h3:(tb:Int)<8:=by omega
   obtain⟨b',n',e1,g1,g2,g3⟩:=zky hk tl tr ha hs.1 htb
   have h8:((tb:Int)%8).toNat=tb:=by omega
   refine⟨(b',n'),⟨g1,by show n' ≤n;have:=hs.2.1;omega,fun tb' w hw' hw=> ?_⟩,?_⟩
   ·show n' ≤_
    by_cases he:tb' =tb
    ·subst he
     exact g3 w hw
    ·have:=hs.2.2 tb' w (by omega) hw
     omega
   ·show q4m 600 (q2g 600 q) _ _ _ _ _ _=_
    unfold q4m
    rw[z0j,h8]
    simp only[h3,dT,cT,y5,e1,q0d (show tb<1000000000000 by omega)])
  (fun q s hs=>⟨_,⟨s.1,s.2,hs.1,hs.2.1,hs.2.2,rfl⟩,rfl⟩) (s:=(b,n)) ⟨hI,Int.le_refl _,fun tb w h=>absurd h (by omega)⟩
 refine⟨b',n',?_,g1,g2,g3⟩
 unfold q3i
 rw[e]
 rfl
def nineOk(l:LI):Prop:=l.length=9∧∀j,0≤l.getD j 0∧l.getD j 0<if j%3=1 then 128 else 64
end
theorem nineOk.parts{l:LI}(h:nineOk l):ok3 (l.take 3)∧ok3 ((l.drop 3).take 3)∧ok3 ((l.drop 6).take 3)∧(l.take 3).length=3∧((l.drop 3).take 3).length=3∧((l.drop 6).take 3).length=3∧∀i,I64 ((l.take 3++((l.drop 3).take 3++(l.drop 6).take 3)).getD i 0):=by
 obtain⟨hl,hr⟩:=h
 match l,hl with
 |[a0,a1,a2,a3,a4,a5,a6,a7,a8],_=>
  have r0:=hr 0
  have r1:=hr 1
  have r2:=hr 2
  have r3:=hr 3
  have r4:=hr 4
  have r5:=hr 5
  have r6:=hr 6
  have r7:=hr 7
  have r8:=hr 8
  refine⟨⟨r0,r1,r2⟩,⟨r3,r4,r5⟩,⟨r6,r7,r8⟩,rfl,rfl,rfl,fun i=> ?_⟩
  show I64 ([a0,a1,a2,a3,a4,a5,a6,a7,a8].getD i 0)
  have:=hr i
  unfold I64
  split at this<;>omega
section
variable {k:Nat} (hk:Fmt k) {t:LI} (tl:t.length=64) (tr:Rg 255 t) {ah:LI} (ha:Ahd k ah)
include hk tl tr ha
theorem zj4(b:LI)(n:Int){c:Nat}(hc:c<3){e:Nat}(he:e=if c=1 then 7 else 6)(x9:LI)(x10:Int){l:LI}(hl:nineOk l):∃l',nineOk l' ∧q10 600 600 ah b (k:Int) t n l (c:Int) (e:Int) (t.getD c 0) x9 x10 [0,3,12] 0=some (ah,b,(k:Int),t,n,l',x9,x10,()):=by
 obtain⟨r,⟨l',g1,rfl⟩,e1⟩:=q0f (N:=3) (by decide) (fun q (s:LI) i=>q10 600 q ah b (k:Int) t n s (c:Int) (e:Int) (t.getD c 0) x9 x10 [0,3,12] i) (fun i s=>nineOk s)
  (fun r=>∃l',nineOk l' ∧r=(ah,b,(k:Int),t,n,l',x9,x10,()))
  (fun q i s hi hs=>by
   have h3:(i:Int)<3:=by omega
   have hc3:(c:Int)<3:=by omega
   have hc4:(c:Int)<4:=by omega
   obtain⟨p,hp,hp'⟩:∃p:Nat,([0,3,12]:LI).getD i 0=(p:Int)∧p<16:=by
    match i,hi with
    |0,_=>exact⟨0,rfl,by decide⟩
    |1,_=>exact⟨3,rfl,by decide⟩
    |2,_=>exact⟨12,rfl,by decide⟩
   have hp16:(p:Int)<16:=by omega
   have hb:1≤e∧e≤8:=by rw[he];split<;>omega
   obtain⟨v,hv⟩:∃v,v=y0 .i64 (t.getD c 0+y0 .i64 (yw (y0 .i64 (y0 .i64 (t.getD (p*4+c) 0-t.getD c 0)*4)) 3)):=⟨_,rfl⟩
   have hcl:=q0y v
   obtain⟨m,hm,em⟩:=z95 hb (v:=q0w v) (by omega)
   refine⟨s.set (i*3+c) (m:Int),⟨by rw[List.length_set];exact hs.1,fun j=> ?_⟩,?_⟩
   ·rw[qez _ _ _ _ (by rw[hs.1];omega)]
    have hj:=hs.2 j
    by_cases hij:i*3+c=j
    ·rw[iP hij]
     have hjc:j%3=c:=by omega
     have h2:(2:Nat)^e=if j%3=1 then 128 else 64:=by
      rw[he,hjc]
      split<;>rfl
     rw[h2]at hm
     split at hm
     ·rename_i h1
      rw[iP h1]
      omega
     ·rename_i h1
      rw[iN h1]
      omega
    ·rw[iN hij]
     exact hj
   ·show q45 600 (q10 600 q) _ _ _ _ _ _ _ _ _ _ _ _ _=_
    unfold q45
    simp only[h3,hc3,hc4,hp,hp16,dT,cT,yc,yd,yb,qa2,y5,←hv,em,q0d (show i<1000000000000 by omega)])
  (fun q s hs=>⟨_,⟨s,hs,rfl⟩,rfl⟩) (s:=l) hl
 exact⟨l',g1,e1⟩
theorem zkz{b:LI}{n:Int}(hI:Inv k t b n):Stp k t ah n (q39 600 ah b (k:Int) t n):=by
 unfold q39
 cases h7:((k:Int)==7)with
 |true=>
  simp only[cT]
  exact Stp.refl hk tl tr hI
 |false=>
  simp only[cF]
  obtain⟨r,⟨l,g1,rfl⟩,e⟩:=q0f (N:=3) (by decide) (fun q (s:LI) i=>q1z 600 q ah b (k:Int) t n s [6,7,6] i) (fun i s=>nineOk s)
   (fun r=>∃l',nineOk l' ∧r=(ah,b,(k:Int),t,n,l',()))
   (fun q c s hc hs=>by
    have h3:(c:Int)<3:=by omega
    have h4:(c:Int)<4:=by omega
    obtain⟨e,he,he'⟩:∃e:Nat,([6,7,6]:LI).getD c 0=(e:Int)∧e=if c=1 then 7 else 6:=by
     match c,hc with
     |0,_=>exact⟨6,rfl,rfl⟩
     |1,_=>exact⟨7,rfl,rfl⟩
     |2,_=>exact⟨6,rfl,rfl⟩
    obtain⟨l',hl',e1⟩:=zj4 hk tl tr ha b n hc he' [6,7,6] (c:Int) hs
    refine⟨l',hl',?_⟩
    show q46 600 (q1z 600 q) _ _ _ _ _ _ _ _=_
    unfold q46
    simp only[h3,h4,dT,cT,yc,yd,yb,he,e1,y5,q0d (show c<1000000000000 by omega)])
   (fun q s hs=>⟨_,⟨s,hs,rfl⟩,rfl⟩) (s:=q55) ⟨rfl,fun j=>by
    have h0:q55=tab 9 fun _=>0:=rfl
    rw[h0]
    by_cases hj:j<9
    ·rw[q7w hj]
     split<;>decide
    ·rw[zqh (by rw[q26];omega)]
     split<;>decide⟩
  obtain⟨o1,o2,o3,q1,q2,q3,q4⟩:=g1.parts
  have la:=(lay_is q1 q2 q3 q4).1
  rw[iP ⟨o1,o2,o3⟩]at la
  obtain⟨b',n',e1,i1,i2,_⟩:=qz2 hk tl tr ha b n hI (zfe (l.take 3) ((l.drop 3).take 3) ((l.drop 6).take 3))
  rw[e]
  simp only[y5]
  rw[la]
  simp only[y5,e1]
  exact⟨b',n',rfl,i1,i2⟩
end
theorem Ahd.nil{k:Nat}(h:q3k k=8):Ahd k []:=⟨fun x hx=>absurd hx List.not_mem_nil,by rw[h];rfl⟩
theorem zo2{t:LI}{less:Int}{best:LI}(h:LineB true (scT 11 t) 0 less best):q9h 11 best t=less:=by
 rw[h.tells]
 have ob:=h.okb
 unfold q9h errS
 rw[show 64=16*4 from rfl,zix]
 refine qu6 fun i hi=> ?_
 unfold errT
 rw[show(i*4+0)%4=0 by omega,show(i*4+1)%4=1 by omega,show(i*4+2)%4=2 by omega,show(i*4+3)%4=3 by omega]
 rw[show bitM (qkc 11) 0=true from rfl,show bitM (qkc 11) 1=false from rfl,show bitM (qkc 11) 2=false from rfl,show bitM (qkc 11) 3=false from rfl,iP rfl,iN (by decide),iN (by decide),iN (by decide)]
 have hd:(qtg 11 best).getD (i*4+0) 0=(eacL best true).getD i 0:=by
  show(wT 0 (eacL (lo13 best) true) (qmh 2047)).getD (i*4+0) 0=_
  unfold wT
  rw[q7w (by omega),iP (by omega),lo13_8 ob.2,show(i*4+0)/4=i by omega]
 rw[hd]
 have hz:∀x:Int,x+0+0+0=x:=fun x=>by omega
 rw[hz]
 rw[show(scT 11 t).getD (i*4+0) 0-(eacL best true).getD i 0= -((eacL best true).getD i 0-(scT 11 t).getD (i*4+0) 0) by omega,Int.neg_mul_neg]
theorem zo3{t:LI}(hl:t.length=64)(ht:Rg 255 t):qlj 600 t=some (true,()):=by
 have l2:∀i:Nat,i<16→q7i 600 600 t (i:Int) (y8 4 (y9 (i*4) t)) 0=some (.inr (t,(i:Int),())):=fun i hi=>by
  obtain⟨r,rfl,e⟩:=q0f (N:=4) (by decide) (fun q (_:Unit) c=>q7i 600 q t (i:Int) (y8 4 (y9 (i*4) t)) c) (fun _ _=>True) (fun r=>r= .inr (t,(i:Int),()))
   (fun q c s hc hs=>by
    have h4:(c:Int)<4:=by omega
    have hr:=ht (i*4+c)
    refine⟨(),trivial,?_⟩
    show qep 600 (q7i 600 q) _ _ _ _=_
    unfold qep
    simp only[h4,dT,cT,yc,yd,yb,z1s hl hi hc,q0d (show c<1000000000000 by omega),show¬t.getD (i*4+c) 0<0 by omega,show¬255<t.getD (i*4+c) 0 by omega,dF,cF])
   (fun q s hs=>⟨_,rfl,rfl⟩) (s:=()) trivial
  exact e
 obtain⟨r,rfl,e⟩:=q0f (N:=16) (by decide) (fun q (_:Unit) i=>q9r 600 q t i) (fun _ _=>True) (fun r=>r= .inr ())
  (fun q i s hi hs=>by
   have h3:(i:Int)<16:=by omega
   refine⟨(),trivial,?_⟩
   show qeq 600 (q9r 600 q) _ _=_
   unfold qeq
   simp only[h3,dT,cT,yc,yd,yb,l2 i hi,y5,q0d (show i<1000000000000 by omega)])
  (fun q s hs=>⟨_,rfl,rfl⟩) (s:=()) trivial
 unfold qlj
 rw[e]
 rfl
def Rnd(k:Nat)(t x3 b:LI)(n i:Int)(x3' b' :LI)(n' :Int):Prop:=
 ∀q (e:Int),i≤e→q11 600 (q+1) (k:Int) e t x3 b (k:Int) t n (scT k t) i=q11 600 q (k:Int) e t x3' b' (k:Int) t n' (scT k t) (y0 .i64 (i+1))
section
variable {t:LI} (tl:t.length=64) (tr:Rg 255 t)
include tl tr
theorem zmg{k:Nat}(hk:Fmt k){ah:LI}(ha:Ahd k ah){b:LI}{n:Int}(hI:Inv k t b n):∃b1 n1 b2 n2 b3 n3,q19 600 ah b (k:Int) t n=some ((k:Int),t,ah,b1,n1,())∧
  q3i 600 ah b1 (k:Int) t n1=some ((k:Int),t,ah,b2,n2,())∧q39 600 ah b2 (k:Int) t n2=some ((k:Int),t,ah,b3,n3,())∧Inv k t b3 n3∧n3≤n∧∀tb w,tb<8→w<4→n3≤q9h k (ah++solB t tb w) t:=by
 obtain⟨b1,n1,e1,i1,l1⟩:=qx1 hk tl tr ha hI
 obtain⟨b2,n2,e2,i2,l2,g2⟩:=solid_is hk tl tr ha i1
 obtain⟨b3,n3,e3,i3,l3⟩:=zkz hk tl tr ha i2
 exact⟨b1,n1,b2,n2,b3,n3,e1,e2,e3,i3,by omega,fun tb w h1 h2=>by have:=g2 tb w h1 h2;omega⟩
theorem zra{k:Nat}(hk:Fmt k)(h8:q3k k=8)(h11:((k:Int)==11)=false)(h12:((k:Int)==12)=false)(h10:((k:Int)==10)=false){b:LI}{n:Int}(hI:Inv k t b n){i:Int}(hi:i=1∨i=2):
  ∃b' n',Rnd k t [] b n i [] b' n' ∧Inv k t b' n' ∧n' ≤n∧(i=2→∀tb w,tb<8→w<4→n' ≤q9h k (solB t tb w) t):=by
 rcases hi with rfl|rfl
 ·obtain⟨b',n',e,h1,h2⟩:=qx1 hk tl tr (Ahd.nil h8) hI
  refine⟨b',n',fun q e' he=> ?_,h1,h2,fun h=>absurd h (by decide)⟩
  show q0l 600 (q11 600 q) _ _ _ _ _ _ _ _ _ _=_
  unfold q0l
  simp only[he,dT,cT,h11,h12,h10,cF,show((1:Int)==2)=false from rfl,e,y5]
 ·obtain⟨b1,n1,b2,n2,b3,n3,e1,e2,e3,h1,h2,h3⟩:=zmg tl tr hk (Ahd.nil h8) hI
  refine⟨b3,n3,fun q e' he=> ?_,h1,h2,fun _ tb w g1 g2=>by have:=h3 tb w g1 g2;rwa [List.nil_append]at this⟩
  show q0l 600 (q11 600 q) _ _ _ _ _ _ _ _ _ _=_
  unfold q0l
  simp only[he,dT,cT,h11,h12,h10,cF,beq_self_eq_true,e1,e2,e3,y5]
theorem zmh{x3 b:LI}{n:Int}(hI:Inv 10 t b n){i:Int}(hi:i=1∨i=2):∃x3' b' n',Rnd 10 t x3 b n i x3' b' n' ∧Inv 10 t b' n' ∧n' ≤n:=by
 have hk:Fmt 10:=by unfold Fmt;omega
 obtain⟨less,best,mid,el,⟨_,hB⟩,_⟩:=zg1 tl (q4p tr (by decide)) (c:=3) (by decide) false (fun _=>tr) i
 have ha:Ahd 10 best:=⟨hB.okb.1,by rw[hB.okb.2];rfl⟩
 rw[show((3:Nat):Int)=3 from rfl]at el
 rcases hi with rfl|rfl
 ·obtain⟨b',n',e,h1,h2⟩:=qx1 hk tl tr ha hI
  refine⟨best,b',n',fun q e' he=> ?_,h1,h2⟩
  show q0l 600 (q11 600 q) _ _ _ _ _ _ _ _ _ _=_
  unfold q0l
  rw[show((10:Nat):Int)=10 from rfl]at e⊢
  simp only[he,dT,cT,show((10:Int)==11)=false from rfl,show((10:Int)==12)=false from rfl,beq_self_eq_true,cF,show((1:Int)==2)=false from rfl,el,e,y5]
 ·obtain⟨b1,n1,b2,n2,b3,n3,e1,e2,e3,h1,h2,h3⟩:=zmg tl tr hk ha hI
  refine⟨best,b3,n3,fun q e' he=> ?_,h1,h2⟩
  show q0l 600 (q11 600 q) _ _ _ _ _ _ _ _ _ _=_
  unfold q0l
  rw[show((10:Nat):Int)=10 from rfl]at e1 e2 e3⊢
  simp only[he,dT,cT,show((10:Int)==11)=false from rfl,show((10:Int)==12)=false from rfl,beq_self_eq_true,cF,el,e1,e2,e3,y5]
def Redd(t:LI)(n:Int):Prop:=∀s,(∀i,i<16→(scT 11 t).getD (i*4) 0=s)→∀table times:Nat,table<16→times<16→n≤sumL true (s/8) times (tblE table) (scT 11 t) 0
theorem zmi{x3 b:LI}{n:Int}(hI:Inv 11 t b n)(i:Int):∃b' n',Rnd 11 t x3 b n i x3 b' n' ∧Inv 11 t b' n' ∧n' ≤n∧Redd t n' :=by
 have hk:Fmt 11:=by unfold Fmt;omega
 obtain⟨less,best,mid,el,⟨_,hB⟩,hD,_,hm⟩:=zg1 (zfn (k:=11) tl) (q4p (z1r (k:=11) tr) (by decide)) (c:=0) (by decide) true (fun h=>by cases h) i
 obtain⟨b',n',e,h1,h2,h3⟩:=zkt hk tl tr x3 b n hI hB.okb
 rw[zo2 hB]at h3
 rw[show((0:Nat):Int)=0 from rfl]at el
 refine⟨b',n',fun q e' he=> ?_,h1,h2,fun s hs table times ht1 ht2=> ?_⟩
 ·show q0l 600 (q11 600 q) _ _ _ _ _ _ _ _ _ _=_
  unfold q0l
  rw[show((11:Nat):Int)=11 from rfl]at e⊢
  simp only[he,dT,cT,beq_self_eq_true,el,e,y5]
 ·have hmid:=hm s hs
  rw[iP rfl]at hmid
  subst hmid
  have:=(hD table times ht1 ht2).2
  omega
theorem zmj{x3 b:LI}{n:Int}(hI:Inv 12 t b n)(i:Int):∃b' n',Rnd 12 t x3 b n i x3 b' n' ∧Inv 12 t b' n' ∧n' ≤n:=by
 have hk:Fmt 12:=by unfold Fmt;omega
 obtain⟨less,best,mid,el,⟨_,hB⟩,_⟩:=zg1 (zfn (k:=12) tl) (q4p (z1r (k:=12) tr) (by decide)) (c:=0) (by decide) true (fun h=>by cases h) i
 obtain⟨less2,best2,mid2,el2,⟨_,hB2⟩,_⟩:=zg1 (zfn (k:=12) tl) (q4p (z1r (k:=12) tr) (by decide)) (c:=1) (by decide) true (fun h=>by cases h) i
 obtain⟨b',n',e,h1,h2,h3⟩:=zkt hk tl tr x3 b n hI (zkm hB.okb hB2.okb)
 rw[show((0:Nat):Int)=0 from rfl]at el
 rw[show((1:Nat):Int)=1 from rfl]at el2
 refine⟨b',n',fun q e' he=> ?_,h1,h2⟩
 show q0l 600 (q11 600 q) _ _ _ _ _ _ _ _ _ _=_
 unfold q0l
 rw[show((12:Nat):Int)=12 from rfl]at e⊢
 simp only[he,dT,cT,show((12:Int)==11)=false from rfl,cF,beq_self_eq_true,el,el2,y5,hB.okb.2,hB2.okb.2,show decide (8+8≤1099511627776)=true from by decide,yd,e]
theorem zrb{k:Nat}(hk:Fmt k){b:LI}{n:Int}(hI:Inv k t b n):∃x1 b1 n1 x2 b2 n2,Rnd k t [] b n 1 x1 b1 n1∧Rnd k t x1 b1 n1 2 x2 b2 n2∧Inv k t b1 n1∧Inv k t b2 n2∧n1≤n∧n2≤n1∧
  (k=7∨k=8→∀tb w,tb<8→w<4→n2≤q9h k (solB t tb w) t)∧(k=11→Redd t n1):=by
 have znf:∀{k:Nat},Fmt k→q3k k=8→((k:Int)==11)=false→((k:Int)==12)=false→((k:Int)==10)=false→∀{b:LI} {n:Int},Inv k t b n→∃x1 b1 n1 x2 b2 n2,Rnd k t [] b n 1 x1 b1 n1∧Rnd k t x1 b1 n1 2 x2 b2 n2∧Inv k t b1 n1∧Inv k t b2 n2∧n1≤n∧n2≤n1∧
   (k=7∨k=8→∀tb w,tb<8→w<4→n2≤q9h k (solB t tb w) t)∧(k=11→Redd t n1):=by
  intro k hk h8 h11 h12 h10 b n hI
  obtain⟨b1,n1,r1,i1,l1,_⟩:=zra tl tr hk h8 h11 h12 h10 hI (.inl rfl)
  obtain⟨b2,n2,r2,i2,l2,g2⟩:=zra tl tr hk h8 h11 h12 h10 i1 (.inr rfl)
  exact⟨[],b1,n1,[],b2,n2,r1,r2,i1,i2,l1,l2,fun _=>g2 rfl,fun h=>by subst h;cases h11⟩
 rcases show k=7∨k=8∨k=9∨k=10∨k=11∨k=12 by unfold Fmt at hk;omega with rfl|rfl|rfl|rfl|rfl|rfl
 ·exact znf hk rfl rfl rfl rfl hI
 ·exact znf hk rfl rfl rfl rfl hI
 ·exact znf hk rfl rfl rfl rfl hI
 ·obtain⟨x1,b1,n1,r1,i1,l1⟩:=zmh tl tr (x3:=[]) hI (.inl rfl)
  obtain⟨x2,b2,n2,r2,i2,l2⟩:=zmh tl tr (x3:=x1) i1 (.inr rfl)
  exact⟨x1,b1,n1,x2,b2,n2,r1,r2,i1,i2,l1,l2,fun h=>by omega,fun h=>by omega⟩
 ·obtain⟨b1,n1,r1,i1,l1,g1⟩:=zmi tl tr (x3:=[]) hI 1
  obtain⟨b2,n2,r2,i2,l2,g2⟩:=zmi tl tr (x3:=[]) i1 2
  exact⟨[],b1,n1,[],b2,n2,r1,r2,i1,i2,l1,l2,fun h=>by omega,fun _=>g1⟩
 ·obtain⟨b1,n1,r1,i1,l1⟩:=zmj tl tr (x3:=[]) hI 1
  obtain⟨b2,n2,r2,i2,l2⟩:=zmj tl tr (x3:=[]) i1 2
  exact⟨[],b1,n1,[],b2,n2,r1,r2,i1,i2,l1,l2,fun h=>by omega,fun h=>by omega⟩
theorem Fit_is{k:Nat}(hk:Fmt k):∃b1 n1 b2 n2,q20 600 (k:Int) t 0=some (qjg k (scT k t),q9h k (qjg k (scT k t)) t,0,())∧q20 600 (k:Int) t 1=some (b1,n1,0,())∧q20 600 (k:Int) t 2=some (b2,n2,0,())∧
  Inv k t b1 n1∧Inv k t b2 n2∧n1≤q9h k (qjg k (scT k t)) t∧n2≤n1∧(k=7∨k=8→∀tb w,tb<8→w<4→n2≤q9h k (solB t tb w) t)∧(k=11→Redd t n1):=by
 have hok:=zme (scT k t) hk
 obtain⟨x1,b1,n1,x2,b2,n2,r1,r2,i1,i2,l1,l2,g1,g2⟩:=zrb tl tr hk (b:=qjg k (scT k t)) (n:=q9h k (qjg k (scT k t)) t) ⟨hok,rfl⟩
 have h7:¬(k:Int)<7:=by unfold Fmt at hk;omega
 have h12:¬(12:Int)<(k:Int):=by unfold Fmt at hk;omega
 have e:∀a2:Int,0≤a2→a2≤2→q20 600 (k:Int) t a2=(q11 600 600 (k:Int) a2 t [] (qjg k (scT k t)) (k:Int) t (q9h k (qjg k (scT k t)) t) (scT k t) 1).bind fun r=>some (r.2.1,r.2.2.2.2.1,(0:Int),()):=by
  intro a2 h0 h2
  unfold q20
  rw[zny hk tl tr (zo3 tl tr)]
  simp only[qu8 hok.1 hk hok.2 tl tr,zfo hk tl tr,h7,h12,dF,cF,y5,bne_self_eq_false,show¬a2<0 by omega,show¬2<a2 by omega]
 have stop:∀q (a2 x:Int) x3 b n,a2<x→q11 600 (q+1) (k:Int) a2 t x3 b (k:Int) t n (scT k t) x=some (x3,b,(k:Int),t,n,()):=by
  intro q a2 x x3 b n h
  show q0l 600 (q11 600 q) _ _ _ _ _ _ _ _ _ _=_
  unfold q0l
  simp only[show¬x≤a2 by omega,dF,cF]
 refine⟨b1,n1,b2,n2,?_,?_,?_,i1,i2,l1,l2,g1,g2⟩
 ·rw[e 0 (by decide) (by decide),stop 599 0 1 _ _ _ (by decide)]
  rfl
 ·rw[e 1 (by decide) (by decide),r1 599 1 (by decide),show y0 .i64 (1+1)=2 from rfl,stop 598 1 2 _ _ _ (by decide)]
  rfl
 ·rw[e 2 (by decide) (by decide),r1 599 2 (by decide),show y0 .i64 (1+1)=2 from rfl,r2 598 2 (by decide),show y0 .i64 (2+1)=3 from rfl,stop 597 2 3 _ _ _ (by decide)]
  rfl
end
def q2p(A:LI)(tb w:Nat)(c:Nat):Int:=if c=3 then 255 else q0w (q0s 5 (A.getD c 0)+(qdi tb).getD w 0)
theorem zj5{A:LI}(hl:A.length=3){tb w:Nat}(htb:tb<8)(hw:w<4):qb9 true false A [0,0,0] [(tb:Int),(tb:Int)] (q3l (w:Int))=oneT (q2p A tb w):=by
 rw[qgi (qoc true false A [0,0,0] [(tb:Int),(tb:Int)] (q3l (w:Int)))]
 unfold oneT
 refine q0b fun j hj=> ?_
 rw[←zkd,show((qb9 true false A [0,0,0] [(tb:Int),(tb:Int)] (q3l (w:Int))).drop (j/4*4)).take 4=zbg (q1h true A [0,0,0]) [(tb:Int),(tb:Int)] (q3l (w:Int)) false (j/4)from qk9 _ (fun _ _=>rfl) (by omega)]
 have hh:=qme false ((j/4:Nat):Int)
 have hs:q2n false ((j/4:Nat):Int)=0∨q2n false ((j/4:Nat):Int)=1:=by omega
 have h8:((tb:Int)%8).toNat=tb:=by omega
 have h4:((w:Int)%4).toNat=w:=by omega
 have ha:zf9 [(tb:Int),(tb:Int)] (q3l (w:Int)) false (j/4)=(qdi tb).getD w 0:=by
  unfold zf9
  rw[qdo (w:Int) (by omega),h4]
  have ht:([(tb:Int),(tb:Int)]:LI).getD (q2n false ((j/4:Nat):Int)) 0=(tb:Int):=by
   rcases hs with h0|h0<;>rw[h0]<;>rfl
  rw[ht,h8]
 have hz:∀x:Int,x+0=x:=Int.add_zero
 unfold zbg q2p
 rw[ha]
 generalize (qdi tb).getD w 0=m
 have hc:j%4=0∨j%4=1∨j%4=2∨j%4=3:=by omega
 have b0:n10 true A [0,0,0] 0=A.getD 0 0:=hz _
 have b1:n10 true A [0,0,0] 1=A.getD 1 0:=hz _
 have b2:n10 true A [0,0,0] 2=A.getD 2 0:=hz _
 unfold q1h
 rw[b0,b1,b2]
 rcases hs with h0|h0<;>rcases hc with h5|h5|h5|h5<;>rw[h5,h0]<;>rfl
theorem qbb(A:LI)(tb w c:Nat):0≤q2p A tb w c∧q2p A tb w c≤255:=by
 unfold q2p
 split
 ·decide
 ·exact q0y _
theorem solB_dec(t:LI){tb w:Nat}(htb:tb<8)(hw:w<4):z8g (solB t tb w)=oneT (q2p (tab 3 fun c=>(solA t tb w c:Int)) tb w)∧tab 64 (qdq (solB t tb w) false)=oneT (q2p (tab 3 fun c=>(solA t tb w c:Int)) tb w):=by
 have h:=zpv (f:=false) (zr8 t htb hw) (q26 _ _) rfl rfl (qz0 _)
 have e:z8g (solB t tb w)=qb9 true false (tab 3 fun c=>(solA t tb w c:Int)) [0,0,0] [(tb:Int),(tb:Int)] (q3l (w:Int)):=by
  unfold eP at h
  simp only[ym]at h
  obtain⟨h1,h2,h3,h4,h5,h6,_⟩:=h
  unfold z8g solB
  rw[h5,h6,h3,h4,h1,h2]
 rw[zj5 (q26 _ _) htb hw]at e
 refine⟨e,?_⟩
 rw[←e]
 refine dec_old ?_
 unfold eP at h
 simp only[ym]at h
 obtain⟨h1,h2,h3,h4,h5,h6,_⟩:=h
 unfold solB
 rw[h3,h4,h1]
 have hc:∀c,c<3→¬qac (tab 3 fun c=>(solA t tb w c:Int)) [0,0,0] c:=fun c hc=>by
  have h0:([0,0,0]:LI).getD c 0=0:=by
   have:=(T3.nil (a:=0) (z:=0) (by decide)).2 c
   omega
  have:=zku t tb w c
  unfold qac n10
  rw[iP rfl,q7w hc,h0]
  omega
 unfold qjf
 rw[iP rfl,iN (hc 0 (by decide)),iN (hc 1 (by decide)),iN (hc 2 (by decide))]
theorem zrc{A:LI}(hA:∀c,c<3→0≤A.getD c 0∧A.getD c 0≤31){tb w:Nat}(htb:tb<8)(hw:w<4){k:Nat}(hk:k=7∨k=8):q9h k (solB (oneT (q2p A tb w)) tb w) (oneT (q2p A tb w))=0:=by
 have hrt:Rg 255 (oneT (q2p A tb w)):=z0p (by decide) fun c _=>qbb A tb w c
 have hru:Rg 255 (oneT (q2p (tab 3 fun c=>(solA (oneT (q2p A tb w)) tb w c:Int)) tb w)):=z0p (by decide) fun c _=>qbb _ tb w c
 have hd:=solB_dec (oneT (q2p A tb w)) htb hw
 have key:errS 7 (oneT (q2p A tb w)) (oneT (q2p (tab 3 fun c=>(solA (oneT (q2p A tb w)) tb w c:Int)) tb w))=0:=by
  rw[zio (q4p hrt (by decide)) (q4p hru (by decide))]
  intro j hj hb
  rw[qoe _ hj,qoe _ hj]
  have hc:j%4<3:=by
   by_cases h3:j%4=3
   ·rw[h3]at hb
    cases hb
   ·omega
  generalize j%4=c at hc
  have hz:sqS (oneT (q2p A tb w)) c (q2p A tb w c)=0:=by
   unfold sqS
   rw[qyx fun i _=>sqN _]
   intro i hi
   rw[qoe _ (by omega),show(i*4+c)%4=c by omega,Int.sub_self]
   rfl
  have hl:=z8v (fun v=>sqS (oneT (q2p A tb w)) c (q0w (q0s 5 (v:Int)+(qdi tb).getD w 0))) (n:=32) (i:=(A.getD c 0).toNat) (by have:=hA c hc;omega)
  have e1:q0w (q0s 5 (((A.getD c 0).toNat:Nat):Int)+(qdi tb).getD w 0)=q2p A tb w c:=by
   unfold q2p
   rw[iN (by omega),Int.toNat_of_nonneg (hA c hc).1]
  simp only[e1,hz]at hl
  have e2:q2p (tab 3 fun c=>(solA (oneT (q2p A tb w)) tb w c:Int)) tb w c=q0w (q0s 5 (solA (oneT (q2p A tb w)) tb w c:Int)+(qdi tb).getD w 0):=by
   unfold q2p
   rw[iN (by omega),q7w hc]
  have hn:0≤sqS (oneT (q2p A tb w)) c (q2p (tab 3 fun c=>(solA (oneT (q2p A tb w)) tb w c:Int)) tb w c):=(qa4 (m:=255*255) fun i _=>qf3 (m:=255) (by
   have h1:=hrt (i*4+c)
   have h2:=qbb (tab 3 fun c=>(solA (oneT (q2p A tb w)) tb w c:Int)) tb w c
   omega)).1
  rw[e2]at hn⊢
  have h0:sqS (oneT (q2p A tb w)) c (q0w (q0s 5 (solA (oneT (q2p A tb w)) tb w c:Int)+(qdi tb).getD w 0))=0:=Int.le_antisymm hl hn
  unfold sqS at h0
  rw[qyx fun i _=>sqN _]at h0
  have h1:=sq_zero.1 (h0 0 (by decide))
  rw[qoe _ (by omega),show(0*4+c)%4=c by omega]at h1
  omega
 rcases hk with rfl|rfl
 ·show errS 7 (oneT (q2p A tb w)) (z8g _)=0
  rw[hd.1]
  exact key
 ·show errS 7 (oneT (q2p A tb w)) (tab 64 (qdq _ false))=0
  rw[hd.2]
  exact key
theorem z96(w:Int)(A B T:LI):q7k 600 600 w q3h A B T q01 0=some (q3h,A,B,T,q3l w,()):=by
 obtain⟨r,rfl,e⟩:=q0f (N:=16) (by decide) (fun q (s:LI) i=>q7k 600 q w q3h A B T s i) (fun i s=>s=tab 16 (upT i fun _=>w)) (fun r=>r=(q3h,A,B,T,q3l w,()))
  (fun q i s hi hs=>by
   subst hs
   have h3:(i:Int)<16:=by omega
   have e1:(tab 16 (upT i fun _=>w)).set i w=tab 16 (upT (i+1) fun _=>w):=zf2 (fun _=>w)
   refine⟨_,rfl,?_⟩
   show qet 600 (q7k 600 q) _ _ _ _ _ _ _=_
   unfold qet
   simp only[h3,dT,cT,yc,yd,yb,e1,q0d (show i<1000000000000 by omega)])
  (fun q s hs=>⟨_,rfl,by subst hs;rw[zf3];rfl⟩) (s:=q01) (by rw[z4b];rfl)
 exact e
theorem zrd{A:LI}(hl:A.length=3){tb w:Nat}(htb:tb<8)(hw:w<4)(hA:∀c,c<3→0≤A.getD c 0∧A.getD c 0≤31):q8e 600 A (tb:Int) (w:Int)=some (oneT (q2p A tb w),true,()):=by
 have hok:Ok10 true A [0,0,0] [(tb:Int),(tb:Int)] (q3l (w:Int)):=by
  refine⟨fun c hc=> ?_,fun i hi=> ?_,?_,?_⟩
  ·rw[iP rfl]
   have:=(T3.nil (a:=0) (z:=0) (by decide)).2 c
   exact⟨hA c hc,by omega⟩
  ·rw[qdo _ hi]
   omega
  ·show 0≤(tb:Int)∧(tb:Int)≤7
   omega
  ·show 0≤(tb:Int)∧(tb:Int)≤7
   omega
 unfold q8e
 rw[z96]
 simp only[y5]
 rw[zm4 (by decide)]
 simp only[y5,hok,dT,Bool.not_true,cF]
 rw[qws (by decide) true false (hok.fair hl rfl) (hok.which (qz0 _)),zj5 hl htb hw]
 rfl
theorem zo4{A:LI}(hl:A.length=3)(n w:Int):q8e 600 A n w=some (q3h,false,())∨
  ∃tb wh:Nat,n=(tb:Int)∧w=(wh:Int)∧tb<8∧wh<4∧(∀c,c<3→0≤A.getD c 0∧A.getD c 0≤31)∧q8e 600 A n w=some (oneT (q2p A tb wh),true,()):=by
 by_cases hok:Ok10 true A [0,0,0] [n,n] (q3l w)
 ·right
  have h123:=hok
  obtain⟨h1,h2,h3,_⟩:=h123
  have hw:=h2 0 (by decide)
  rw[qdo _ (by decide)]at hw
  have hn:0≤n∧n≤7:=h3
  obtain⟨tb,rfl⟩:∃tb:Nat,n=(tb:Int):=⟨n.toNat,by omega⟩
  obtain⟨wh,rfl⟩:∃wh:Nat,w=(wh:Int):=⟨w.toNat,by omega⟩
  have hA:∀c,c<3→0≤A.getD c 0∧A.getD c 0≤31:=fun c hc=>by
   have:=h1 c hc
   rw[iP rfl]at this
   exact this.1
  exact⟨tb,wh,rfl,rfl,by omega,by omega,hA,zrd hl (by omega) (by omega) hA⟩
 ·left
  unfold q8e
  rw[z96]
  simp only[y5]
  rw[zm4 (by decide)]
  simp only[y5,hok,dF,Bool.not_false,cT]
theorem zmk{A:LI}(hA:∀c,c<3→0≤A.getD c 0∧A.getD c 0≤31){tb w:Nat}(htb:tb<8)(hw:w<4){k:Nat}(hk:k=7∨k=8):∃b,q20 600 (k:Int) (oneT (q2p A tb w)) 2=some (b,0,0,())∧Okb 8 b∧q9h k b (oneT (q2p A tb w))=0:=by
 have hkf:Fmt k:=by unfold Fmt;omega
 have hrt:Rg 255 (oneT (q2p A tb w)):=z0p (by decide) fun c _=>qbb A tb w c
 obtain⟨b1,n1,b2,n2,_,_,e,_,i2,_,_,g,_⟩:=Fit_is (t:=oneT (q2p A tb w)) (q26 _ _) hrt hkf
 have h1:=g hk tb w htb hw
 rw[zrc hA htb hw hk]at h1
 have h2:=z1t hkf i2.1.1 hrt
 have h3:=i2.2
 have h0:n2=0:=by omega
 rw[h0]at e
 exact⟨b2,e,by rcases hk with rfl|rfl<;>exact i2.1,by omega⟩
theorem zl0:((yz 32).all fun v=>q0w (q0s 5 (v:Int)+2) !=q2p [10,20,5] 3 2 0)=true:=by kernel_rfl
theorem zl1:0<q9h 7 (qjg 7 (scT 7 (oneT (q2p [10,20,5] 3 2)))) (oneT (q2p [10,20,5] 3 2)):=by
 have hk:Fmt 7:=by unfold Fmt;omega
 have hrt:Rg 255 (oneT (q2p [10,20,5] 3 2)):=z0p (by decide) fun c _=>qbb _ 3 2 c
 have ob:=zme (scT 7 (oneT (q2p [10,20,5] 3 2))) hk
 have h0:=z1t hk ob.1 hrt
 by_cases hz:q9h 7 (qjg 7 (scT 7 (oneT (q2p [10,20,5] 3 2)))) (oneT (q2p [10,20,5] 3 2))=0
 ·exfalso
  unfold q9h at hz
  rw[zio (q4p (z1r (k:=7) hrt) (by decide)) (q4p (z4g ob.1 hk) (by decide))]at hz
  have h1:=hz 0 (by decide) rfl
  rw[dec_blk _ hk,qoe _ (by decide)]at h1
  have h2:(scT 7 (oneT (q2p [10,20,5] 3 2))).getD 0 0=q2p [10,20,5] 3 2 0:=by
   show(oneT (q2p [10,20,5] 3 2)).getD 0 0=_
   rw[qoe _ (by decide)]
  rw[h2]at h1
  have h3:col14 7 (scT 7 (oneT (q2p [10,20,5] 3 2))) (0%4)=q0w (q0s 5 ((liN (scT 7 (oneT (q2p [10,20,5] 3 2)))).getD 0 0)+2):=by
   show liC _ 0=_
   unfold liC
   rw[iN (by decide)]
  rw[h3]at h1
  have hb:0≤(liN (scT 7 (oneT (q2p [10,20,5] 3 2)))).getD 0 0∧(liN (scT 7 (oneT (q2p [10,20,5] 3 2)))).getD 0 0≤31:=by
   unfold liN
   rw[q7w (by decide)]
   exact bN_L _ _
  obtain⟨v,hv⟩:∃v:Nat,(liN (scT 7 (oneT (q2p [10,20,5] 3 2)))).getD 0 0=(v:Int):=⟨((liN (scT 7 (oneT (q2p [10,20,5] 3 2)))).getD 0 0).toNat,by omega⟩
  rw[hv]at h1 hb
  have hc:=List.all_eq_true.1 zl0 v (List.mem_range.2 (by omega))
  rw[bne_iff_ne]at hc
  exact hc h1.symm
 ·omega
theorem Fit_none{f:Int}(h:¬(7≤f∧f≤12))(t:LI)(e:Int):q20 600 f t e=some ([],0,5,()):=by
 unfold q20
 by_cases h7:f<7
 ·simp only[h7,dT,cT]
 ·simp only[h7,show 12<f by omega,dT,dF,cT,cF]
theorem Fit_no(t:LI):q20 600 1 t 1=some ([],0,5,()):=Fit_none (by decide) t 1
theorem zo5:q8e 600 [10,20,5] 3 2=some (oneT (q2p [10,20,5] 3 2),true,()):=
 zrd (A:=[10,20,5]) rfl (tb:=3) (w:=2) (by decide) (by decide) (by decide)
theorem zre:∃b:LI,q20 600 7 (oneT (q2p [10,20,5] 3 2)) 2=some (b,0,0,())∧b.length=8:=by
 obtain⟨b,e1,ob,_⟩:=zmk (A:=[10,20,5]) (by decide) (tb:=3) (w:=2) (by decide) (by decide) (k:=7) (.inl rfl)
 exact⟨b,e1,ob.2⟩
theorem zo6:∃(b:LI) (n:Int),q20 600 7 (oneT (q2p [10,20,5] 3 2)) 0=some (b,n,0,())∧0<n:=by
 obtain⟨_,_,_,_,e2,_⟩:=Fit_is (t:=oneT (q2p [10,20,5] 3 2)) (q26 _ _) (z0p (by decide) fun c _=>qbb _ 3 2 c) (k:=7) (by unfold Fmt;omega)
 exact⟨_,_,e2,zl1⟩
theorem awake_of{T b b0:LI}{n:Int}(h0:q8e 600 [10,20,5] 3 2=some (T,true,()))(e1:q20 600 7 T 2=some (b,0,0,()))(hb:b.length=8)(e2:q20 600 7 T 0=some (b0,n,0,()))(hn:0<n)(e3:q20 600 1 T 1=some ([],0,5,())):qi8 600=some (true,()):=by
 unfold qi8
 rw[h0]
 simp only[y5]
 rw[e1,e2,e3]
 simp only[y5,hb,hn,dT,cT,beq_self_eq_true,show(((8:Nat):Int)==8)=true from rfl]
theorem awake16:qi8 600=some (true,()):=by
 obtain⟨b,e1,hb⟩:=zre
 obtain⟨b0,n,e2,hn⟩:=zo6
 exact awake_of zo5 e1 hb e2 hn (Fit_no _)
theorem law16_EtcfitHeld_true(A:LI)(n w:Int)(hA:A.length=3∧∀x∈A,IntKind.i64.has x)(_:IntKind.i64.has n)(_:IntKind.i64.has w):∃F,qfz F A n w=some (true,()):=by
 refine⟨600,?_⟩
 unfold qfz
 rw[awake16]
 simp only[y5]
 rcases zo4 hA.1 n w with h|⟨tb,wh,rfl,rfl,htb,hwh,hr,h⟩
 ·rw[h]
  simp only[y5,Bool.not_false,cT]
 ·have hrt:Rg 255 (oneT (q2p A tb wh)):=z0p (by decide) fun c _=>qbb A tb wh c
  have step:∀q (k:Nat),k=7∨k=8→q0i 600 (q+1) true (oneT (q2p A tb wh)) (k:Int)=q0i 600 q true (oneT (q2p A tb wh)) ((k+1:Nat):Int):=by
   intro q k hk
   have hkf:Fmt k:=by unfold Fmt;omega
   obtain⟨b,e,ob,h0⟩:=zmk hr htb hwh hk
   have hE:=zkr (b:=b) (t:=oneT (q2p A tb wh)) ob.1 hkf (by rcases hk with rfl|rfl<;>exact ob.2) (q26 _ _) hrt
   rw[h0]at hE
   show q6p 600 (q0i 600 q) _ _ _=_
   unfold q6p
   have h8:(k:Int)≤8:=by omega
   simp only[h8,dT,cT,e,hE,y5,bne_self_eq_false,cF,q0d (show k<1000000000000 by omega)]
  rw[h]
  simp only[y5,Bool.not_true,cF]
  have e7:=step 599 7 (.inl rfl)
  have e8:=step 598 8 (.inr rfl)
  rw[show((7:Nat):Int)=7 from rfl]at e7
  rw[show q0i 600 600=q0i 600 (599+1)from rfl,e7,show q0i 600 599=q0i 600 (598+1)from rfl,show(7+1:Nat)=8 from rfl,e8]
  rfl
end Go.AE.Gn

/- A part of the proof, put together of my texts: Pure10, Pure10b, Pure10c, Pure11, Pure11b, Pure11c, Pure11d, Pure11e, Pure11f, Pure11g, Pure11h, Pure11i, Pure11j, Pure12. -/
import Derived.Test.YtdnccegimipapaaGreatRowEtcfitRedP5
set_option linter.unusedSimpArgs false
set_option linter.unusedVariables false
open List renaming range → yz, getD_eq_getElem?_getD → ye, getElem?_eq_getElem → yj, getElem?_eq_none → w7, mem_cons → yr, getD_cons_zero → yt, getD_cons_succ → yu, take → y8, drop → y9, getElem?_append_left → yg, getElem?_append_right → w6, length_append → yo
open Go.IntKind renaming wrap → y0
open Int renaming tmod → yv, tdiv → yw, cast_ofNat_Int → yp, natCast_nonneg → yc, toNat_natCast → yb, natCast_zero → yq, eq_ofNat_of_zero_le → yh, toNat → y6, natCast_pow → w9
open Option renaming bind_some → y5
open Bool renaming and_self → yd, false_eq_true → yn, and_eq_true → yl
open Nat renaming le_refl → w8
namespace Go.AE.Gn
open Go Go.AE
abbrev Blk10:=Bool×Bool×LI×LI×LI×LI×Unit
def q5i(i:Nat):Nat:=4*(i%4)+i/4
theorem zeq:((yz 16).all fun i=>q1i 0 i==some ((q5i i:Int),()))=true:=by kernel_rfl
theorem z82(F:Nat){i:Nat}(h:i<16):q1i F i=some ((q5i i:Int),()):=by
 have:=List.all_eq_true.1 zeq i (by simpa using h)
 have e:q1i F i=q1i 0 i:=rfl
 rw[e]
 simpa using this
theorem rcol_is{i:Nat}(h:i<16):y0 .i64 (y0 .i64 (4*yv (i:Int) 4)+y0 .i64 (yw (i:Int) 4))=(q5i i:Int):=by
 have:=z82 0 h
 unfold q1i at this
 simpa using this
theorem zer{i:Nat}(h:i<16):q5i i≤15:=by unfold q5i;omega
theorem zb3{F:Nat}(hF:66≤F){b:LI}(hb:Bytes b)(hl:b.length=8){a n:Nat}(hn:n≤16)(h:a+n≤64):q0u F a n b=some (hv b a n,()):=by
 unfold q0u
 have h1:=q0x b a n
 have h2:(2:Int)^n≤2^16:=qgd hn
 rw[zei hF hb (by omega) (by omega) (by omega)]
 simp only[y5]
 rw[w64 (by omega) (by omega)]
theorem qfl{F:Nat}(hF:66≤F){b:LI}(hb:Bytes b)(hl:b.length=8){a n:Nat}(hn:n≤16)(h:a+n≤64):q22 F b a n=some (hv b a n,()):=by
 unfold q22
 have h1:=q0x b a n
 have h2:(2:Int)^n≤2^16:=qgd hn
 rw[zox hF hb (by omega)]
 simp only[y5,if_true]
 rw[zl8 (by omega) (by omega),w64 (by omega) (by omega)]
def sg3(x:Int):Int:=if 4≤x then x-8 else x
def eA(d:Bool)(b:LI)(c:Nat):Int:=if d then hv b (8*c) 5 else hv b (8*c) 4
def eB(d:Bool)(b:LI)(c:Nat):Int:=if d then sg3 (hv b (8*c+5) 3)else hv b (8*c+4) 4
def eAs(d:Bool)(b:LI):LI:=[eA d b 0,eA d b 1,eA d b 2]
def eBs(d:Bool)(b:LI):LI:=[eB d b 0,eB d b 1,eB d b 2]
def eWs(b:LI):LI:=(yz 16).map fun i=>2*hv b (47-q5i i) 1+hv b (63-q5i i) 1
def qa1(b:LI):Bool:=hv b 30 1==1
def zmo(b:LI):Bool:=hv b 31 1==1
def eP(b:LI):Blk10:=(qa1 b,zmo b,eAs (qa1 b) b,eBs (qa1 b) b,[hv b 24 3,hv b 27 3],eWs b,())
theorem qtv{N:Nat}(hN:N=3){x:LI}(hx:x.length=3)(a b c:Int):((x.set 0 a).set 1 b).set 2 c=[a,b,c]:=by
 match x,hx with
 |[p,q,r],_=>rfl
theorem qj0{F:Nat}(hF:66≤F){b:LI}(hb:Bytes b)(hl:b.length=8)(k:Nat)(x0 x1 x2 x3:LI)(d f:Bool)(A B:LI)(hA:A.length=3)(hB:B.length=3)(x8 x9:LI){i:Nat}(hi:i<3):
  q31 F (k+1) x0 x1 x2 x3 d f A B x8 x9 b i=q31 F k x0 x1 x2 x3 d f (A.set i (eA d b i)) (B.set i (eB d b i)) x8 x9 b ((i+1:Nat):Int):=by
 have h0:q31 F (k+1) x0 x1 x2 x3 d f A B x8 x9 b i=qam F (q31 F k) x0 x1 x2 x3 d f A B x8 x9 b i:=rfl
 rw[h0]
 unfold qam
 have h1:(i:Int)<3:=by omega
 have e8:y0 .i64 ((8:Int)*(i:Int))=((8*i:Nat):Int):=by rw[w64 (by omega) (by omega)];omega
 have e4:y0 .i64 (((8*i:Nat):Int)+4)=((8*i+4:Nat):Int):=by rw[w64 (by omega) (by omega)];omega
 have e5:y0 .i64 (((8*i:Nat):Int)+5)=((8*i+5:Nat):Int):=by rw[w64 (by omega) (by omega)];omega
 have g1:=zb3 hF hb hl (a:=8*i) (n:=4) (by decide) (by omega)
 have g2:=zb3 hF hb hl (a:=8*i+4) (n:=4) (by decide) (by omega)
 have g3:=zb3 hF hb hl (a:=8*i) (n:=5) (by decide) (by omega)
 have g4:=zb3 hF hb hl (a:=8*i+5) (n:=3) (by decide) (by omega)
 have q4:=q0x b (8*i+5) 3
 simp only[yp]at g1 g2 g3 g4
 have hget:∀v,(B.set i v).getD i 0=v:=fun v=>by rw[qew _ _ _ _ (by omega),iP rfl]
 have hset:∀v w,(B.set i v).set i w=B.set i w:=fun v w=>List.set_set ..
 simp only[h1,dT,cT,e8,e4,e5,yc,yd,g1,g2,g3,g4,y5,yb,hget,hset,q0d (show i<1000000000000 by omega)]
 cases d
 ·rfl
 ·simp only[Bool.not_true,cF]
  unfold eA eB sg3
  by_cases h:4≤hv b (8*i+5) 3
  ·simp only[h,dT,cT,if_true]
   rw[w64 (by omega) (by omega)]
   rfl
  ·simp only[h,dF,cF,if_true,if_false]
theorem zes{F:Nat}(hF:66≤F){b:LI}(hb:Bytes b)(hl:b.length=8)(x0 x1 x2 x3:LI)(d f:Bool){A B:LI}(hA:A.length=3)(hB:B.length=3)(x8 x9:LI):
  q31 F F x0 x1 x2 x3 d f A B x8 x9 b 0=some (x0,x1,x2,x3,d,f,eAs d b,eBs d b,x8,x9,b,()):=by
 obtain⟨n,rfl⟩:∃n,F=n+4:=⟨F-4,by omega⟩
 have s0:=qj0 hF hb hl (n+3) x0 x1 x2 x3 d f A B hA hB x8 x9 (i:=0) (by decide)
 have s1:=qj0 hF hb hl (n+2) x0 x1 x2 x3 d f (A.set 0 (eA d b 0)) (B.set 0 (eB d b 0)) (by simp[hA]) (by simp[hB]) x8 x9 (i:=1) (by decide)
 have s2:=qj0 hF hb hl (n+1) x0 x1 x2 x3 d f ((A.set 0 (eA d b 0)).set 1 (eA d b 1)) ((B.set 0 (eB d b 0)).set 1 (eB d b 1)) (by simp[hA]) (by simp[hB]) x8 x9 (i:=2) (by decide)
 simp only[Nat.zero_add,Nat.reduceAdd,yq]at s0 s1 s2
 rw[s0,s1,s2,qtv rfl hA,qtv rfl hB]
 rfl
theorem zet{F:Nat}(hF:66≤F){b:LI}(hb:Bytes b)(hl:b.length=8)(x0 x1 x2 x3:LI)(d f:Bool)(A B T:LI){W:LI}(hW:W.length=16):
  q3u F F x0 x1 x2 x3 d f A B T W b 0=some (x0,x1,x2,x3,d,f,A,B,T,eWs b,()):=by
 refine qfk 16 (fun i=>2*hv b (47-q5i i) 1+hv b (63-q5i i) 1) (fun k w i=>q3u F k x0 x1 x2 x3 d f A B T w b i) (fun w=>some (x0,x1,x2,x3,d,f,A,B,T,w,())) ?_ ?_ _ hW F (by omega)
 ·intro k i w hi hw
  show q5w F (q3u F k) x0 x1 x2 x3 d f A B T w b i=_
  unfold q5w
  have hc:=zer hi
  have g1:=zb3 hF hb hl (a:=47-q5i i) (n:=1) (by decide) (by omega)
  have g2:=zb3 hF hb hl (a:=63-q5i i) (n:=1) (by decide) (by omega)
  have e1:y0 .i64 ((47:Int)-(q5i i:Int))=((47-q5i i:Nat):Int):=by rw[w64 (by omega) (by omega)];omega
  have e2:y0 .i64 ((63:Int)-(q5i i:Int))=((63-q5i i:Nat):Int):=by rw[w64 (by omega) (by omega)];omega
  have b1:=q0x b (47-q5i i) 1
  have b2:=q0x b (63-q5i i) 1
  simp only[yp]at g1 g2
  have h1:(i:Int)<16:=by omega
  simp only[h1,dT,cT,z82 F hi,y5,e1,e2,g1,g2,yc,yd,yb,q0d (show i<1000000000000 by omega)]
  rw[w64 (x:=2*_) (by omega) (by omega),w64 (by omega) (by omega)]
 ·intro k w hw
  show q5w F (q3u F k) x0 x1 x2 x3 d f A B T w b 16=_
  unfold q5w
  simp
theorem z0c{F:Nat}(hF:66≤F){b:LI}(hb:Bytes b)(hl:b.length=8):q3v F b=some (eP b,0,()):=by
 unfold q3v
 have e:((b.length:Int) !=8)=false:=by rw[hl];rfl
 have g1:=zb3 hF hb hl (a:=30) (n:=1) (by decide) (by decide)
 have g2:=zb3 hF hb hl (a:=31) (n:=1) (by decide) (by decide)
 have g3:=zb3 hF hb hl (a:=24) (n:=3) (by decide) (by decide)
 have g4:=zb3 hF hb hl (a:=27) (n:=3) (by decide) (by decide)
 simp only[yp]at g1 g2 g3 g4
 simp only[e,cF,g1,g2,y5]
 rw[zes hF hb hl _ _ _ _ _ _ rfl rfl]
 simp only[y5,g3,g4]
 rw[zet hF hb hl _ _ _ _ _ _ _ _ _ rfl]
 rfl
theorem zmp{F:Nat}(hF:66≤F){b:LI}(hb:Bytes b)(hl:b.length=8):qn2 F b=some (eWs b,()):=by
 have loop:∀T W:LI,W.length=16→q4t F F b T W 0=some (T,eWs b,()):=by
  intro T W hW
  refine qfk 16 (fun i=>2*hv b (47-q5i i) 1+hv b (63-q5i i) 1) (fun k w i=>q4t F k b T w i) (fun w=>some (T,w,())) ?_ ?_ _ hW F (by omega)
  ·intro k i w hi hw
   show q6u F (q4t F k) b T w i=_
   unfold q6u
   have hc:=zer hi
   have g1:=qfl hF hb hl (a:=47-q5i i) (n:=1) (by decide) (by omega)
   have g2:=qfl hF hb hl (a:=63-q5i i) (n:=1) (by decide) (by omega)
   have e1:y0 .i64 ((47:Int)-(q5i i:Int))=((47-q5i i:Nat):Int):=by rw[w64 (by omega) (by omega)];omega
   have e2:y0 .i64 ((63:Int)-(q5i i:Int))=((63-q5i i:Nat):Int):=by rw[w64 (by omega) (by omega)];omega
   have b1:=q0x b (47-q5i i) 1
   have b2:=q0x b (63-q5i i) 1
   simp only[yp]at g1 g2
   have h1:(i:Int)<16:=by omega
   simp only[h1,dT,cT,rcol_is hi,y5,e1,e2,g1,g2,yc,yd,yb,q0d (show i<1000000000000 by omega)]
   rw[w64 (x:=2*_) (by omega) (by omega),w64 (by omega) (by omega)]
  ·intro k w hw
   show q6u F (q4t F k) b T w 16=_
   unfold q6u
   simp
 unfold qn2
 rw[loop _ _ rfl]
 rfl
theorem qgg{F:Nat}(hF:66≤F){b:LI}(hb:Bytes b)(hl:b.length=8)(k:Nat)(x1 x2 x3 x4:LI)(d f:Bool)(A B:LI)(hA:A.length=3)(hB:B.length=3)(x8 x9:LI){i:Nat}(hi:i<3):
  q3l F (k+1) b x1 x2 x3 x4 d f A B x8 x9 i=q3l F k b x1 x2 x3 x4 d f (A.set i (eA d b i)) (B.set i (eB d b i)) x8 x9 ((i+1:Nat):Int):=by
 have h0:q3l F (k+1) b x1 x2 x3 x4 d f A B x8 x9 i=qca F (q3l F k) b x1 x2 x3 x4 d f A B x8 x9 i:=rfl
 rw[h0]
 unfold qca
 have h1:(i:Int)<3:=by omega
 have e8:y0 .i64 ((8:Int)*(i:Int))=((8*i:Nat):Int):=by rw[w64 (by omega) (by omega)];omega
 have e4:y0 .i64 (((8*i:Nat):Int)+4)=((8*i+4:Nat):Int):=by rw[w64 (by omega) (by omega)];omega
 have e5:y0 .i64 (((8*i:Nat):Int)+5)=((8*i+5:Nat):Int):=by rw[w64 (by omega) (by omega)];omega
 have g1:=qfl hF hb hl (a:=8*i) (n:=4) (by decide) (by omega)
 have g2:=qfl hF hb hl (a:=8*i+4) (n:=4) (by decide) (by omega)
 have g3:=qfl hF hb hl (a:=8*i) (n:=5) (by decide) (by omega)
 have g4:=qfl hF hb hl (a:=8*i+5) (n:=3) (by decide) (by omega)
 have q4:=q0x b (8*i+5) 3
 simp only[yp]at g1 g2 g3 g4
 have hget:∀v,(B.set i v).getD i 0=v:=fun v=>by rw[qew _ _ _ _ (by omega),iP rfl]
 have hset:∀v w,(B.set i v).set i w=B.set i w:=fun v w=>List.set_set ..
 simp only[h1,dT,cT,e8,e4,e5,yc,yd,g1,g2,g3,g4,y5,yb,hget,hset,q0d (show i<1000000000000 by omega)]
 cases d
 ·rfl
 ·simp only[cT]
  unfold eA eB sg3
  by_cases h:4≤hv b (8*i+5) 3
  ·have h' :3<hv b (8*i+5) 3:=by omega
   simp only[h,h',dT,cT,if_true]
   rw[w64 (by omega) (by omega)]
  ·have h' :¬3<hv b (8*i+5) 3:=by omega
   simp only[h,h',dF,cF,if_true,if_false]
theorem qwg{F:Nat}(hF:66≤F){b:LI}(hb:Bytes b)(hl:b.length=8):q6b F b=some (eP b,0,()):=by
 unfold q6b
 have e:((b.length:Int) !=8)=false:=by rw[hl];rfl
 have g1:=qfl hF hb hl (a:=30) (n:=1) (by decide) (by decide)
 have g2:=qfl hF hb hl (a:=31) (n:=1) (by decide) (by decide)
 have g3:=qfl hF hb hl (a:=24) (n:=3) (by decide) (by decide)
 have g4:=qfl hF hb hl (a:=27) (n:=3) (by decide) (by decide)
 have loop:∀(x1 x2 x3 x4:LI) (d f:Bool) (A B:LI) (hA:A.length=3) (hB:B.length=3) (x8 x9:LI),q3l F F b x1 x2 x3 x4 d f A B x8 x9 0=some (b,x1,x2,x3,x4,d,f,eAs d b,eBs d b,x8,x9,()):=by
  intro x1 x2 x3 x4 d f A B hA hB x8 x9
  clear g1 g2 g3 g4
  obtain⟨n,rfl⟩:∃n,F=n+4:=⟨F-4,by omega⟩
  have s0:=qgg hF hb hl (n+3) x1 x2 x3 x4 d f A B hA hB x8 x9 (i:=0) (by decide)
  have s1:=qgg hF hb hl (n+2) x1 x2 x3 x4 d f (A.set 0 (eA d b 0)) (B.set 0 (eB d b 0)) (by simp[hA]) (by simp[hB]) x8 x9 (i:=1) (by decide)
  have s2:=qgg hF hb hl (n+1) x1 x2 x3 x4 d f ((A.set 0 (eA d b 0)).set 1 (eA d b 1)) ((B.set 0 (eB d b 0)).set 1 (eB d b 1)) (by simp[hA]) (by simp[hB]) x8 x9 (i:=2) (by decide)
  simp only[Nat.zero_add,Nat.reduceAdd,yq]at s0 s1 s2
  rw[s0,s1,s2,qtv rfl hA,qtv rfl hB]
  rfl
 simp only[yp]at g1 g2 g3 g4
 simp only[e,cF,g1,g2,y5]
 rw[loop _ _ _ _ _ _ _ _ rfl rfl]
 simp only[y5,g3,g4,zmp hF hb hl]
 rfl
theorem iand15(x:Int):iand .i64 x 15=x%16:=qiz (x:=x) (b:=4) (by decide)
theorem iand7(x:Int):iand .i64 x 7=x%8:=qiz (x:=x) (b:=3) (by decide)
theorem iand3(x:Int):iand .i64 x 3=x%4:=qiz (x:=x) (b:=2) (by decide)
theorem zeu(F:Nat){x m:Int}(hm:0<m∧m≤1000000000):qi0 F x m=some (x%m,()):=by
 unfold qi0
 have h0:(!(m==(0:Int)))=true:=by simp;omega
 have hf:=zlb (x:=x) hm.1
 have h1:=Int.emod_nonneg x (show m≠0 by omega)
 have h2:=Int.emod_lt_of_pos x hm.1
 rw[h0]
 simp only[cT]
 by_cases hn:x.tmod m<0
 ·rw[iP hn]at hf
  simp only[hn,dT,cT]
  rw[hf,w64 (by omega) (by omega)]
 ·rw[iN hn]at hf
  simp only[hn,dF,cF]
  rw[hf]
def qdh:Nat→LI
 |0=>[2,8,-2,-8]
 |1=>[5,17,-5,-17]
 |2=>[9,29,-9,-29]
 |3=>[13,42,-13,-42]
 |4=>[18,60,-18,-60]
 |5=>[24,80,-24,-80]
 |6=>[33,106,-33,-106]
 |_=>[47,183,-47,-183]
theorem qb1{p:Int→Prop}(h0:p 0){l:LI}(h:∀x∈l,p x)(i:Nat):p (l.getD i 0):=by
 rw[ye]
 by_cases hi:i<l.length
 ·rw[yj hi]
  exact h _ (List.getElem_mem hi)
 ·rw[w7 (by omega)]
  exact h0
theorem qwh(n i:Nat): -183≤(qdh n).getD i 0∧(qdh n).getD i 0≤183:=by
 apply qb1 (p:=fun x=> -183≤x∧x≤183) (by decide)
 unfold qdh
 split<;>decide
theorem zmq{v:Int}(h:0≤v∧v<8):v=0∨v=1∨v=2∨v=3∨v=4∨v=5∨v=6∨v=7:=by omega
theorem z0d(F:Nat)(n:Int):qbg F n=some (qdh (n%8).toNat,()):=by
 unfold qbg
 rw[iand7]
 have h:0≤n%8∧n%8<8:=by omega
 generalize n%8=v at*
 rcases zmq h with rfl|rfl|rfl|rfl|rfl|rfl|rfl|rfl<;>rfl
theorem zji(F:Nat)(n:Int):qn3 F n=some (qdh (n%8).toNat,()):=by
 unfold qn3
 rw[zeu F (by decide)]
 have h:0≤n%8∧n%8<8:=by omega
 simp only[y5]
 generalize n%8=v at*
 rcases zmq h with rfl|rfl|rfl|rfl|rfl|rfl|rfl|rfl<;>rfl
def q2m(f:Bool)(m:Int):Nat:=if f then(m%16).toNat/8 else(m%16).toNat%4/2
theorem qmc(f:Bool)(m:Int):q2m f m<2:=by
 unfold q2m
 split<;>omega
theorem qj1(F:Nat)(f:Bool)(m:Int):q90 F f m=some ((q2m f m:Int),())∧qlg F f m=some ((q2m f m:Int),()):=by
 unfold q90 qlg q2m
 rw[zeu F (by decide),iand15]
 have h:0≤m%16∧m%16<16:=by omega
 simp only[y5]
 generalize m%16=v at*
 obtain⟨n,rfl⟩:=yh h.1
 have e1:yw (n:Int) 8=((n/8:Nat):Int):=rfl
 have e2:yw (yv (n:Int) 4) 2=((n%4/2:Nat):Int):=rfl
 rw[e1,e2,w64 (x:=((n/8:Nat):Int)) (by omega) (by omega),w64 (by omega) (by omega)]
 cases f
 ·exact⟨rfl,rfl⟩
 ·exact⟨rfl,rfl⟩
def n10(d:Bool)(A B:LI)(c:Nat):Int:=if d then A.getD c 0+B.getD c 0 else B.getD c 0
def w10(d:Bool):Nat:=if d then 5 else 4
def q1h(d:Bool)(A B:LI):LI:=
 [q0s (w10 d) (A.getD 0 0),q0s (w10 d) (A.getD 1 0),q0s (w10 d) (A.getD 2 0),255,q0s (w10 d) (n10 d A B 0),q0s (w10 d) (n10 d A B 1),q0s (w10 d) (n10 d A B 2),255]
def qac(A B:LI)(c:Nat):Prop:=n10 true A B c<0∨31<n10 true A B c
instance (A B:LI) (c:Nat):Decidable (qac A B c):=by unfold qac;exact inferInstance
def qjc(d:Bool)(A B:LI):Int:=if d then(if qac A B 0 then 0 else if qac A B 1 then 1 else if qac A B 2 then 2 else 3)else 3
def qgr(A B:LI):Prop:=A.length=3∧B.length=3∧(∀c,0≤A.getD c 0∧A.getD c 0≤31)∧(∀c,-4≤B.getD c 0∧B.getD c 0≤15)
theorem qt4{F:Nat}(hF:10≤F)(k:Nat)(d f:Bool){A B:LI}(hf:qgr A B)(T W x6 x7:LI)(far:Int){i:Nat}(hi:i<3):
  q0v F (k+1) d f A B T W x6 x7 far i=q0v F k d f A B T W x6 ((x7.set i (q0s (w10 d) (A.getD i 0))).set (4+i) (q0s (w10 d) (n10 d A B i))) (if d=true∧far=3∧qac A B i then(i:Int)else far) ((i+1:Nat):Int):=by
 have h0:q0v F (k+1) d f A B T W x6 x7 far i=qan F (q0v F k) d f A B T W x6 x7 far i:=rfl
 rw[h0]
 unfold qan
 have h1:(i:Int)<3:=by omega
 have h2:(i:Int)<4:=by omega
 have a1:=hf.2.2.1 i
 have a2:=hf.2.2.2 i
 have e1:y0 .i64 (A.getD i 0+B.getD i 0)=A.getD i 0+B.getD i 0:=w64 (by omega) (by omega)
 have w5:=fun x=>ql0 (F:=F) hF (b:=5) (by decide) x
 have w4:=fun x=>ql0 (F:=F) hF (b:=4) (by decide) x
 have s5:=z7z (x:=A.getD i 0+B.getD i 0) (k:=5) (by decide)
 simp only[yp]at w5 w4 s5
 simp only[h1,h2,dT,cT,yc,yd,yb,e1,w5,w4,s5,y5,q0d (show i<1000000000000 by omega)]
 cases d
 ·simp only[cF,w10,n10,yn,if_false,false_and]
 ·simp only[cT,w10,n10,if_true,true_and,qac]
  by_cases hfar:far=3
  ·subst hfar
   simp only[beq_self_eq_true,cT,true_and]
   by_cases hn:A.getD i 0+B.getD i 0<0
   ·simp only[hn,dT,cT,true_or,if_true]
   ·simp only[hn,dF,cF,false_or]
    by_cases hg:31<A.getD i 0+B.getD i 0
    ·have:((A.getD i 0+B.getD i 0)/2^5 !=0)=true:=bneT (by omega)
     simp only[this,cT,hg,if_true]
    ·have:((A.getD i 0+B.getD i 0)/2^5 !=0)=false:=by
      have:(A.getD i 0+B.getD i 0)/2^5=0:=by omega
      rw[this];rfl
     simp only[this,cF,hg,if_false]
  ·simp only[beqF hfar,cF,hfar,false_and,if_false]
theorem zjj(d:Bool)(A B:LI):(if d=true∧(if d=true∧(if d=true∧(3:Int)=3∧qac A B 0 then((0:Nat):Int)else 3)=3∧qac A B 1 then((1:Nat):Int)else(if d=true∧(3:Int)=3∧qac A B 0 then((0:Nat):Int)else 3))=3∧qac A B 2 then((2:Nat):Int)else
  (if d=true∧(if d=true∧(3:Int)=3∧qac A B 0 then((0:Nat):Int)else 3)=3∧qac A B 1 then((1:Nat):Int)else(if d=true∧(3:Int)=3∧qac A B 0 then((0:Nat):Int)else 3)))=qjc d A B:=by
 unfold qjc
 cases d
 ·simp
 ·by_cases h0:qac A B 0<;>by_cases h1:qac A B 1<;>by_cases h2:qac A B 2<;>simp[h0,h1,h2]
theorem qtw{F:Nat}(hF:10≤F)(d f:Bool){A B:LI}(hf:qgr A B)(T W:LI):q8z F (d,f,A,B,T,W,())=some (q1h d A B,qjc d A B,()):=by
 unfold q8z
 have s0:∀n far x6 x7,q0v F (n+1) d f A B T W x6 x7 far 0=_:=fun n far x6 x7=>qt4 hF n d f hf T W x6 x7 far (i:=0) (by decide)
 have s1:∀n far x6 x7,q0v F (n+1) d f A B T W x6 x7 far 1=_:=fun n far x6 x7=>qt4 hF n d f hf T W x6 x7 far (i:=1) (by decide)
 have s2:∀n far x6 x7,q0v F (n+1) d f A B T W x6 x7 far 2=_:=fun n far x6 x7=>qt4 hF n d f hf T W x6 x7 far (i:=2) (by decide)
 have s3:∀n far x6 x7,q0v F (n+1) d f A B T W x6 x7 far 3=some (x6,x7,far,()):=fun n far x6 x7=>rfl
 obtain⟨n,hn⟩:∃n,F=n+4:=⟨F-4,by omega⟩
 have key:∀(m:Nat),m=n+4→∀x6 x7:LI,q0v F m d f A B T W x6 x7 3 0=some (x6,(((((((x7.set 0 (q0s (w10 d) (A.getD 0 0))).set 4 (q0s (w10 d) (n10 d A B 0))).set 1 (q0s (w10 d) (A.getD 1 0))).set 5 (q0s (w10 d) (n10 d A B 1))).set 2 (q0s (w10 d) (A.getD 2 0))).set 6 (q0s (w10 d) (n10 d A B 2)),qjc d A B,()))):=by
  intro m hm x6 x7
  subst hm
  rw[←zjj d A B]
  refine(s0 _ _ _ _).trans ((s1 _ _ _ _).trans ((s2 _ _ _ _).trans (s3 _ _ _ _)))
 simp only[key F hn,y5]
 rfl
theorem take4{l:LI}{n:Nat}(h:n+4≤l.length):(l.drop n).take 4=[l.getD n 0,l.getD (n+1) 0,l.getD (n+2) 0,l.getD (n+3) 0]:=by
 have e:∀j,j<l.length→l.drop j=l.getD j 0::l.drop (j+1):=fun j hj=>by
  rw[List.drop_eq_getElem_cons hj,ye,yj hj]
  rfl
 rw[e n (by omega),e (n+1) (by omega),e (n+2) (by omega),e (n+3) (by omega)]
 rfl
theorem qa2(F:Nat)(x:Int):q30 F x 255=some (q0w x,()):=rfl
theorem z83(F:Nat)(x:Int):q6c F x 255=some (q0w x,()):=by
 unfold q6c q0w
 by_cases h1:255<x
 ·have:max 0 (min x 255)=255:=by omega
  simp[h1,this]
 ·by_cases h2:x<0
  ·have:max 0 (min x 255)=0:=by omega
   simp[h1,h2,this]
  ·have:max 0 (min x 255)=x:=by omega
   simp[h1,h2,this]
def zev(T W:LI)(f:Bool)(i:Nat):Int:=(qdh ((T.getD (q2m f i) 0)%8).toNat).getD ((W.getD i 0)%4).toNat 0
def zb4(bs T W:LI)(f:Bool)(i:Nat):LI:=
 [q0w (bs.getD (q2m f i*4) 0+zev T W f i),q0w (bs.getD (q2m f i*4+1) 0+zev T W f i),q0w (bs.getD (q2m f i*4+2) 0+zev T W f i),bs.getD (q2m f i*4+3) 0]
def qbb(d f:Bool)(A B T W:LI):LI:=(yz 16).flatMap (zb4 (q1h d A B) T W f)
theorem w10_b(d:Bool):1≤w10 d∧w10 d≤8:=by cases d<;>decide
theorem qo6(d:Bool)(A B:LI):(q1h d A B).length=8:=rfl
theorem qha(d:Bool)(A B:LI)(j:Nat):0≤(q1h d A B).getD j 0∧(q1h d A B).getD j 0≤255:=by
 apply qb1 (p:=fun x=>0≤x∧x≤255) (by decide)
 intro x hx
 have hw:=fun y=>q1u (w10_b d) y
 simp only[q1h,yr,List.not_mem_nil,or_false]at hx
 rcases hx with rfl|rfl|rfl|rfl|rfl|rfl|rfl|rfl<;>first|exact hw _|decide
theorem qj2{F k:Nat}(d f:Bool)(A B T W x6 bs P l Q x12:LI)(x13:Int){i:Nat}(hi:i<16)(hP:P.length=i*4)(hl:l.length=4)(hb:∀c,0≤l.getD c 0∧l.getD c 0≤255)(w:Int){h:Nat}(hh:h<2){c:Nat}(hc:c<3):
  q2g F (k+1) d f A B T W x6 bs (P++l++Q) i w h x12 x13 c=q2g F k d f A B T W x6 bs (P++l.set c (q0w (l.getD c 0+(qdh ((T.getD h 0)%8).toNat).getD (w%4).toNat 0))++Q) i w h x12 x13 ((c+1:Nat):Int):=by
 have h0:q2g F (k+1) d f A B T W x6 bs (P++l++Q) i w h x12 x13 c=qao F (q2g F k) d f A B T W x6 bs (P++l++Q) i w h x12 x13 c:=rfl
 rw[h0]
 unfold qao
 have h1:(c:Int)<3:=by omega
 have h2:(c:Int)<4:=by omega
 have h3:(i:Int)<16:=by omega
 have h4:(h:Int)<2:=by omega
 have hw:0≤w%4∧w%4<4:=by omega
 have g1:=zp4 P l Q hP (show c<l.length by omega)
 have g2:=zp5 P l Q hP (show c<l.length by omega)
 have tb:=qwh ((T.getD h 0)%8).toNat (w%4).toNat
 have lb:=hb c
 simp only[h1,h2,h3,h4,dT,cT,yc,yd,yb,z0d,y5,iand3,hw.1,hw.2,qa2,g1,g2,q0d (show c<1000000000000 by omega)]
 rw[w64 (by omega) (by omega)]
theorem qmd{l:LI}(hb:∀c,0≤l.getD c 0∧l.getD c 0≤255)(i:Nat){v:Int}(hv:0≤v∧v≤255):∀c,0≤(l.set i v).getD c 0∧(l.set i v).getD c 0≤255:=by
 intro c
 by_cases h:i<l.length
 ·rw[qew _ _ _ _ h]
  split
  ·exact hv
  ·exact hb c
 ·rw[List.set_eq_of_length_le (by omega)]
  exact hb c
theorem zew{F:Nat}(hF:10≤F)(d f:Bool)(A B T W x6 bs P l Q x12:LI)(x13:Int){i:Nat}(hi:i<16)(hP:P.length=i*4)(hl:l.length=4)(hb:∀c,0≤l.getD c 0∧l.getD c 0≤255)(w:Int){h:Nat}(hh:h<2){n:Int}(hn:n=(qdh ((T.getD h 0)%8).toNat).getD (w%4).toNat 0):
  q2g F F d f A B T W x6 bs (P++l++Q) i w h x12 x13 0=some (d,f,A,B,T,W,x6,bs,P++[q0w (l.getD 0 0+n),q0w (l.getD 1 0+n),q0w (l.getD 2 0+n),l.getD 3 0]++Q,x12,x13,()):=by
 obtain⟨a,b,c,e,rfl⟩:∃a b c e,l=[a,b,c,e]:=by
  match l,hl with
  |[a,b,c,e],_=>exact⟨a,b,c,e,rfl⟩
 subst hn
 have key:∀m,m=F→∀k,m=k+4→q2g F m d f A B T W x6 bs (P++[a,b,c,e]++Q) i w h x12 x13 0=_:=fun m _ k hk=>by
  subst hk
  refine(qj2 (k:=k+3) d f A B T W x6 bs P [a,b,c,e] Q x12 x13 hi hP rfl hb w hh (c:=0) (by decide)).trans ?_
  refine(qj2 (k:=k+2) d f A B T W x6 bs P _ Q x12 x13 hi hP rfl (qmd hb 0 (q0y _)) w hh (c:=1) (by decide)).trans ?_
  exact(qj2 (k:=k+1) d f A B T W x6 bs P _ Q x12 x13 hi hP rfl (qmd (qmd hb 0 (q0y _)) 1 (q0y _)) w hh (c:=2) (by decide)).trans rfl
 rw[key F rfl (F-4) (by omega)]
 rfl
theorem zbx{F:Nat}(hF:17≤F)(d f:Bool){A B T W:LI}(hf:qgr A B)(hW:∀i,0≤W.getD i 0∧W.getD i 0≤3):qf3 F (d,f,A,B,T,W,())=some (qbb d f A B T W,()):=by
 unfold qf3
 have loop:∀x6 x8:LI,x8.length=64→q3w F F d f A B T W x6 (q1h d A B) x8 W 0=some (x6,qbb d f A B T W,()):=by
  intro x6 x8 h8
  refine zbw 16 4 (zb4 (q1h d A B) T W f) (fun i hi=>rfl) (fun k w i=>q3w F k d f A B T W x6 (q1h d A B) w W i) (fun w=>some (x6,w,())) ?_ ?_ _ h8 F (by omega)
  ·intro k i w hi hw
   show q5x F (q3w F k) d f A B T W x6 (q1h d A B) w W i=_
   unfold q5x
   have h1:(i:Int)<16:=by omega
   have hh:=qmc f i
   have h2:(q2m f i:Int)<2:=by omega
   have t4:=take4 (l:=q1h d A B) (n:=q2m f i*4) (by rw[qo6];omega)
   have hP:(w.take (i*4)).length=i*4:=by rw[List.length_take];omega
   have l2:=zew (by omega) d f A B T W x6 (q1h d A B) (w.take (i*4)) [(q1h d A B).getD (q2m f i*4) 0,(q1h d A B).getD (q2m f i*4+1) 0,(q1h d A B).getD (q2m f i*4+2) 0,(q1h d A B).getD (q2m f i*4+3) 0] (w.drop (i*4+4)) W i hi hP rfl
    (fun c=>qb1 (p:=fun x=>0≤x∧x≤255) (by decide) (fun x hx=>by
      simp only[yr,List.not_mem_nil,or_false]at hx
      rcases hx with rfl|rfl|rfl|rfl<;>exact qha d A B _) c) (W.getD i 0) hh (n:=zev T W f i) rfl (F:=F)
   simp only[h1,dT,cT,yc,yd,yb,(qj1 F f i).1,y5,h2,t4,l2,q0d (show i<1000000000000 by omega)]
   rfl
  ·intro k w hw
   show q5x F (q3w F k) d f A B T W x6 (q1h d A B) w W 16=_
   unfold q5x
   simp
 rw[qtw (by omega) d f hf]
 simp only[y5]
 rw[loop _ _ rfl]
 rfl
theorem z84(F:Nat)(n a b:Int):q6o F n a b=some (decide (a≤n∧n≤b),()):=by
 unfold q6o
 by_cases h:a≤n
 ·simp[h]
 ·simp[h]
theorem qo7{F:Nat}(hF:10≤F)(k:Nat)(d f:Bool){A B:LI}(hf:qgr A B)(T W x6 x7:LI)(far:Int){i:Nat}(hi:i<3):
  q12 F (k+1) d f A B T W x6 x7 far i=q12 F k d f A B T W x6 ((x7.set i (q0s (w10 d) (A.getD i 0))).set (4+i) (q0s (w10 d) (n10 d A B i))) (if d=true∧qac A B i then(i:Int)else far) ((i:Int)-1):=by
 have h0:q12 F (k+1) d f A B T W x6 x7 far i=qcb F (q12 F k) d f A B T W x6 x7 far i:=rfl
 rw[h0]
 unfold qcb
 have h1:(i:Int)<3:=by omega
 have h2:(i:Int)<4:=by omega
 have a1:=hf.2.2.1 i
 have a2:=hf.2.2.2 i
 have e1:y0 .i64 (A.getD i 0+B.getD i 0)=A.getD i 0+B.getD i 0:=w64 (by omega) (by omega)
 have e2:y0 .i64 ((i:Int)-1)=(i:Int)-1:=w64 (by omega) (by omega)
 have w5:=fun x hx=>qk5 (F:=F) hF (b:=5) (by decide) (x:=x) hx
 have w4:=fun x hx=>qk5 (F:=F) hF (b:=4) (by decide) (x:=x) hx
 have g1:=w5 (A.getD i 0) (by omega)
 have g2:=w5 ((A.getD i 0+B.getD i 0)%32) (by omega)
 have g3:=w4 (A.getD i 0) (by omega)
 have g4:=w4 (B.getD i 0) (by omega)
 have g5:q0s 5 ((A.getD i 0+B.getD i 0)%32)=q0s 5 (A.getD i 0+B.getD i 0):=by unfold q0s;congr 2;omega
 simp only[yp]at g1 g2 g3 g4
 simp only[h1,h2,dT,cT,yc,yd,yb,e1,e2,z84,zeu F (show(0:Int)<32∧(32:Int)≤1000000000 by decide),g1,g2,g3,g4,g5,y5]
 cases d
 ·simp only[cF,w10,n10,yn,if_false,false_and]
 ·simp only[cT,w10,n10,if_true,true_and,qac]
  by_cases hn:0≤A.getD i 0+B.getD i 0∧A.getD i 0+B.getD i 0≤31
  ·have hb:¬(A.getD i 0+B.getD i 0<0∨31<A.getD i 0+B.getD i 0):=by omega
   simp only[hn,and_self,dT,Bool.not_true,cF,hb,if_false]
  ·have hb:(A.getD i 0+B.getD i 0<0∨31<A.getD i 0+B.getD i 0):=by omega
   simp only[hn,dF,Bool.not_false,cT,hb,if_true]
theorem zhp(d:Bool)(A B:LI):(if d=true∧qac A B 0 then((0:Nat):Int)else(if d=true∧qac A B 1 then((1:Nat):Int)else(if d=true∧qac A B 2 then((2:Nat):Int)else 3)))=qjc d A B:=by
 unfold qjc
 cases d
 ·simp
 ·by_cases h0:qac A B 0<;>by_cases h1:qac A B 1<;>by_cases h2:qac A B 2<;>simp[h0,h1,h2]
theorem qwi{F:Nat}(hF:10≤F)(d f:Bool){A B:LI}(hf:qgr A B)(T W:LI):q91 F (d,f,A,B,T,W,())=some (q1h d A B,qjc d A B,()):=by
 unfold q91
 have s0:∀n far x6 x7,q12 F (n+1) d f A B T W x6 x7 far 0=_:=fun n far x6 x7=>qo7 hF n d f hf T W x6 x7 far (i:=0) (by decide)
 have s1:∀n far x6 x7,q12 F (n+1) d f A B T W x6 x7 far 1=_:=fun n far x6 x7=>qo7 hF n d f hf T W x6 x7 far (i:=1) (by decide)
 have s2:∀n far x6 x7,q12 F (n+1) d f A B T W x6 x7 far 2=_:=fun n far x6 x7=>qo7 hF n d f hf T W x6 x7 far (i:=2) (by decide)
 have s3:∀n far x6 x7,q12 F (n+1) d f A B T W x6 x7 far (-1)=some (x6,x7,far,()):=fun n far x6 x7=>rfl
 obtain⟨n,hn⟩:∃n,F=n+4:=⟨F-4,by omega⟩
 have key:∀(m:Nat),m=n+4→∀x6 x7:LI,q12 F m d f A B T W x6 x7 3 2=some (x6,(((((x7.set 2 (q0s (w10 d) (A.getD 2 0))).set 6 (q0s (w10 d) (n10 d A B 2))).set 1 (q0s (w10 d) (A.getD 1 0))).set 5 (q0s (w10 d) (n10 d A B 1))).set 0 (q0s (w10 d) (A.getD 0 0))).set 4 (q0s (w10 d) (n10 d A B 0)),qjc d A B,()):=by
  intro m hm x6 x7
  subst hm
  rw[←zhp d A B]
  refine(s2 _ _ _ _).trans ((s1 _ _ _ _).trans ((s0 _ _ _ _).trans (s3 _ _ _ _)))
 simp only[key F hn,y5]
 rfl
theorem z0e{F k:Nat}(n:Int)(hn: -183≤n∧n≤183)(l x2:LI)(hb:∀c,0≤l.getD c 0∧l.getD c 0≤255){c:Nat}(hc:c<3):
  q63 F (k+1) n l x2 c=q63 F k n (l.set c (q0w (l.getD c 0+n))) x2 ((c+1:Nat):Int):=by
 have h0:q63 F (k+1) n l x2 c=qh2 F (q63 F k) n l x2 c:=rfl
 rw[h0]
 unfold qh2
 have h1:(c:Int)<3:=by omega
 have h2:(c:Int)<4:=by omega
 have lb:=hb c
 simp only[h1,h2,dT,cT,yc,yd,yb,y5,z83,q0d (show c<1000000000000 by omega)]
 rw[w64 (by omega) (by omega)]
theorem zle{F:Nat}(hF:10≤F){n:Int}(hn: -183≤n∧n≤183){a b c e:Int}(hb:∀i,0≤([a,b,c,e]:LI).getD i 0∧([a,b,c,e]:LI).getD i 0≤255):q1q F [a,b,c,e] n=some ([q0w (a+n),q0w (b+n),q0w (c+n),e],()):=by
 unfold q1q
 have key:∀m,m=F→∀k,m=k+4→∀x2:LI,q63 F m n [a,b,c,e] x2 0=some ([q0w (a+n),q0w (b+n),q0w (c+n),e],x2,()):=fun m _ k hk x2=>by
  subst hk
  refine(z0e (k:=k+3) n hn [a,b,c,e] x2 hb (c:=0) (by decide)).trans ?_
  refine(z0e (k:=k+2) n hn _ x2 (qmd hb 0 (q0y _)) (c:=1) (by decide)).trans ?_
  exact(z0e (k:=k+1) n hn _ x2 (qmd (qmd hb 0 (q0y _)) 1 (q0y _)) (c:=2) (by decide)).trans rfl
 rw[key F rfl (F-4) (by omega)]
 rfl
theorem qwj{F:Nat}(hF:17≤F)(d f:Bool){A B T W:LI}(hf:qgr A B)(hW:∀i,0≤W.getD i 0∧W.getD i 0≤3):q92 F (d,f,A,B,T,W,())=some (qbb d f A B T W,()):=by
 unfold q92
 have loop:∀x6 x8:LI,x8.length=64→q4u F F d f A B T W x6 (q1h d A B) x8 0=some (x6,qbb d f A B T W,()):=by
  intro x6 x8 h8
  refine zbw 16 4 (zb4 (q1h d A B) T W f) (fun i hi=>rfl) (fun k w i=>q4u F k d f A B T W x6 (q1h d A B) w i) (fun w=>some (x6,w,())) ?_ ?_ _ h8 F (by omega)
  ·intro k i w hi hw
   show q6v F (q4u F k) d f A B T W x6 (q1h d A B) w i=_
   unfold q6v
   have h1:(i:Int)<16:=by omega
   have hh:=qmc f i
   have h2:(q2m f i:Int)<2:=by omega
   have t4:=take4 (l:=q1h d A B) (n:=q2m f i*4) (by rw[qo6];omega)
   have hw3:=hW i
   have h3:W.getD i 0<4:=by omega
   have em:W.getD i 0%4=W.getD i 0:=Int.emod_eq_of_lt hw3.1 (by omega)
   have tb:=qwh ((T.getD (q2m f i) 0)%8).toNat (W.getD i 0).toNat
   have hadd:=zle (F:=F) (by omega) tb (a:=(q1h d A B).getD (q2m f i*4) 0) (b:=(q1h d A B).getD (q2m f i*4+1) 0) (c:=(q1h d A B).getD (q2m f i*4+2) 0) (e:=(q1h d A B).getD (q2m f i*4+3) 0)
    (fun c=>qb1 (p:=fun x=>0≤x∧x≤255) (by decide) (fun x hx=>by
      simp only[yr,List.not_mem_nil,or_false]at hx
      rcases hx with rfl|rfl|rfl|rfl<;>exact qha d A B _) c)
   simp only[h1,dT,cT,yc,yd,yb,(qj1 F f i).2,y5,h2,zji,hw3.1,h3,t4,hadd,q0d (show i<1000000000000 by omega)]
   unfold zb4 zev
   rw[em]
  ·intro k w hw
   show q6v F (q4u F k) d f A B T W x6 (q1h d A B) w 16=_
   unfold q6v
   simp
 rw[qwi (by omega) d f hf]
 simp only[y5]
 rw[loop _ _ rfl]
 rfl
theorem z85(b:LI):∀i,0≤(eWs b).getD i 0∧(eWs b).getD i 0≤3:=fun i=>qb1 (p:=fun x=>0≤x∧x≤3) (by decide) (fun x hx=>by
 obtain⟨j,_,rfl⟩:=List.mem_map.1 hx
 have h1:=q0x b (47-q5i j) 1
 have h2:=q0x b (63-q5i j) 1
 omega) i
theorem eFair(d:Bool)(b:LI):qgr (eAs d b) (eBs d b):=by
 have ha:∀c,0≤eA d b c∧eA d b c≤31:=fun c=>by
  have h1:=q0x b (8*c) 5
  have h2:=q0x b (8*c) 4
  unfold eA
  split<;>omega
 have hb:∀c,-4≤eB d b c∧eB d b c≤15:=fun c=>by
  have h1:=q0x b (8*c+5) 3
  have h2:=q0x b (8*c+4) 4
  unfold eB sg3
  split
  ·split<;>omega
  ·omega
 refine⟨rfl,rfl,fun i=>qb1 (p:=fun x=>0≤x∧x≤31) (by decide) (fun x hx=> ?_) i,fun i=>qb1 (p:=fun x=> -4≤x∧x≤15) (by decide) (fun x hx=> ?_) i⟩
 ·simp only[eAs,yr,List.not_mem_nil,or_false]at hx
  rcases hx with rfl|rfl|rfl<;>exact ha _
 ·simp only[eBs,yr,List.not_mem_nil,or_false]at hx
  rcases hx with rfl|rfl|rfl<;>exact hb _
def z86(b:LI):LI:=qbb (qa1 b) (zmo b) (eAs (qa1 b) b) (eBs (qa1 b) b) [hv b 24 3,hv b 27 3] (eWs b)
theorem z87{F:Nat}(hF:66≤F){b:LI}(hb:Bytes b)(hl:b.length=8):qh1 F b=some (z86 b,0,())∧qf4 F b=some (z86 b,0,()):=by
 unfold qh1 qf4
 rw[z0c hF hb hl,qwg hF hb hl]
 simp only[y5,eP,bne_self_eq_false,cF]
 rw[zbx (by omega) _ _ (eFair _ b) (z85 b),qwj (by omega) _ _ (eFair _ b) (z85 b)]
 exact⟨rfl,rfl⟩
abbrev Fits(n:Nat)(v:Int):Prop:=0≤v∧v<2^n
def lay1(st:LI×Bool)(a n:Nat)(v:Int):LI×Bool:=if st.2=true∧Fits n v then(hset st.1 a n v,true)else(st.1,false)
theorem qo8{F:Nat}(hF:66≤F){out:LI}(hb:Bytes out)(hl:out.length=8){a n:Nat}(hn:n≤16)(h:a+n≤64){v:Int}(hv:IntKind.i64.has v)(fine:Bool):
  q06 F a n v out fine=some ((lay1 (out,fine) a n v).1,(lay1 (out,fine) a n v).2,()):=by
 have hv' :=has_iff.1 hv
 simp only[loB,hiB]at hv'
 have h2:(2:Int)^n≤2^16:=qgd hn
 have hp:=qfj n
 unfold q06 lay1
 by_cases hf:Fits n v
 ·have hf' :=hf
  obtain⟨f1,f2⟩:=hf
  rw[wu64 f1 (by omega),qhs hF hb (by omega) (by omega) (by omega) ⟨f1,f2⟩]
  cases fine
  ·rfl
  ·simp only[y5,cT,beq_self_eq_true,true_and,iP hf']
 ·have hw:∃u,y0 .u64 v=u∧0≤u∧u≤18446744073709551615∧2^n≤u:=by
   by_cases h0:0≤v
   ·exact⟨v,wu64 h0 (by omega),h0,by omega,by unfold Fits at hf;omega⟩
   ·refine⟨v+18446744073709551616,?_,by omega,by omega,by omega⟩
    simp only[y0,IntKind.bits,IntKind.signed]
    simp
    omega
  obtain⟨u,e,u1,u2,u3⟩:=hw
  rw[e,z0b hF hb (by omega) (by omega) ⟨u1,u2⟩]
  have hfit:qt3 out.length (a:Int) (n:Int) u=10:=by
   unfold qt3
   rw[iP (zhj (by omega) (by omega)),iP]
   refine⟨by omega,?_⟩
   intro h0
   have h1:=Int.emod_add_mul_ediv u (2^(n:Int).toNat)
   have h3:=Int.emod_lt_of_pos u (qfj (n:Int).toNat)
   rw[h0]at h1
   simp only[yb]at h1 h3
   omega
  simp only[hfit,y5,hf,and_false,if_false]
  cases fine<;>rfl
structure Laid (A N:Nat→Nat) (V:Nat→Int) (m:Nat) (st:LI×Bool):Prop where
 len:st.1.length=8
 bytes:Bytes st.1
 fine:st.2=true↔∀i,i<m→Fits (N i) (V i)
 eq:st.2=true→st.1=qjb A N V [0,0,0,0,0,0,0,0] m
theorem Laid.nil(A N:Nat→Nat)(V:Nat→Int):Laid A N V 0 ([0,0,0,0,0,0,0,0],true):=
 ⟨rfl,fun x hx=>by simp at hx;omega,by simp,fun _=>rfl⟩
theorem qyh{st:LI×Bool}(hl:st.1.length=8)(hb:Bytes st.1)(a n:Nat)(v:Int):(lay1 st a n v).1.length=8∧Bytes (lay1 st a n v).1:=by
 unfold lay1
 split
 ·exact⟨by rw[qtu,hl],qhr hb _ _ _⟩
 ·exact⟨hl,hb⟩
theorem Laid.step{A N:Nat→Nat}{V:Nat→Int}{m:Nat}{st:LI×Bool}(h:Laid A N V m st):Laid A N V (m+1) (lay1 st (A m) (N m) (V m)):=by
 have hk:=qyh h.len h.bytes (A m) (N m) (V m)
 refine⟨hk.1,hk.2,?_,?_⟩
 ·unfold lay1
  by_cases hc:st.2=true∧Fits (N m) (V m)
  ·rw[iP hc]
   simp only[true_iff]
   intro i hi
   rcases Nat.lt_or_ge i m with h1|h1
   ·exact h.fine.1 hc.1 i h1
   ·have:i=m:=by omega
    subst this
    exact hc.2
  ·rw[iN hc]
   simp only[yn,false_iff]
   exact fun hall=>hc ⟨h.fine.2 fun i hi=>hall i (by omega),hall m (by omega)⟩
 ·unfold lay1
  split
  ·rename_i hc
   intro _
   show hset st.1 (A m) (N m) (V m)=_
   rw[h.eq hc.1]
   rfl
  ·intro h2;cases h2
theorem Laid.bad{A N:Nat→Nat}{V:Nat→Int}{m:Nat}{st st' :LI×Bool}(h:Laid A N V m st)(hl:st'.1.length=8)(hb:Bytes st'.1)(hf:st'.2=false)(hv:¬Fits (N m) (V m)):Laid A N V (m+1) st' :=
 ⟨hl,hb,by rw[hf];simp only[yn,false_iff];exact fun hall=>hv (hall m (by omega)),by rw[hf];intro h2;cases h2⟩
def jA(d:Bool)(j:Nat):Nat:=if j<6 then(if d then(if j%2=0 then 8*(j/2)else 8*(j/2)+5)else 4*j)else if j=6 then 24 else if j=7 then 27 else if j=8 then 30 else if j=9 then 31
 else if j%2=0 then 47-q5i ((j-10)/2)else 63-q5i ((j-10)/2)
def jN(d:Bool)(j:Nat):Nat:=if j<6 then(if d then(if j%2=0 then 5 else 3)else 4)else if j<8 then 3 else 1
def q9h(b:Bool):Int:=if b then 1 else 0
def jV(d f:Bool)(A B T W:LI)(j:Nat):Int:=
 if j<6 then(if j%2=0 then A.getD (j/2) 0 else if d then(if-4≤B.getD (j/2) 0∧B.getD (j/2) 0<4 then B.getD (j/2) 0%8 else-1)else B.getD (j/2) 0)
 else if j=6 then T.getD 0 0 else if j=7 then T.getD 1 0 else if j=8 then q9h d else if j=9 then q9h f
 else if 0≤W.getD ((j-10)/2) 0∧W.getD ((j-10)/2) 0≤3 then(if j%2=0 then W.getD ((j-10)/2) 0/2 else W.getD ((j-10)/2) 0%2)else-1
theorem j_pos:∀d:Bool,∀i,i<42→jA d i+jN d i≤64∧jN d i≤8:=by decide+kernel
theorem j_apart:∀d:Bool,∀i,i<42→∀j,j<42→i≠j→jA d i+jN d i≤jA d j∨jA d j+jN d j≤jA d i:=by decide+kernel
def Ok10(d:Bool)(A B T W:LI):Prop:=
 (∀c,c<3→if d then(0≤A.getD c 0∧A.getD c 0≤31)∧(-4≤B.getD c 0∧B.getD c 0≤3)else(0≤A.getD c 0∧A.getD c 0≤15)∧(0≤B.getD c 0∧B.getD c 0≤15))∧
 (∀i,i<16→0≤W.getD i 0∧W.getD i 0≤3)∧(0≤T.getD 0 0∧T.getD 0 0≤7)∧(0≤T.getD 1 0∧T.getD 1 0≤7)
theorem zhq(d f:Bool)(A B T W:LI):Ok10 d A B T W↔∀j,j<42→Fits (jN d j) (jV d f A B T W j):=by
 have p1:(2:Int)^1=2:=rfl
 have p3:(2:Int)^3=8:=rfl
 have p4:(2:Int)^4=16:=rfl
 have p5:(2:Int)^5=32:=rfl
 constructor
 ·rintro⟨h1,h2,h3,h4⟩ j hj
  by_cases c6:j<6
  ·have hc:=h1 (j/2) (by omega)
   unfold jV jN Fits
   rw[iP c6,iP c6]
   cases d
   ·simp only[yn,if_false]at hc⊢
    rw[p4]
    split<;>omega
   ·simp only[if_true]at hc⊢
    rcases Nat.mod_two_eq_zero_or_one j with e|e
    ·simp only[e,if_true]
     rw[p5]
     omega
    ·have:¬(1:Nat)=0:=by omega
     simp only[e,this,if_false]
     rw[iP (by omega),p3]
     omega
  ·by_cases c6' :j=6
   ·subst c6';show Fits 3 (T.getD 0 0);unfold Fits;omega
   by_cases c7:j=7
   ·subst c7;show Fits 3 (T.getD 1 0);unfold Fits;omega
   by_cases c8:j=8
   ·subst c8;show Fits 1 (q9h d);cases d<;>decide
   by_cases c9:j=9
   ·subst c9;show Fits 1 (q9h f);cases f<;>decide
   have hw:=h2 ((j-10)/2) (by omega)
   unfold jV jN Fits
   rw[iN c6,iN (show¬j<8 by omega),iN c6,iN c6',iN c7,iN c8,iN c9,iP (by omega),p1]
   split<;>omega
 ·intro h
  refine⟨fun c hc=> ?_,fun i hi=> ?_,?_,?_⟩
  ·have h1:=h (2*c) (by omega)
   have h2:=h (2*c+1) (by omega)
   unfold jV jN Fits at h1 h2
   rw[iP (show 2*c<6 by omega),iP (show 2*c<6 by omega),iP (show 2*c%2=0 by omega),show 2*c/2=c by omega]at h1
   rw[iP (show 2*c+1<6 by omega),iP (show 2*c+1<6 by omega),iN (show¬(2*c+1)%2=0 by omega),show(2*c+1)/2=c by omega]at h2
   cases d
   ·simp only[yn,if_false]at h1 h2⊢
    rw[p4]at h1 h2
    omega
   ·simp only[if_true,show 2*c%2=0 by omega]at h1
    simp only[if_true,show¬(2*c+1)%2=0 by omega,if_false]at h2
    rw[p5]at h1
    simp only[if_true]
    split at h2<;>omega
  ·have h1:=h (10+2*i) (by omega)
   unfold jV jN Fits at h1
   rw[iN (show¬10+2*i<6 by omega),iN (show¬10+2*i<6 by omega),iN (show¬10+2*i=6 by omega),iN (show¬10+2*i=7 by omega),iN (show¬10+2*i=8 by omega),iN (show¬10+2*i=9 by omega),
    show(10+2*i-10)/2=i by omega]at h1
   split at h1<;>omega
  ·have:Fits 3 (T.getD 0 0):=h 6 (by omega)
   unfold Fits at this
   omega
  ·have:Fits 3 (T.getD 1 0):=h 7 (by omega)
   unfold Fits at this
   omega
theorem zlf(F:Nat)(b:Bool):qbf F b=some (q9h b,()):=by cases b<;>rfl
def Is64(l:LI):Prop:=∀i,IntKind.i64.has (l.getD i 0)
theorem Is64.of{l:LI}(h:∀x∈l,IntKind.i64.has x):Is64 l:=fun i=>qb1 (p:=fun x=>IntKind.i64.has x) (has_iff.2 (by decide)) h i
theorem ql1{F:Nat}(hF:66≤F)(k:Nat)(d f:Bool){A B:LI}(T W:LI)(hA:Is64 A)(hB:Is64 B){c:Nat}(hc:c<3){st:LI×Bool}(h:Laid (jA d) (jN d) (jV d f A B T W) (2*c) st):
  ∃st',q2y F (k+1) d f A B T W st.1 st.2 c=q2y F k d f A B T W st'.1 st'.2 ((c+1:Nat):Int)∧Laid (jA d) (jN d) (jV d f A B T W) (2*c+2) st' :=by
 obtain⟨out,fine⟩:=st
 have h0:q2y F (k+1) d f A B T W out fine c=qc8 F (q2y F k) d f A B T W out fine c:=rfl
 simp only[h0]
 unfold qc8
 have h1:(c:Int)<3:=by omega
 have e8:y0 .i64 ((8:Int)*(c:Int))=((8*c:Nat):Int):=by rw[w64 (by omega) (by omega)];omega
 have e4:y0 .i64 (((8*c:Nat):Int)+4)=((8*c+4:Nat):Int):=by rw[w64 (by omega) (by omega)];omega
 have e5:y0 .i64 (((8*c:Nat):Int)+5)=((8*c+5:Nat):Int):=by rw[w64 (by omega) (by omega)];omega
 have hb0:=has_iff.1 (hB c)
 simp only[loB,hiB]at hb0
 have step1:=h.step
 have k1:=qyh h.len h.bytes (jA d (2*c)) (jN d (2*c)) (jV d f A B T W (2*c))
 cases d
 ·have aA:jA false (2*c)=8*c:=by simp[jA,show 2*c<6 by omega];omega
  have aN:jN false (2*c)=4:=by simp[jN,show 2*c<6 by omega]
  have aV:jV false f A B T W (2*c)=A.getD c 0:=by simp[jV,show 2*c<6 by omega]
  have bA:jA false (2*c+1)=8*c+4:=by simp[jA,show 2*c+1<6 by omega];omega
  have bN:jN false (2*c+1)=4:=by simp[jN,show 2*c+1<6 by omega]
  have bV:jV false f A B T W (2*c+1)=B.getD c 0:=by simp[jV,show 2*c+1<6 by omega,show(2*c+1)%2=1 by omega,show(2*c+1)/2=c by omega]
  have step2:=step1.step
  rw[aA,aN,aV]at k1 step1 step2
  rw[bA,bN,bV]at step2
  have g1:=qo8 hF h.bytes h.len (a:=8*c) (n:=4) (by decide) (by omega) (hA c) fine
  have g2:=qo8 hF k1.2 k1.1 (a:=8*c+4) (n:=4) (by decide) (by omega) (hB c) (lay1 (out,fine) (8*c) 4 (A.getD c 0)).2
  simp only[yp]at g1 g2
  refine⟨_,?_,step2⟩
  simp only[h1,dT,cT,Bool.not_false,yc,yd,yb,e8,e4,g1,g2,y5,q0d (show c<1000000000000 by omega)]
 ·have aA:jA true (2*c)=8*c:=by simp[jA,show 2*c<6 by omega]
  have aN:jN true (2*c)=5:=by simp[jN,show 2*c<6 by omega]
  have aV:jV true f A B T W (2*c)=A.getD c 0:=by simp[jV,show 2*c<6 by omega]
  have bA:jA true (2*c+1)=8*c+5:=by simp[jA,show 2*c+1<6 by omega,show(2*c+1)%2=1 by omega,show(2*c+1)/2=c by omega]
  have bN:jN true (2*c+1)=3:=by simp[jN,show 2*c+1<6 by omega,show(2*c+1)%2=1 by omega]
  have bV:jV true f A B T W (2*c+1)=if-4≤B.getD c 0∧B.getD c 0<4 then B.getD c 0%8 else-1:=by simp[jV,show 2*c+1<6 by omega,show(2*c+1)%2=1 by omega,show(2*c+1)/2=c by omega]
  rw[aA,aN,aV]at k1 step1
  have g1:=qo8 hF h.bytes h.len (a:=8*c) (n:=5) (by decide) (by omega) (hA c) fine
  have g2:=fun v hv=>qo8 hF k1.2 k1.1 (a:=8*c+5) (n:=3) (by decide) (by omega) (v:=v) hv (lay1 (out,fine) (8*c) 5 (A.getD c 0)).2
  have step2:=step1.step
  rw[bA,bN,bV]at step2
  have bad2:=fun(st' :LI×Bool) hl hb hf hv=>step1.bad (st' :=st') hl hb hf hv
  rw[bN,bV]at bad2
  have keep2:=fun v=>qyh k1.1 k1.2 (8*c+5) 3 v
  simp only[yp]at g1 g2
  generalize hst:lay1 (out,fine) (8*c) 5 (A.getD c 0)=st1 at*
  generalize hB' :B.getD c 0=y at*
  simp only[h1,dT,cT,Bool.not_true,cF,yc,yd,yb,e8,e5,g1,hB',y5,zlf,q0d (show c<1000000000000 by omega)]
  by_cases hneg:y<0
  ·simp only[hneg,dT,cT]
   by_cases hm4: -4≤y
   ·have et:y0 .i64 (y-y0 .i64 (-8*q9h (decide (-4≤y))))=y+8:=by
     simp only[hm4,dT,q9h,if_true]
     rw[w64 (x:= -8*1) (by decide) (by decide),w64 (by omega) (by omega)]
     omega
    rw[iP ⟨hm4,by omega⟩,show y%8=y+8 by omega]at step2
    have hy4:y<4:=by omega
    simp only[et,g2 (y+8) (has_iff.2 (by simp only[loB,hiB];omega)),y5,hy4,dT]
    refine⟨lay1 st1 (8*c+5) 3 (y+8),?_,step2⟩
    cases hq:(lay1 st1 (8*c+5) 3 (y+8)).2<;>rfl
   ·have et:y0 .i64 (y-y0 .i64 (-8*q9h (decide (-4≤y))))=y:=by
     simp only[hm4,dF,q9h,yn,if_false]
     rw[w64 (x:= -8*0) (by decide) (by decide),w64 (by omega) (by omega)]
     omega
    rw[iN (by omega)]at bad2
    have hq:(lay1 st1 (8*c+5) 3 y).2=false:=by unfold lay1;rw[iN];unfold Fits;omega
    simp only[et,g2 y (has_iff.2 (by simp only[loB,hiB];omega)),y5,hq,cF]
    exact⟨((lay1 st1 (8*c+5) 3 y).1,false),rfl,bad2 _ (keep2 y).1 (keep2 y).2 rfl (by unfold Fits;omega)⟩
  ·have et:y0 .i64 (y-y0 .i64 (-8*q9h false))=y:=by
    simp only[q9h,yn,if_false]
    rw[w64 (x:= -8*0) (by decide) (by decide),w64 (by omega) (by omega)]
    omega
   simp only[hneg,dF,cF,et,g2 y (has_iff.2 (by simp only[loB,hiB];omega)),y5]
   by_cases hy4:y<4
   ·rw[iP ⟨by omega,hy4⟩,show y%8=y by omega]at step2
    simp only[hy4,dT]
    refine⟨lay1 st1 (8*c+5) 3 y,?_,step2⟩
    cases hq:(lay1 st1 (8*c+5) 3 y).2<;>rfl
   ·rw[iN (by omega)]at bad2
    simp only[hy4,dF]
    refine⟨((lay1 st1 (8*c+5) 3 y).1,false),?_,bad2 _ (keep2 y).1 (keep2 y).2 rfl (by unfold Fits;omega)⟩
    cases hq:(lay1 st1 (8*c+5) 3 y).2<;>rfl
theorem Laid.off{A N:Nat→Nat}{V:Nat→Int}{m:Nat}{st st' :LI×Bool}(h:Laid A N V m st)(h0:st.2=false)(hl:st'.1.length=8)(hb:Bytes st'.1)(hf:st'.2=false):Laid A N V (m+1) st' :=by
 refine⟨hl,hb,?_,?_⟩
 ·rw[hf]
  simp only[yn,false_iff]
  intro hall
  rw[h.fine.2 fun i hi=>hall i (by omega)]at h0
  cases h0
 ·rw[hf]
  intro h2
  cases h2
theorem z44{F:Nat}(hF:66≤F){st:LI×Bool}(hb:Bytes st.1)(hl:st.1.length=8){a n:Nat}(hn:n≤16)(h:a+n≤64){v:Int}(hv:IntKind.i64.has v):
  q06 F a n v st.1 st.2=some ((lay1 st a n v).1,(lay1 st a n v).2,()):=qo8 hF hb hl hn h hv st.2
theorem zlg(out:LI)(a n:Nat)(v:Int):lay1 (out,false) a n v=(out,false):=by unfold lay1;rw[iN];simp
theorem iand1(x:Int):iand .i64 x 1=x%2:=qiz (x:=x) (b:=1) (by decide)
theorem zb5{F:Nat}(hF:66≤F)(k:Nat)(d f:Bool)(A B T:LI){W:LI}(hW:Is64 W){i:Nat}(hi:i<16){st:LI×Bool}(h:Laid (jA d) (jN d) (jV d f A B T W) (10+2*i) st):
  ∃st',q3k F (k+1) st.1 st.2 W i=q3k F k st'.1 st'.2 W ((i+1:Nat):Int)∧Laid (jA d) (jN d) (jV d f A B T W) (10+2*(i+1)) st' :=by
 obtain⟨out,fine⟩:=st
 have h0:q3k F (k+1) out fine W i=qc9 F (q3k F k) out fine W i:=rfl
 simp only[h0]
 unfold qc9
 have h1:(i:Int)<16:=by omega
 have hc:=zer hi
 have e1:y0 .i64 ((47:Int)-(q5i i:Int))=((47-q5i i:Nat):Int):=by rw[w64 (by omega) (by omega)];omega
 have e2:y0 .i64 ((63:Int)-(q5i i:Int))=((63-q5i i:Nat):Int):=by rw[w64 (by omega) (by omega)];omega
 have hw:=has_iff.1 (hW i)
 simp only[loB,hiB]at hw
 have aA:jA d (10+2*i)=47-q5i i:=by
  unfold jA
  rw[iN (by omega),iN (by omega),iN (by omega),iN (by omega),iN (by omega),iP (by omega),show(10+2*i-10)/2=i by omega]
 have bA:jA d (10+2*i+1)=63-q5i i:=by
  unfold jA
  rw[iN (by omega),iN (by omega),iN (by omega),iN (by omega),iN (by omega),iN (by omega),show(10+2*i+1-10)/2=i by omega]
 have aN:jN d (10+2*i)=1:=by unfold jN;rw[iN (by omega),iN (by omega)]
 have bN:jN d (10+2*i+1)=1:=by unfold jN;rw[iN (by omega),iN (by omega)]
 have aV:jV d f A B T W (10+2*i)=if 0≤W.getD i 0∧W.getD i 0≤3 then W.getD i 0/2 else-1:=by
  unfold jV
  rw[iN (by omega),iN (by omega),iN (by omega),iN (by omega),iN (by omega),show(10+2*i-10)/2=i by omega,iP (show(10+2*i)%2=0 by omega)]
 have bV:jV d f A B T W (10+2*i+1)=if 0≤W.getD i 0∧W.getD i 0≤3 then W.getD i 0%2 else-1:=by
  unfold jV
  rw[iN (by omega),iN (by omega),iN (by omega),iN (by omega),iN (by omega),show(10+2*i+1-10)/2=i by omega,iN (show¬(10+2*i+1)%2=0 by omega)]
 have sh:ishr .i64 (W.getD i 0) 1=W.getD i 0/2:=z7z (x:=W.getD i 0) (k:=1) (by decide)
 have l1:=fun(o:LI) (hb:Bytes o) (hl:o.length=8) (fl:Bool) (v:Int) (hv:IntKind.i64.has v)=>qo8 hF hb hl (a:=47-q5i i) (n:=1) (by decide) (by omega) hv fl
 have l2:=fun(o:LI) (hb:Bytes o) (hl:o.length=8) (fl:Bool) (v:Int) (hv:IntKind.i64.has v)=>qo8 hF hb hl (a:=63-q5i i) (n:=1) (by decide) (by omega) hv fl
 have m1:IntKind.i64.has (W.getD i 0/2%2):=has_iff.2 (by simp only[loB,hiB];omega)
 have m2:IntKind.i64.has (W.getD i 0%2):=has_iff.2 (by simp only[loB,hiB];omega)
 simp only[yp]at l1 l2
 have off:∀v1 v2,q06 F ((47-q5i i:Nat):Int) 1 v1 out false=some (out,false,())→q06 F ((63-q5i i:Nat):Int) 1 v2 out false=some (out,false,())→True:=fun _ _ _ _=>trivial
 have o1:q06 F ((47-q5i i:Nat):Int) 1 (W.getD i 0/2%2) out false=some (out,false,()):=by rw[l1 out h.bytes h.len false _ m1,zlg]
 have o2:q06 F ((63-q5i i:Nat):Int) 1 (W.getD i 0%2) out false=some (out,false,()):=by rw[l2 out h.bytes h.len false _ m2,zlg]
 simp only[h1,dT,cT,yc,yd,yb,z82 F hi,y5,e1,e2,sh,iand1,q0d (show i<1000000000000 by omega)]
 cases fine
 ·simp only[cF,o1,o2,y5]
  exact⟨(out,false),rfl,(h.off rfl (st' :=(out,false)) h.len h.bytes rfl).off rfl h.len h.bytes rfl⟩
 ·simp only[cT]
  by_cases hg:0≤W.getD i 0∧W.getD i 0≤3
  ·have h4:W.getD i 0<4:=by omega
   have step1:=h.step
   have k1:=qyh h.len h.bytes (47-q5i i) 1 (W.getD i 0/2)
   have step2:=step1.step
   rw[aA,aN,aV,iP hg]at step1 step2
   rw[bA,bN,bV,iP hg]at step2
   have em:W.getD i 0/2%2=W.getD i 0/2:=by omega
   rw[em]at m1
   simp only[hg.1,dT,cT,h4,em,l1 out h.bytes h.len true _ m1,y5,l2 _ k1.2 k1.1 _ _ m2]
   exact⟨_,rfl,step2⟩
  ·have b1:=h.bad (st' :=(out,false)) h.len h.bytes rfl (by rw[aN,aV,iN hg];unfold Fits;omega)
   refine⟨(out,false),?_,b1.off rfl h.len h.bytes rfl⟩
   by_cases hn:0≤W.getD i 0
   ·have h4:¬W.getD i 0<4:=by omega
    simp only[hn,h4,dT,dF,cT,o1,o2,y5]
   ·simp only[hn,dF,cF,o1,o2,y5]
theorem z1g{F:Nat}(hF:66≤F)(d f:Bool)(A B T:LI){W:LI}(hW:Is64 W):∀(k i:Nat) (st:LI×Bool),i≤16→16-i<k→Laid (jA d) (jN d) (jV d f A B T W) (10+2*i) st→
  ∃st',q3k F k st.1 st.2 W i=some (st'.1,st'.2,())∧Laid (jA d) (jN d) (jV d f A B T W) 42 st'
 |0,i,st,_,h,_=>by omega
 |k+1,i,st,hi,hk,h=>by
  by_cases h16:i<16
  ·obtain⟨st',e,h'⟩:=zb5 hF k d f A B T hW h16 h
   rw[e]
   exact z1g hF d f A B T hW k (i+1) st' (by omega) (by omega) h'
  ·have:i=16:=by omega
   subst this
   exact⟨st,rfl,h⟩
instance (d:Bool) (A B T W:LI):Decidable (Ok10 d A B T W):=by
 unfold Ok10
 have:∀c,Decidable (if d then(0≤A.getD c 0∧A.getD c 0≤31)∧(-4≤B.getD c 0∧B.getD c 0≤3)else(0≤A.getD c 0∧A.getD c 0≤15)∧(0≤B.getD c 0∧B.getD c 0≤15)):=fun c=>by
  cases d<;>simp only[yn,if_false,if_true]<;>exact inferInstance
 exact inferInstance
def qgs(d f:Bool)(A B T W:LI):LI:=qjb (jA d) (jN d) (jV d f A B T W) [0,0,0,0,0,0,0,0] 42
theorem z88{F:Nat}(hF:66≤F)(d f:Bool){A B T W:LI}(hA:Is64 A)(hB:Is64 B)(hT:Is64 T)(hW:Is64 W):
  qb5 F (d,f,A,B,T,W,())=if Ok10 d A B T W then some (qgs d f A B T W,0,())else some ([],1,()):=by
 unfold qb5
 obtain⟨n,hn⟩:∃n,F=n+4:=⟨F-4,by omega⟩
 have colours:∀(m:Nat),m=n+4→∃st:LI×Bool,q2y F m d f A B T W [0,0,0,0,0,0,0,0] true 0=some (d,f,A,B,T,W,st.1,st.2,())∧Laid (jA d) (jN d) (jV d f A B T W) 6 st:=by
  intro m hm
  subst hm
  obtain⟨s1,e1,h1⟩:=ql1 hF (n+3) d f T W hA hB (c:=0) (by decide) (Laid.nil _ _ _)
  obtain⟨s2,e2,h2⟩:=ql1 hF (n+2) d f T W hA hB (c:=1) (by decide) h1
  obtain⟨s3,e3,h3⟩:=ql1 hF (n+1) d f T W hA hB (c:=2) (by decide) h2
  exact⟨s3,e1.trans (e2.trans (e3.trans rfl)),h3⟩
 obtain⟨st6,e6,l6⟩:=colours F hn
 have l7:=l6.step
 have l8:=l7.step
 have l9:=l8.step
 have l10:=l9.step
 have f6:jA d 6=24∧jN d 6=3∧jV d f A B T W 6=T.getD 0 0:=⟨rfl,rfl,rfl⟩
 have f7:jA d 7=27∧jN d 7=3∧jV d f A B T W 7=T.getD 1 0:=⟨rfl,rfl,rfl⟩
 have f8:jA d 8=30∧jN d 8=1∧jV d f A B T W 8=q9h d:=⟨rfl,rfl,rfl⟩
 have f9:jA d 9=31∧jN d 9=1∧jV d f A B T W 9=q9h f:=⟨rfl,rfl,rfl⟩
 rw[f6.1,f6.2.1,f6.2.2]at l7 l8 l9 l10
 rw[f7.1,f7.2.1,f7.2.2]at l8 l9 l10
 rw[f8.1,f8.2.1,f8.2.2]at l9 l10
 rw[f9.1,f9.2.1,f9.2.2]at l10
 have g6:=z44 hF l6.bytes l6.len (a:=24) (n:=3) (by decide) (by decide) (hT 0)
 have g7:=z44 hF l7.bytes l7.len (a:=27) (n:=3) (by decide) (by decide) (hT 1)
 have g8:=z44 hF l8.bytes l8.len (a:=30) (n:=1) (by decide) (by decide) (v:=q9h d) (by cases d<;>exact has_iff.2 (by decide))
 have g9:=z44 hF l9.bytes l9.len (a:=31) (n:=1) (by decide) (by decide) (v:=q9h f) (by cases f<;>exact has_iff.2 (by decide))
 obtain⟨st,e,l42⟩:=z1g hF d f A B T hW F 0 _ (by omega) (by omega) l10
 simp only[yp]at g6 g7 g8 g9
 rw[yq]at e
 have e6' :q2y F F d f A B T W qh0 true 0=_:=e6
 simp only[e6',y5,g6,g7,g8,g9,zlf,e]
 have hfine:=l42.fine
 rw[←zhq]at hfine
 by_cases hok:Ok10 d A B T W
 ·have:=hfine.2 hok
  rw[iP hok,this,l42.eq this]
  rfl
 ·have:st.2=false:=by
   cases hq:st.2
   ·rfl
   ·exact absurd (hfine.1 hq) hok
  rw[iN hok,this]
  rfl
def okc(d:Bool)(A B:LI)(c:Nat):Prop:=if d then(0≤A.getD c 0∧A.getD c 0≤31)∧(-4≤B.getD c 0∧B.getD c 0≤3)else(0≤A.getD c 0∧A.getD c 0≤15)∧(0≤B.getD c 0∧B.getD c 0≤15)
theorem zex(F k:Nat)(d f:Bool)(A B T W:LI){c:Nat}(hc:c<3):
  (okc d A B c→q3x F (k+1) d f A B T W c=q3x F k d f A B T W ((c+1:Nat):Int))∧(¬okc d A B c→q3x F (k+1) d f A B T W c=some (.inl ())):=by
 have h0:q3x F (k+1) d f A B T W c=qh3 F (q3x F k) d f A B T W c:=rfl
 rw[h0]
 unfold qh3 okc
 have h1:(c:Int)<3:=by omega
 simp only[h1,dT,cT,yc,yd,yb,z84,y5,q0d (show c<1000000000000 by omega)]
 cases d
 ·simp only[cF,cT,Bool.not_false,yn,if_false]
  by_cases h2:0≤A.getD c 0∧A.getD c 0≤15<;>by_cases h3:0≤B.getD c 0∧B.getD c 0≤15<;>
   simp only[h2,h3,dT,dF,Bool.not_true,Bool.not_false,cT,cF,and_self,and_true,true_and,and_false,false_and,not_true_eq_false,not_false_eq_true,false_implies,forall_const,true_implies,imp_self]
 ·simp only[cF,cT,Bool.not_true,if_true]
  by_cases h2:0≤A.getD c 0∧A.getD c 0≤31<;>by_cases h3: -4≤B.getD c 0∧B.getD c 0≤3<;>
   simp only[h2,h3,dT,dF,Bool.not_true,Bool.not_false,cT,cF,and_self,and_true,true_and,and_false,false_and,not_true_eq_false,not_false_eq_true,false_implies,forall_const,true_implies,imp_self]
theorem z89(F:Nat)(d f:Bool)(A B T W:LI):∀(k i:Nat),i≤3→3-i<k→
  ((∀c,i≤c→c<3→okc d A B c)→q3x F k d f A B T W i=some (.inr (d,f,A,B,T,W,())))∧((∃c,i≤c∧c<3∧¬okc d A B c)→q3x F k d f A B T W i=some (.inl ()))
 |0,i,_,h=>by omega
 |k+1,i,hi,hk=>by
  by_cases h3:i<3
  ·obtain⟨s1,s2⟩:=zex F k d f A B T W h3
   have ih:=z89 F d f A B T W k (i+1) (by omega) (by omega)
   constructor
   ·intro h
    rw[s1 (h i (w8 _) h3)]
    exact ih.1 fun c h1 h2=>h c (by omega) h2
   ·rintro⟨c,h1,h2,h4⟩
    by_cases hc:okc d A B i
    ·rw[s1 hc]
     refine ih.2 ⟨c,?_,h2,h4⟩
     rcases Nat.eq_or_lt_of_le h1 with e|e
     ·subst e;exact absurd hc h4
     ·exact e
    ·exact s2 hc
  ·have:i=3:=by omega
   subst this
   exact⟨fun _=>rfl,fun⟨c,h1,h2,_⟩=>by omega⟩
theorem z8a(F:Nat)(d f:Bool)(A B T W:LI):∀(k i:Nat),i≤16→16-i<k→
  ((∀c,i≤c→c<16→0≤W.getD c 0∧W.getD c 0≤3)→q7a F k d f A B T W i=some (.inr (d,f,A,B,T,W,())))∧((∃c,i≤c∧c<16∧¬(0≤W.getD c 0∧W.getD c 0≤3))→q7a F k d f A B T W i=some (.inl ()))
 |0,i,_,h=>by omega
 |k+1,i,hi,hk=>by
  by_cases h3:i<16
  ·have ih:=z8a F d f A B T W k (i+1) (by omega) (by omega)
   have h0:q7a F (k+1) d f A B T W i=qh4 F (q7a F k) d f A B T W i:=rfl
   rw[h0]
   unfold qh4
   have h1:(i:Int)<16:=by omega
   simp only[h1,dT,cT,yc,yd,yb,z84,y5,q0d (show i<1000000000000 by omega)]
   constructor
   ·intro h
    simp only[h i (w8 _) h3,and_self,dT,Bool.not_true,cF]
    exact ih.1 fun c h1 h2=>h c (by omega) h2
   ·rintro⟨c,h1,h2,h4⟩
    by_cases hc:0≤W.getD i 0∧W.getD i 0≤3
    ·simp only[hc,and_self,dT,Bool.not_true,cF]
     refine ih.2 ⟨c,?_,h2,h4⟩
     rcases Nat.eq_or_lt_of_le h1 with e|e
     ·subst e;exact absurd hc h4
     ·exact e
    ·simp only[hc,dF,Bool.not_false,cT]
  ·have:i=16:=by omega
   subst this
   exact⟨fun _=>rfl,fun⟨c,h1,h2,_⟩=>by omega⟩
theorem May10_is{F:Nat}(hF:17≤F)(d f:Bool)(A B T W:LI):qxc F (d,f,A,B,T,W,())=some (decide (Ok10 d A B T W),()):=by
 unfold qxc
 have m0:=z89 F d f A B T W F 0 (by omega) (by omega)
 have m2:=z8a F d f A B T W F 0 (by omega) (by omega)
 rw[yq]at m0 m2
 by_cases h0:∀c,0≤c→c<3→okc d A B c
 ·simp only[m0.1 h0,y5]
  by_cases h2:∀c,0≤c→c<16→0≤W.getD c 0∧W.getD c 0≤3
  ·simp only[m2.1 h2,y5,z84]
   have e:Ok10 d A B T W↔(0≤T.getD 0 0∧T.getD 0 0≤7)∧(0≤T.getD 1 0∧T.getD 1 0≤7):=⟨fun h=>h.2.2,fun h=>⟨fun c hc=>h0 c (by omega) hc,fun i hi=>h2 i (by omega) hi,h⟩⟩
   by_cases h3:0≤T.getD 0 0∧T.getD 0 0≤7
   ·have e2:Ok10 d A B T W↔0≤T.getD 1 0∧T.getD 1 0≤7:=e.trans ⟨fun h=>h.2,fun h=>⟨h3,h⟩⟩
    simp only[h3,and_self,dT,cT,e2]
   ·have e2:¬Ok10 d A B T W:=fun h=>h3 (e.1 h).1
    simp only[h3,dF,cF,e2]
  ·have:∃c,0≤c∧c<16∧¬(0≤W.getD c 0∧W.getD c 0≤3):=by
    apply Classical.byContradiction
    intro hn
    exact h2 fun c h1 h3=>Classical.byContradiction fun h4=>hn ⟨c,h1,h3,h4⟩
   have e:¬Ok10 d A B T W:=fun h=>h2 fun c _ hc=>h.2.1 c hc
   simp only[m2.2 this,y5,e,dF]
 ·have:∃c,0≤c∧c<3∧¬okc d A B c:=by
   apply Classical.byContradiction
   intro hn
   exact h0 fun c h1 h3=>Classical.byContradiction fun h4=>hn ⟨c,h1,h3,h4⟩
  have e:¬Ok10 d A B T W:=fun h=>h0 fun c _ hc=>h.1 c hc
  simp only[m0.2 this,y5,e,dF]
def jl(d f:Bool)(A B T W:LI)(m:Nat):LI:=qjb (jA d) (jN d) (jV d f A B T W) [0,0,0,0,0,0,0,0] m
theorem zlh:Bytes [0,0,0,0,0,0,0,0]:=fun x hx=>by simp at hx;omega
theorem jl_bytes(d f:Bool)(A B T W:LI)(m:Nat):Bytes (jl d f A B T W m):=q6m _ _ _ zlh m
theorem jl_len(d f:Bool)(A B T W:LI)(m:Nat):(jl d f A B T W m).length=8:=by unfold jl;rw[q83];rfl
theorem Ok10.fair{d:Bool}{A B T W:LI}(h:Ok10 d A B T W)(hA:A.length=3)(hB:B.length=3):qgr A B:=by
 have out:∀(l:LI) (c:Nat),l.length=3→3≤c→l.getD c 0=0:=fun l c hl hc=>by rw[ye,w7 (by omega)];rfl
 refine⟨hA,hB,fun c=> ?_,fun c=> ?_⟩
 ·rcases Nat.lt_or_ge c 3 with hc|hc
  ·have:=h.1 c hc
   cases d
   ·simp only[yn,if_false]at this;omega
   ·simp only[if_true]at this;omega
  ·rw[out A c hA hc];decide
 ·rcases Nat.lt_or_ge c 3 with hc|hc
  ·have:=h.1 c hc
   cases d
   ·simp only[yn,if_false]at this;omega
   ·simp only[if_true]at this;omega
  ·rw[out B c hB hc];decide
theorem Ok10.which{d:Bool}{A B T W:LI}(h:Ok10 d A B T W)(hW:W.length=16):∀i,0≤W.getD i 0∧W.getD i 0≤3:=fun i=>by
 rcases Nat.lt_or_ge i 16 with hc|hc
 ·exact h.2.1 i hc
 ·rw[ye,w7 (by omega)];decide
theorem list3{l:LI}(h:l.length=3):[l.getD 0 0,l.getD 1 0,l.getD 2 0]=l:=by
 match l,h with
 |[a,b,c],_=>rfl
theorem list2{l:LI}(h:l.length=2):[l.getD 0 0,l.getD 1 0]=l:=by
 match l,h with
 |[a,b],_=>rfl
theorem zmr{l:LI}{n:Nat}(h:l.length=n):(yz n).map (fun i=>l.getD i 0)=l:=by
 subst h
 apply List.ext_getElem (by simp)
 intro i h1 h2
 simp[ye,h2]
theorem qak{d f:Bool}{A B T W:LI}(h:Ok10 d A B T W){j:Nat}(hj:j<42){a n:Nat}{v:Int}(ha:jA d j=a)(hn:jN d j=n)(hv' :jV d f A B T W j=v):hv (qgs d f A B T W) a n=v:=by
 subst ha hn hv'
 exact zla zlh (fun i hi=>(j_pos d i hi).1) (fun i j hi hj=>j_apart d i hi j hj) ((zhq d f A B T W).1 h) hj
theorem zp7{d f:Bool}{A B T W:LI}(h:Ok10 d A B T W)(lA:A.length=3)(lB:B.length=3)(lT:T.length=2)(lW:W.length=16):eP (qgs d f A B T W)=(d,f,A,B,T,W,()):=by
 have hd:qa1 (qgs d f A B T W)=d:=by
  unfold qa1
  rw[qak h (j:=8) (by decide) (a:=30) (n:=1) (v:=q9h d) rfl rfl rfl]
  cases d<;>rfl
 have hf:zmo (qgs d f A B T W)=f:=by
  unfold zmo
  rw[qak h (j:=9) (by decide) (a:=31) (n:=1) (v:=q9h f) rfl rfl rfl]
  cases f<;>rfl
 have hA:eAs d (qgs d f A B T W)=A:=by
  have key:∀c,c<3→eA d (qgs d f A B T W) c=A.getD c 0:=by
   intro c hc
   unfold eA
   cases d
   ·rw[iN (by decide)]
    exact qak h (j:=2*c) (by omega) (by simp[jA,show 2*c<6 by omega];omega) (by simp[jN,show 2*c<6 by omega]) (by simp[jV,show 2*c<6 by omega])
   ·rw[iP rfl]
    exact qak h (j:=2*c) (by omega) (by simp[jA,show 2*c<6 by omega]) (by simp[jN,show 2*c<6 by omega]) (by simp[jV,show 2*c<6 by omega])
  unfold eAs
  rw[key 0 (by decide),key 1 (by decide),key 2 (by decide)]
  exact list3 lA
 have hB:eBs d (qgs d f A B T W)=B:=by
  have key:∀c,c<3→eB d (qgs d f A B T W) c=B.getD c 0:=by
   intro c hc
   unfold eB
   cases d
   ·rw[iN (by decide)]
    exact qak h (j:=2*c+1) (by omega) (by simp[jA,show 2*c+1<6 by omega];omega) (by simp[jN,show 2*c+1<6 by omega])
     (by simp[jV,show 2*c+1<6 by omega,show(2*c+1)%2=1 by omega,show(2*c+1)/2=c by omega])
   ·have hc2:=h.1 c hc
    simp only[if_true]at hc2
    rw[iP rfl,qak h (j:=2*c+1) (by omega) (a:=8*c+5) (n:=3) (v:=B.getD c 0%8) (by simp[jA,show 2*c+1<6 by omega,show(2*c+1)%2=1 by omega,show(2*c+1)/2=c by omega])
     (by simp[jN,show 2*c+1<6 by omega,show(2*c+1)%2=1 by omega])
     (by
      unfold jV
      rw[iP (by omega),iN (by omega),show(2*c+1)/2=c by omega,iP rfl,iP (by omega)])]
    unfold sg3
    split<;>omega
  unfold eBs
  rw[key 0 (by decide),key 1 (by decide),key 2 (by decide)]
  exact list3 lB
 have hW:eWs (qgs d f A B T W)=W:=by
  unfold eWs
  conv=>rhs;rw[←zmr lW]
  refine List.map_congr_left fun i hi=> ?_
  have hi:i<16:=by simpa using hi
  have hg:=h.2.1 i hi
  rw[qak h (j:=10+2*i) (by omega) (a:=47-q5i i) (n:=1) (v:=W.getD i 0/2)
    (by unfold jA;rw[iN (by omega),iN (by omega),iN (by omega),iN (by omega),iN (by omega),iP (by omega),show(10+2*i-10)/2=i by omega])
    (by unfold jN;rw[iN (by omega),iN (by omega)])
    (by unfold jV;rw[iN (by omega),iN (by omega),iN (by omega),iN (by omega),iN (by omega),show(10+2*i-10)/2=i by omega,iP hg,iP (show(10+2*i)%2=0 by omega)]),
   qak h (j:=10+2*i+1) (by omega) (a:=63-q5i i) (n:=1) (v:=W.getD i 0%2)
    (by unfold jA;rw[iN (by omega),iN (by omega),iN (by omega),iN (by omega),iN (by omega),iN (by omega),show(10+2*i+1-10)/2=i by omega])
    (by unfold jN;rw[iN (by omega),iN (by omega)])
    (by unfold jV;rw[iN (by omega),iN (by omega),iN (by omega),iN (by omega),iN (by omega),show(10+2*i+1-10)/2=i by omega,iP hg,iN (show¬(10+2*i+1)%2=0 by omega)])]
  omega
 unfold eP
 rw[hd,hf,hA,hB,hW,qak h (j:=6) (by decide) (a:=24) (n:=3) rfl rfl rfl,qak h (j:=7) (by decide) (a:=27) (n:=3) rfl rfl rfl]
 show(d,f,A,B,[T.getD 0 0,T.getD 1 0],W,())=_
 rw[list2 lT]
theorem zby(d f:Bool)(A B T W:LI):(qgs d f A B T W).length=8:=jl_len d f A B T W 42
theorem z1h(d f:Bool)(A B T W:LI):Bytes (qgs d f A B T W):=jl_bytes d f A B T W 42
def pk(b:LI)(L:List Nat):Nat→Int
 |0=>0
 |i+1=>2*pk b L i+hv b (L.getD i 0) 1
theorem qyi(b:LI)(L:List Nat):∀i,0≤pk b L i∧pk b L i<2^i
 |0=>by simp[pk]
 |i+1=>by
  have h:=qyi b L i
  have h1:=q0x b (L.getD i 0) 1
  simp only[pk,Int.pow_succ]
  omega
theorem zp8:((yz 2048).all fun n=>(yz 2).all fun v=>ior .i64 (ishl .i64 (n:Int) 1) v==2*(n:Int)+v)=true:=by kernel_rfl
theorem or_bit{n v:Int}(hn:0≤n∧n<2048)(hv:0≤v∧v≤1):ior .i64 (ishl .i64 n 1) v=2*n+v:=by
 obtain⟨n,rfl⟩:=yh hn.1
 obtain⟨v,rfl⟩:=yh hv.1
 have:=List.all_eq_true.1 (List.all_eq_true.1 zp8 n (List.mem_range.2 (by omega))) v (List.mem_range.2 (by omega))
 simpa using this
theorem zms:((yz 2048).all fun n=>ishl .i64 (n:Int) 1==2*(n:Int))=true:=by kernel_rfl
theorem shl_one{n:Int}(hn:0≤n∧n<2048):ishl .i64 n 1=2*n:=by
 obtain⟨n,rfl⟩:=yh hn.1
 have:=List.all_eq_true.1 zms n (List.mem_range.2 (by omega))
 simpa using this
def q4f(L:List Nat):LI:=List.map (fun a:Nat=>Int.ofNat a) L
theorem qyj(L:List Nat)(i:Nat):(q4f L).getD i 0=((L.getD i 0:Nat):Int):=by
 unfold q4f
 rw[ye,ye,List.getElem?_map]
 cases L[i]? <;>rfl
theorem qfm(L:List Nat):(q4f L).length=L.length:=by simp[q4f]
def Posn(L:List Nat):Prop:=L.length≤12∧∀i,L.getD i 0<64
theorem hvT(b:LI)(a n:Nat)(hn:n≤16):y0 .i64 (hv b a n)=hv b a n:=by
 have h1:=q0x b a n
 have h2:(2:Int)^n≤2^16:=qgd hn
 exact w64 (by omega) (by omega)
theorem zmt{b:LI}(hb:Bytes b)(hl:b.length=8)(x1:Bool)(x2:Bool)(x3:LI)(x4:LI)(x5:LI)(x6:LI)(x7:Bool){L:List Nat}(hL:Posn L):
  ∀(d i k:Nat),i+d=L.length→d<k→q2n 600 k b x1 x2 x3 x4 x5 x6 x7 (pk b L i) (q4f L) ((L.length:Int)) ((i:Int))=some (pk b L L.length,()):=by
 intro d
 induction d with
 |zero=>
  intro i k h1 h2
  obtain⟨k,rfl⟩:∃k',k=k' +1:=⟨k-1,by omega⟩
  obtain rfl:i=L.length:=by omega
  unfold q2n q6p
  simp only[Int.lt_irrefl,dF,cF]
 |succ d ih=>
  intro i k h1 h2
  obtain⟨k,rfl⟩:∃k',k=k' +1:=⟨k-1,by omega⟩
  have hlen:=hL.1
  have i1:(i:Int)<(L.length:Int):=by omega
  have hp:=qyi b L i
  have hp2:(2:Int)^i≤2^11:=qgd (by omega)
  have hv1:=q0x b (L.getD i 0) 1
  have ha:=hL.2 i
  have r:qc6 600 b ((L.getD i 0:Nat):Int) (1:Int)=_:=zei (n:=1) (by omega) hb (by omega) (by omega) (by omega)
  unfold q2n q6p
  simp only[i1,dT,cT,yc,yd,yb,qfm,qyj,r,y5,hvT b _ 1 (by omega)]
  rw[q0d (by omega),or_bit (by omega) (by omega),show 2*pk b L i+hv b (L.getD i 0) 1=pk b L (i+1)from rfl]
  exact ih (i+1) k (by omega) (by omega)
theorem qvn{b:LI}(hb:Bytes b)(hl:b.length=8)(a1 a2:Bool)(a3 a4 a5 a6:LI)(a7:Bool){L:List Nat}(hL:Posn L):q05 600 b a1 a2 a3 a4 a5 a6 a7 (q4f L)=some (pk b L L.length,()):=by
 unfold q05
 have h:=zmt hb hl a1 a2 a3 a4 a5 a6 a7 hL L.length 0 600 (by omega) (by have:=hL.1;omega)
 rw[show pk b L 0=0 from rfl,show((0:Nat):Int)=0 from rfl]at h
 rw[qfm,h]
 rfl
theorem zjk{b:LI}(hb:Bytes b)(hl:b.length=8){L:List Nat}(hL:Posn L):
  ∀(d i k:Nat),i+d=L.length→d<k→q7i 600 k b (q4f L) (pk b L i) (i:Int)=some (pk b L L.length,()):=by
 intro d
 induction d with
 |zero=>
  intro i k h1 h2
  obtain⟨k,rfl⟩:∃k',k=k' +1:=⟨k-1,by omega⟩
  obtain rfl:i=L.length:=by omega
  unfold q7i qem
  simp only[qfm,Int.lt_irrefl,dF,cF]
 |succ d ih=>
  intro i k h1 h2
  obtain⟨k,rfl⟩:∃k',k=k' +1:=⟨k-1,by omega⟩
  have hlen:=hL.1
  have i1:(i:Int)<(L.length:Int):=by omega
  have hp:=qyi b L i
  have hp2:(2:Int)^i≤2^11:=qgd (by omega)
  have hv1:=q0x b (L.getD i 0) 1
  have ha:=hL.2 i
  have r:q22 600 b ((L.getD i 0:Nat):Int) (1:Int)=_:=qfl (n:=1) (by omega) hb hl (by omega) (by omega)
  unfold q7i qem
  simp only[qfm,i1,dT,cT,yc,yd,yb,qyj,r,y5]
  rw[q0d (by omega),w64 (x:=2*pk b L i) (by omega) (by omega),w64 (by omega) (by omega),show 2*pk b L i+hv b (L.getD i 0) 1=pk b L (i+1)from rfl]
  exact ih (i+1) k (by omega) (by omega)
theorem qt5{b:LI}(hb:Bytes b)(hl:b.length=8){L:List Nat}(hL:Posn L):q36 600 b (q4f L)=some (pk b L L.length,()):=by
 unfold q36
 have h:=zjk hb hl hL L.length 0 600 (by omega) (by have:=hL.1;omega)
 rw[show pk b L 0=0 from rfl,show((0:Nat):Int)=0 from rfl]at h
 rw[h]
 rfl
theorem qdy{b:LI}(hb:Bytes b)(hl:b.length=8)(a1 a2:Bool)(a3 a4 a5 a6:LI)(a7:Bool){x y:Int}{a n:Nat}(hx:x=a)(hy:y=(a:Int)+n-1)(hn:n≤16)(h:a+n≤64):
  q04 600 b a1 a2 a3 a4 a5 a6 a7 x y=some (hv b a n,())∧q2q 600 b x y=some (hv b a n,()):=by
 subst hx
 subst hy
 have e:y0 .i64 (y0 .i64 ((a:Int)+n-1-a)+1)=(n:Int):=by
  rw[w64 (x:=(a:Int)+n-1-a) (by omega) (by omega),w64 (by omega) (by omega)]
  omega
 unfold q04 q2q
 rw[e,zei (by omega) hb (by omega) (by omega) (by omega),qfl (by omega) hb hl hn h]
 simp only[y5,hvT b a n hn,and_self]
theorem zbz(x y z:Int){p q r:Nat}(hp:1≤p∧p≤8)(hq:1≤q∧q≤8)(hr:1≤r∧r≤8)(k:Nat)(x1:LI):
  q3p 600 (k+4) [(p:Int),(q:Int),(r:Int)] x1 [0,0,0,255] [x,y,z] 0=some (x1,[q0s p x,q0s q y,q0s r z,255],()):=by
 have e0:=ql0 (F:=600) (by omega) hp x
 have e1:=ql0 (F:=600) (by omega) hq y
 have e2:=ql0 (F:=600) (by omega) hr z
 unfold q3p q6x
 simp only[show(0:Int)<3 by decide,show(0:Int)<4 by decide,dT,cT,Int.le_refl,yd,show y6 0=0 from rfl,yt,e0,y5,List.set_cons_zero,show y0 .i64 (0+1)=1 from rfl]
 unfold q3p q6x
 simp only[show(1:Int)<3 by decide,show(1:Int)<4 by decide,show(0:Int)≤1 by decide,dT,cT,yd,show y6 1=1 from rfl,yt,yu,e1,y5,List.set_cons_zero,List.set_cons_succ,show y0 .i64 (1+1)=2 from rfl]
 unfold q3p q6x
 simp only[show(2:Int)<3 by decide,show(2:Int)<4 by decide,show(0:Int)≤2 by decide,dT,cT,yd,show y6 2=2 from rfl,yt,yu,e2,y5,List.set_cons_zero,List.set_cons_succ,show y0 .i64 (2+1)=3 from rfl]
 unfold q3p q6x
 simp only[Int.lt_irrefl,dF,cF]
def qal(x y z:Int):LI:=[q0s 4 x,q0s 4 y,q0s 4 z,255]
def qdi(x y z:Int):LI:=[q0s 6 x,q0s 7 y,q0s 6 z,255]
theorem zli(x y z:Int):q64 600 [x,y,z]=some (qal x y z,()):=by
 unfold q64 qi2
 have h:=zbz x y z (p:=4) (q:=4) (r:=4) (by omega) (by omega) (by omega) 596 [0,0,0,0]
 rw[show(596+4:Nat)=600 from rfl]at h
 simp only[show((4:Nat):Int)=4 from rfl]at h
 rw[h]
 rfl
theorem plane_is(x y z:Int):qbh 600 [x,y,z]=some (qdi x y z,()):=by
 unfold qbh qi2
 have h:=zbz x y z (p:=6) (q:=7) (r:=6) (by omega) (by omega) (by omega) 596 [0,0,0,0]
 rw[show(596+4:Nat)=600 from rfl]at h
 simp only[show((6:Nat):Int)=6 from rfl,show((7:Nat):Int)=7 from rfl]at h
 rw[h]
 rfl
def Small(x:Int):Prop:=0≤x∧x<100000
theorem Small.w{x:Int}(h:Small x): -9000000000000000000≤x∧x≤9000000000000000000:=by unfold Small at h;omega
theorem qtx{x y z:Int}(hx:Small x)(hy:Small y)(hz:Small z):q2r 600 [x,y,z]=some (qal x y z,()):=by
 unfold q2r
 have e0:q0l 600 x 4=_:=qk5 (b:=4) (by omega) (by omega) hx.w
 have e1:q0l 600 y 4=_:=qk5 (b:=4) (by omega) (by omega) hy.w
 have e2:q0l 600 z 4=_:=qk5 (b:=4) (by omega) (by omega) hz.w
 simp only[yt,yu,e0,e1,e2,y5]
 rfl
theorem zmu{l:LI}(h:∀i,-9000000000000000000≤l.getD i 0∧l.getD i 0≤9000000000000000000):qe2 600 l=some (qdi (l.getD 0 0) (l.getD 1 0) (l.getD 2 0),()):=by
 unfold qe2
 have e0:q0l 600 (l.getD 0 0) 6=_:=qk5 (b:=6) (by omega) (by omega) (h 0)
 have e1:q0l 600 (l.getD 1 0) 7=_:=qk5 (b:=7) (by omega) (by omega) (h 1)
 have e2:q0l 600 (l.getD 2 0) 6=_:=qk5 (b:=6) (by omega) (by omega) (h 2)
 simp only[e0,e1,e2,y5]
 rfl
def qdj(n:Int):Int:=etctwo_DistanceT1261.getD (n%8).toNat 0
theorem qwk(n:Int):q6y 600 n=some (qdj n,()):=by
 unfold q6y qdj
 rw[iand7]
 have h1:(0:Int)≤n%8:=by omega
 have h2:n%8<8:=by omega
 simp only[h1,h2,dT,yd,cT]
theorem z1i{n:Int}(hn: -9223372036854775808≤n∧n≤9223372036854775807):q88 600 n=some (qdj n,()):=by
 unfold q88 qdj
 have hf:=zlb (x:=n) (m:=8) (by decide)
 by_cases h:yv n 8<0
 ·rw[iP h]at hf
  have hlo: -8<yv n 8:=Int.lt_tmod_of_pos n (by decide)
  have e:y0 .i64 (yv n 8+8)=n%8:=by
   rw[w64 (by omega) (by omega),hf]
  have h1:(0:Int)≤n%8:=by omega
  have h2:n%8<8:=by omega
  simp only[h,dT,cT,e,h1,h2,yd]
 ·rw[iN h]at hf
  have h1:(0:Int)≤n%8:=by omega
  have h2:n%8<8:=by omega
  have h3:¬n%8<0:=by omega
  simp only[hf,h3,dF,cF,h1,h2,dT,yd,cT]
theorem qwl(n:Int):0≤qdj n∧qdj n≤64:=by
 unfold qdj
 exact qb1 (p:=fun x=>0≤x∧x≤64) (by decide) (by decide) _
def addV(l:LI)(n:Int):LI:=[q0w (l.getD 0 0+n),q0w (l.getD 1 0+n),q0w (l.getD 2 0+n),l.getD 3 0]
theorem zmv{a b c e n:Int}(ha:0≤a∧a≤255)(hb:0≤b∧b≤255)(hc:0≤c∧c≤255)(hn: -64≤n∧n≤64)(k:Nat)(x2:LI):
  q32 600 (k+4) n [a,b,c,e] x2 0=some ([q0w (a+n),q0w (b+n),q0w (c+n),e],x2,()):=by
 have ea:y0 .i64 (a+n)=a+n:=w64 (by omega) (by omega)
 have eb:y0 .i64 (b+n)=b+n:=w64 (by omega) (by omega)
 have ec:y0 .i64 (c+n)=c+n:=w64 (by omega) (by omega)
 unfold q32 q5y
 simp only[show(0:Int)<3 by decide,show(0:Int)<4 by decide,dT,cT,Int.le_refl,yd,show y6 0=0 from rfl,yt,ea,qa2,y5,List.set_cons_zero,show y0 .i64 (0+1)=1 from rfl]
 unfold q32 q5y
 simp only[show(1:Int)<3 by decide,show(1:Int)<4 by decide,show(0:Int)≤1 by decide,dT,cT,yd,show y6 1=1 from rfl,yt,yu,eb,qa2,y5,List.set_cons_zero,List.set_cons_succ,show y0 .i64 (1+1)=2 from rfl]
 unfold q32 q5y
 simp only[show(2:Int)<3 by decide,show(2:Int)<4 by decide,show(0:Int)≤2 by decide,dT,cT,yd,show y6 2=2 from rfl,yt,yu,ec,qa2,y5,List.set_cons_zero,List.set_cons_succ,show y0 .i64 (2+1)=3 from rfl]
 unfold q32 q5y
 simp only[Int.lt_irrefl,dF,cF]
theorem zhr(x y z:Int)(i:Nat):0≤(qal x y z).getD i 0∧(qal x y z).getD i 0≤255:=by
 have h1:=q1u (b:=4) (by omega) x
 have h2:=q1u (b:=4) (by omega) y
 have h3:=q1u (b:=4) (by omega) z
 exact qb1 (p:=fun x=>0≤x∧x≤255) (by decide) (fun v hv=>by
  simp only[qal,yr,List.not_mem_nil,or_false]at hv
  rcases hv with rfl|rfl|rfl|rfl<;>omega) i
theorem qt6(x y z:Int)(i:Nat):0≤(qdi x y z).getD i 0∧(qdi x y z).getD i 0≤255:=by
 have h1:=q1u (b:=6) (by omega) x
 have h2:=q1u (b:=7) (by omega) y
 have h3:=q1u (b:=6) (by omega) z
 exact qb1 (p:=fun x=>0≤x∧x≤255) (by decide) (fun v hv=>by
  simp only[qdi,yr,List.not_mem_nil,or_false]at hv
  rcases hv with rfl|rfl|rfl|rfl<;>omega) i
theorem qez(x y z:Int){n:Int}(hn: -64≤n∧n≤64):q0g 600 (qal x y z) n=some (addV (qal x y z) n,())∧q1q 600 (qal x y z) n=some (addV (qal x y z) n,()):=by
 have hb:=zhr x y z
 have h:=zmv (a:=q0s 4 x) (b:=q0s 4 y) (c:=q0s 4 z) (e:=255) (n:=n) (hb 0) (hb 1) (hb 2) hn 596 [0,0,0,0]
 rw[show(596+4:Nat)=600 from rfl]at h
 refine⟨?_,zle (by omega) (by omega) hb⟩
 unfold q0g qal
 rw[h]
 rfl
def qps(o h v:Int)(i:Nat):Int:=((i%4:Nat):Int)*(h-o)+((i/4:Nat):Int)*(v-o)+4*o+2
def q5s(o h v:LI)(j:Nat):Int:=if j%4=3 then 255 else q0w (qps (o.getD (j%4) 0) (h.getD (j%4) 0) (v.getD (j%4) 0) (j/4)/4)
def qyk(l:LI):Prop:=∀i,0≤l.getD i 0∧l.getD i 0≤255
theorem zmw{o h v:Int}(ho:0≤o∧o≤255)(hh:0≤h∧h≤255)(hv:0≤v∧v≤255){i:Nat}(hi:i<16):
  y0 .i64 (y0 .i64 (y0 .i64 (y0 .i64 (yv (i:Int) 4*y0 .i64 (h-o))+y0 .i64 (y0 .i64 (yw (i:Int) 4)*y0 .i64 (v-o)))+y0 .i64 (4*o))+2)=qps o h v i∧-4000≤qps o h v i∧qps o h v i≤4000:=by
 have em:yv (i:Int) 4=((i%4:Nat):Int):=by rw[tmod_nonneg (by omega)];omega
 have ed:yw (i:Int) 4=((i/4:Nat):Int):=by rw[q2o (by omega)];omega
 have m1:=zmk (n:=h-o) (t:=((i%4:Nat):Int)) (c:=255) (d:=3) (by omega) (by omega) (by decide)
 have m2:=zmk (n:=v-o) (t:=((i/4:Nat):Int)) (c:=255) (d:=3) (by omega) (by omega) (by decide)
 rw[Int.mul_comm (h-o)]at m1
 rw[Int.mul_comm (v-o)]at m2
 rw[em,ed,w64 (x:=h-o) (by omega) (by omega),w64 (x:=v-o) (by omega) (by omega),w64 (x:=((i/4:Nat):Int)) (by omega) (by omega),w64 (x:=4*o) (by omega) (by omega)]
 unfold qps
 rw[w64 (x:=((i%4:Nat):Int)*(h-o)) (by omega) (by omega),w64 (x:=((i/4:Nat):Int)*(v-o)) (by omega) (by omega),w64 (x:=((i%4:Nat):Int)*(h-o)+((i/4:Nat):Int)*(v-o)) (by omega) (by omega),
  w64 (x:=((i%4:Nat):Int)*(h-o)+((i/4:Nat):Int)*(v-o)+4*o) (by omega) (by omega),w64 (by omega) (by omega)]
 omega
theorem zhs{o h v:LI}(ho:qyk o)(hh:qyk h)(hv:qyk v)(q:Nat→Int)(x3:LI)(x6:Int){i:Nat}(hi:i<16):∀(d c k:Nat),c+d=3→d<k→
  q52 600 k o h v x3 (tab 64 fun j=>if j/4=i∧(j%4<c∨j%4=3)then q5s o h v j else q j) (i:Int) x6 (c:Int)=some (o,h,v,x3,tab 64 (fun j=>if j/4=i then q5s o h v j else q j),x6,())∧
  q6e 600 k o h v x3 (tab 64 fun j=>if j/4=i∧(j%4<c∨j%4=3)then q5s o h v j else q j) (i:Int) (c:Int)=some (o,h,v,x3,tab 64 (fun j=>if j/4=i then q5s o h v j else q j),(i:Int),()):=by
 intro d
 induction d with
 |zero=>
  intro c k h1 h2
  obtain⟨k,rfl⟩:∃k',k=k' +1:=⟨k-1,by omega⟩
  obtain rfl:c=3:=by omega
  unfold q52 qar q6e qcc
  have:¬(((3:Nat):Int)<3):=by omega
  simp only[this,dF,cF]
  rw[q0a fun j hj=>show(if j/4=i∧(j%4<3∨j%4=3)then q5s o h v j else q j)=if j/4=i then q5s o h v j else q j by
   have:j%4<3∨j%4=3:=by omega
   simp only[this,and_true]]
  exact⟨rfl,rfl⟩
 |succ d ih=>
  intro c k h1 h2
  obtain⟨k,rfl⟩:∃k',k=k' +1:=⟨k-1,by omega⟩
  have hc:c<4:=by omega
  have i1:(c:Int)<3:=by omega
  have i1' :(c:Int)<4:=by omega
  have i2:(i:Int)<16:=by omega
  obtain⟨e,b1,b2⟩:=zmw (ho c) (hh c) (hv c) hi
  have es:ishr .i64 (qps (o.getD c 0) (h.getD c 0) (v.getD c 0) i) 2=qps (o.getD c 0) (h.getD c 0) (v.getD c 0) i/4:=z7z (k:=2) (by omega)
  have em:=(zp0 600 (a:=0) (b:=qps (o.getD c 0) (h.getD c 0) (v.getD c 0) i) (k:=1) (o:=4) (add:=0) (by omega) (by omega) (by omega) (by omega) (by omega) (by omega)).2.1
  have emv:mixV 0 (qps (o.getD c 0) (h.getD c 0) (v.getD c 0) i) 1 4 0=qps (o.getD c 0) (h.getD c 0) (v.getD c 0) i/4:=by
   unfold mixV
   congr 1
   omega
  rw[emv]at em
  have ef:q0w (qps (o.getD c 0) (h.getD c 0) (v.getD c 0) i/4)=q5s o h v (i*4+c):=by
   unfold q5s
   rw[(mul4 i c hc).1,(mul4 i c hc).2,iN (by omega)]
  unfold q52 qar q6e qcc
  simp only[i1,i1',i2,dT,cT,yc,yd,yb,e,es,em,qa2,z83,y5,ef,z80]
  rw[q0d (by omega),q0a fun j hj=>show(if j=i*4+c then q5s o h v (i*4+c)else if j/4=i∧(j%4<c∨j%4=3)then q5s o h v j else q j)=if j/4=i∧(j%4<c+1∨j%4=3)then q5s o h v j else q j by
   by_cases h3:j=i*4+c
   ·rw[iP h3,iP (by omega),h3]
   ·rw[iN h3]
    by_cases h5:j/4=i∧(j%4<c∨j%4=3)
    ·rw[iP h5,iP (by omega)]
    ·rw[iN h5,iN (by omega)]]
  exact ih (c+1) k (by omega) (by omega)
theorem zht{o h v:LI}(ho:qyk o)(hh:qyk h)(hv:qyk v)(x3:LI):∀(d i k:Nat),i+d=16→d<k→
  q53 600 k o h v x3 (tab 64 (upR i 0 (q5s o h v))) (i:Int)=some (x3,tab 64 (q5s o h v),())∧q6f 600 k o h v x3 (tab 64 (upR i 0 (q5s o h v))) (i:Int)=some (x3,tab 64 (q5s o h v),()):=by
 intro d
 induction d with
 |zero=>
  intro i k h1 h2
  obtain⟨k,rfl⟩:∃k',k=k' +1:=⟨k-1,by omega⟩
  obtain rfl:i=16:=by omega
  unfold q53 qas q6f qcd
  have:¬(((16:Nat):Int)<16):=by omega
  simp only[this,dF,cF,zp6 (i:=16) (q5s o h v) (show 64≤16*4 by omega),and_self]
 |succ d ih=>
  intro i k h1 h2
  obtain⟨k,rfl⟩:∃k',k=k' +1:=⟨k-1,by omega⟩
  have hi:i<16:=by omega
  have i2:(i:Int)<16:=by omega
  obtain⟨l1,l2⟩:=zhs ho hh hv (upR i 0 (q5s o h v)) x3 (i:Int) hi 3 0 600 (by omega) (by omega)
  rw[show((0:Nat):Int)=0 from rfl]at l1 l2
  have es:(tab 64 (upR i 0 (q5s o h v))).set (3+i*4) 255=tab 64 fun j=>if j/4=i∧(j%4<0∨j%4=3)then q5s o h v j else upR i 0 (q5s o h v) j:=by
   rw[z80]
   refine q0a fun j hj=> ?_
   by_cases h3:j=3+i*4
   ·rw[iP h3,iP (by omega)]
    unfold q5s
    rw[iP (by omega)]
   ·rw[iN h3,iN (by omega)]
  have en:(tab 64 fun j=>if j/4=i then q5s o h v j else upR i 0 (q5s o h v) j)=tab 64 (upR (i+1) 0 (q5s o h v)):=q0a fun j hj=>by
   unfold upR
   by_cases h3:j/4=i
   ·rw[iP h3,iP (by omega)]
   ·rw[iN h3]
    by_cases h4:j<i*4+0
    ·rw[iP h4,iP (by omega)]
    ·rw[iN h4,iN (by omega)]
  rw[en]at l1 l2
  unfold q53 qas q6f qcd
  simp only[i2,dT,cT,yc,yd,yb,es,l1,l2,y5]
  rw[q0d (by omega)]
  exact ih (i+1) k (by omega) (by omega)
theorem zp9:q02=tab 64 fun _=>0:=by decide+kernel
theorem Plane_is{o h v:LI}(ho:qyk o)(hh:qyk h)(hv:qyk v):qjk 600 o h v=some (tab 64 (q5s o h v),())∧qn5 600 o h v=some (tab 64 (q5s o h v),()):=by
 obtain⟨h1,h2⟩:=zht ho hh hv q02 16 0 600 (by omega) (by omega)
 rw[zlc,←zp9,show((0:Nat):Int)=0 from rfl]at h1 h2
 unfold qjk qn5
 rw[h1,h2]
 exact⟨rfl,rfl⟩
def plO(b:LI):LI:=qdi (hv b 1 6) (pk b [7,9,10,11,12,13,14] 7) (pk b [15,19,20,22,23,24] 6)
def plH(b:LI):LI:=qdi (pk b [25,26,27,28,29,31] 6) (hv b 32 7) (hv b 39 6)
def plV(b:LI):LI:=qdi (hv b 45 6) (hv b 51 7) (hv b 58 6)
def qwm(b:LI)(j:Nat):Int:=q5s (plO b) (plH b) (plV b) j
theorem ql2{L:List Nat}(h:(decide (L.length≤12)&&L.all fun a=>decide (a<64))=true):Posn L:=by
 simp only[yl,decide_eq_true_eq,List.all_eq_true]at h
 refine⟨h.1,fun i=> ?_⟩
 rw[ye]
 by_cases hi:i<L.length
 ·rw[yj hi]
  exact h.2 _ (List.getElem_mem hi)
 ·rw[w7 (by omega)]
  decide
theorem hvw(b:LI)(a n:Nat)(hn:n≤16):Small (hv b a n):=by
 have h1:=q0x b a n
 have h2:(2:Int)^n≤2^16:=qgd hn
 unfold Small
 omega
theorem pkw(b:LI)(L:List Nat)(n:Nat)(hn:n≤16):Small (pk b L n):=by
 have h1:=qyi b L n
 have h2:(2:Int)^n≤2^16:=qgd hn
 unfold Small
 omega
theorem z8b{x y z:Int}(hx:Small x)(hy:Small y)(hz:Small z):qe2 600 [x,y,z]=some (qdi x y z,()):=
 zmu fun i=>qb1 (p:=fun x=> -9000000000000000000≤x∧x≤9000000000000000000) (by decide) (fun v hv=>by
  simp only[yr,List.not_mem_nil,or_false]at hv
  rcases hv with rfl|rfl|rfl
  ·exact hx.w
  ·exact hy.w
  ·exact hz.w) i
theorem zhu{b:LI}(hb:Bytes b)(hl:b.length=8)(a1 a2:Bool)(a3 a4 a5 a6:LI)(a7:Bool):
  q7h 600 b a1 a2 a3 a4 a5 a6 a7=some (tab 64 (qwm b),())∧qjl 600 b=some (tab 64 (qwm b),()):=by
 have t1:q85=q4f [7,9,10,11,12,13,14]:=rfl
 have t2:q86=q4f [15,19,20,22,23,24]:=rfl
 have t3:q87=q4f [25,26,27,28,29,31]:=rfl
 have p1:=ql2 (L:=[7,9,10,11,12,13,14]) (by decide)
 have p2:=ql2 (L:=[15,19,20,22,23,24]) (by decide)
 have p3:=ql2 (L:=[25,26,27,28,29,31]) (by decide)
 have g1:=qvn hb hl a1 a2 a3 a4 a5 a6 a7 p1
 have g2:=qvn hb hl a1 a2 a3 a4 a5 a6 a7 p2
 have g3:=qvn hb hl a1 a2 a3 a4 a5 a6 a7 p3
 have k1:=qt5 hb hl p1
 have k2:=qt5 hb hl p2
 have k3:=qt5 hb hl p3
 obtain⟨r1,s1⟩:=qdy hb hl a1 a2 a3 a4 a5 a6 a7 (x:=1) (y:=6) (a:=1) (n:=6) rfl rfl (by omega) (by omega)
 obtain⟨r2,s2⟩:=qdy hb hl a1 a2 a3 a4 a5 a6 a7 (x:=32) (y:=38) (a:=32) (n:=7) rfl rfl (by omega) (by omega)
 obtain⟨r3,s3⟩:=qdy hb hl a1 a2 a3 a4 a5 a6 a7 (x:=39) (y:=44) (a:=39) (n:=6) rfl rfl (by omega) (by omega)
 obtain⟨r4,s4⟩:=qdy hb hl a1 a2 a3 a4 a5 a6 a7 (x:=45) (y:=50) (a:=45) (n:=6) rfl rfl (by omega) (by omega)
 obtain⟨r5,s5⟩:=qdy hb hl a1 a2 a3 a4 a5 a6 a7 (x:=51) (y:=57) (a:=51) (n:=7) rfl rfl (by omega) (by omega)
 obtain⟨r6,s6⟩:=qdy hb hl a1 a2 a3 a4 a5 a6 a7 (x:=58) (y:=63) (a:=58) (n:=6) rfl rfl (by omega) (by omega)
 obtain⟨q1,q2⟩:=Plane_is (o:=plO b) (h:=plH b) (v:=plV b) (qt6 _ _ _) (qt6 _ _ _) (qt6 _ _ _)
 have w1:=z8b (hvw b 1 6 (by omega)) (pkw b [7,9,10,11,12,13,14] 7 (by omega)) (pkw b [15,19,20,22,23,24] 6 (by omega))
 have w2:=z8b (pkw b [25,26,27,28,29,31] 6 (by omega)) (hvw b 32 7 (by omega)) (hvw b 39 6 (by omega))
 have w3:=z8b (hvw b 45 6 (by omega)) (hvw b 51 7 (by omega)) (hvw b 58 6 (by omega))
 unfold q7h qjl
 rw[t1,t2,t3]
 simp only[g1,g2,g3,k1,k2,k3,r1,r2,r3,r4,r5,r6,s1,s2,s3,s4,s5,s6,y5,plane_is,List.length_cons,List.length_nil,Nat.zero_add,Nat.reduceAdd,w1,w2,w3]
 rw[show qdi (hv b 1 6) (pk b [7,9,10,11,12,13,14] 7) (pk b [15,19,20,22,23,24] 6)=plO b from rfl,show qdi (pk b [25,26,27,28,29,31] 6) (hv b 32 7) (hv b 39 6)=plH b from rfl,show qdi (hv b 45 6) (hv b 51 7) (hv b 58 6)=plV b from rfl,q1,q2]
 exact⟨rfl,rfl⟩
def tA(b:LI):LI:=qal (pk b [3,4,6,7] 4) (hv b 8 4) (hv b 12 4)
def tZ(b:LI):LI:=qal (hv b 16 4) (hv b 20 4) (hv b 24 4)
def tD(b:LI):Int:=qdj (pk b [28,29,31] 3)
def qgh(b:LI):LI:=tA b++(addV (tZ b) (tD b)++(tZ b++addV (tZ b) (0-tD b)))
def hL(b:LI):LI:=qal (hv b 1 4) (pk b [5,6,7,11] 4) (pk b [12,14,15,16] 4)
def hM(b:LI):LI:=qal (hv b 17 4) (hv b 21 4) (hv b 25 4)
def hX(b:LI):Int:=256*hv b 1 4+16*pk b [5,6,7,11] 4+pk b [12,14,15,16] 4
def hY(b:LI):Int:=256*hv b 17 4+16*hv b 21 4+hv b 25 4
def hD(b:LI):Int:=qdj (if hY b≤hX b then 2*pk b [29,31] 2+1 else 2*pk b [29,31] 2)
def qec(b:LI):LI:=addV (hL b) (hD b)++(addV (hL b) (0-hD b)++(addV (hM b) (hD b)++addV (hM b) (0-hD b)))
theorem q79(b:LI)(a n:Nat):hv b a (n+1)=2*hv b a n+hv b (a+n) 1:=by
 simp only[hv,qdn,Nat.add_zero]
 omega
theorem zpa(b:LI)(a:Nat):hv b a 0=0:=rfl
theorem hX_is(b:LI):pk b [1,2,3,4,5,6,7,11,12,14,15,16] 12=hX b:=by
 unfold hX
 rw[q79 b 1 3,q79 b 1 2,q79 b 1 1]
 simp only[pk,yt,yu,Nat.reduceAdd]
 omega
theorem hY_is(b:LI):hv b 17 12=hY b:=by
 unfold hY
 rw[q79 b 17 11,q79 b 17 10,q79 b 17 9,q79 b 17 8,q79 b 17 7,q79 b 17 6,q79 b 17 5,q79 b 17 4,q79 b 21 3,q79 b 21 2,q79 b 21 1,q79 b 25 3,q79 b 25 2,q79 b 25 1]
 simp only[Nat.reduceAdd]
 omega
def qbc(l W:LI)(j:Nat):Int:=l.getD ((W.getD (j/4) 0).toNat*4+j%4) 0
theorem zjl{l W:LI}(hl:l.length=16)(hW:∀i,0≤W.getD i 0∧W.getD i 0≤3)(x1:LI):∀(d i k:Nat),i+d=16→d<k→
  q23 600 k l x1 (tab 64 (upR i 0 (qbc l W))) W (i:Int)=some (x1,tab 64 (qbc l W),()):=by
 intro d
 induction d with
 |zero=>
  intro i k h1 h2
  obtain⟨k,rfl⟩:∃k',k=k' +1:=⟨k-1,by omega⟩
  obtain rfl:i=16:=by omega
  unfold q23 q65
  have:¬(((16:Nat):Int)<16):=by omega
  simp only[this,dF,cF,zp6 (i:=16) (qbc l W) (show 64≤16*4 by omega)]
 |succ d ih=>
  intro i k h1 h2
  obtain⟨k,rfl⟩:∃k',k=k' +1:=⟨k-1,by omega⟩
  have i1:(i:Int)<16:=by omega
  have hw:=hW i
  have j1:(0:Int)≤W.getD i 0:=hw.1
  have j2:W.getD i 0<4:=by omega
  unfold q23 q65
  simp only[i1,j1,j2,dT,cT,yc,yd,yb,q78 hl (show(W.getD i 0).toNat*4+4≤16 by omega),qgf (show i*4+4≤64 by omega)]
  rw[q0d (by omega),q0a fun j hj=>show(if j/4=i then l.getD ((W.getD i 0).toNat*4+j%4) 0 else upR i 0 (qbc l W) j)=upR (i+1) 0 (qbc l W) j by
   unfold upR
   by_cases h3:j/4=i
   ·rw[iP h3,iP (by omega)]
    unfold qbc
    rw[h3]
   ·rw[iN h3]
    by_cases h4:j<i*4+0
    ·rw[iP h4,iP (by omega)]
    ·rw[iN h4,iN (by omega)]]
  exact ih (i+1) k (by omega) (by omega)
theorem zpb{l W:LI}(hl:l.length=16)(hW:∀i,0≤W.getD i 0∧W.getD i 0≤3)(a0:LI)(a1 a2:Bool)(a3 a4 a5:LI)(a7:Bool):
  q4y 600 a0 a1 a2 a3 a4 a5 W a7 l=some (tab 64 (qbc l W),()):=by
 unfold q4y
 have h:=zjl hl hW q02 16 0 600 (by omega) (by omega)
 rw[zlc,←zp9,show((0:Nat):Int)=0 from rfl]at h
 rw[h]
 rfl
theorem neg_w{d:Int}(h:0≤d∧d≤64):y0 .i64 (0-d)=0-d:=w64 (by omega) (by omega)
theorem ofT_is{b:LI}(hb:Bytes b)(hl:b.length=8)(a1 a2:Bool)(a3 a4 a5:LI){W:LI}(hW:∀i,0≤W.getD i 0∧W.getD i 0≤3)(a7:Bool):
  qap 600 b a1 a2 a3 a4 a5 W a7=some (tab 64 (qbc (qgh b) W),())∧qe3 600 b 1=some (qgh b,()):=by
 have t1:[(3:Int),4,6,7]=q4f [3,4,6,7]:=rfl
 have t2:[(28:Int),29,31]=q4f [28,29,31]:=rfl
 have p1:=ql2 (L:=[3,4,6,7]) (by decide)
 have p2:=ql2 (L:=[28,29,31]) (by decide)
 have g1:q05 600 b a1 a2 a3 a4 a5 W a7 (q4f [3,4,6,7])=some (pk b [3,4,6,7] 4,()):=qvn hb hl a1 a2 a3 a4 a5 W a7 p1
 have g2:q05 600 b a1 a2 a3 a4 a5 W a7 (q4f [28,29,31])=some (pk b [28,29,31] 3,()):=qvn hb hl a1 a2 a3 a4 a5 W a7 p2
 have k1:q36 600 b (q4f [3,4,6,7])=some (pk b [3,4,6,7] 4,()):=qt5 hb hl p1
 have k2:q36 600 b (q4f [28,29,31])=some (pk b [28,29,31] 3,()):=qt5 hb hl p2
 obtain⟨r1,s1⟩:=qdy hb hl a1 a2 a3 a4 a5 W a7 (x:=8) (y:=11) (a:=8) (n:=4) rfl rfl (by omega) (by omega)
 obtain⟨r2,s2⟩:=qdy hb hl a1 a2 a3 a4 a5 W a7 (x:=12) (y:=15) (a:=12) (n:=4) rfl rfl (by omega) (by omega)
 obtain⟨r3,s3⟩:=qdy hb hl a1 a2 a3 a4 a5 W a7 (x:=16) (y:=19) (a:=16) (n:=4) rfl rfl (by omega) (by omega)
 obtain⟨r4,s4⟩:=qdy hb hl a1 a2 a3 a4 a5 W a7 (x:=20) (y:=23) (a:=20) (n:=4) rfl rfl (by omega) (by omega)
 obtain⟨r5,s5⟩:=qdy hb hl a1 a2 a3 a4 a5 W a7 (x:=24) (y:=27) (a:=24) (n:=4) rfl rfl (by omega) (by omega)
 have c1:=qtx (pkw b [3,4,6,7] 4 (by omega)) (hvw b 8 4 (by omega)) (hvw b 12 4 (by omega))
 have c2:=qtx (hvw b 16 4 (by omega)) (hvw b 20 4 (by omega)) (hvw b 24 4 (by omega))
 have d1:=qwk (pk b [28,29,31] 3)
 have d2:=z1i (n:=pk b [28,29,31] 3) (by have:=pkw b [28,29,31] 3 (by omega);unfold Small at this;omega)
 have db:=qwl (pk b [28,29,31] 3)
 obtain⟨m1,n1⟩:=qez (hv b 16 4) (hv b 20 4) (hv b 24 4) (n:=qdj (pk b [28,29,31] 3)) (by omega)
 obtain⟨m2,n2⟩:=qez (hv b 16 4) (hv b 20 4) (hv b 24 4) (n:=0-qdj (pk b [28,29,31] 3)) (by omega)
 have f:=zpb (l:=qgh b) rfl hW b a1 a2 a3 a4 a5 a7
 unfold qgh tA tZ tD at f
 unfold qap qe3 qgh tA tZ tD
 rw[t1,t2]
 simp only[g1,g2,k1,k2,r1,r2,r3,r4,r5,s1,s2,s3,s4,s5,c1,c2,d1,d2,m1,m2,n1,n2,neg_w db,zli,y5,f,beq_self_eq_true,cT]
 refine⟨?_,?_⟩<;>first|trivial|rfl
theorem zhv{x y z:Int}(hx:Small x)(hy:Small y)(hz:Small z):qf6 600 [x,y,z]=some (256*x+16*y+z,()):=by
 unfold Small at hx hy hz
 unfold qf6
 simp only[yt,yu]
 rw[w64 (x:=256*x) (by omega) (by omega),w64 (x:=16*y) (by omega) (by omega),w64 (x:=256*x+16*y) (by omega) (by omega),w64 (by omega) (by omega)]
theorem ofH_is{b:LI}(hb:Bytes b)(hl:b.length=8)(a1 a2:Bool)(a3 a4 a5:LI){W:LI}(hW:∀i,0≤W.getD i 0∧W.getD i 0≤3)(a7:Bool):
  qaq 600 b a1 a2 a3 a4 a5 W a7=some (tab 64 (qbc (qec b) W),())∧qe3 600 b 2=some (qec b,()):=by
 have t1:[(5:Int),6,7,11]=q4f [5,6,7,11]:=rfl
 have t2:[(12:Int),14,15,16]=q4f [12,14,15,16]:=rfl
 have t3:[(29:Int),31]=q4f [29,31]:=rfl
 have t4:qf5=q4f [1,2,3,4,5,6,7,11,12,14,15,16]:=rfl
 have p1:=ql2 (L:=[5,6,7,11]) (by decide)
 have p2:=ql2 (L:=[12,14,15,16]) (by decide)
 have p3:=ql2 (L:=[29,31]) (by decide)
 have p4:=ql2 (L:=[1,2,3,4,5,6,7,11,12,14,15,16]) (by decide)
 have g1:q05 600 b a1 a2 a3 a4 a5 W a7 (q4f [5,6,7,11])=some (pk b [5,6,7,11] 4,()):=qvn hb hl a1 a2 a3 a4 a5 W a7 p1
 have g2:q05 600 b a1 a2 a3 a4 a5 W a7 (q4f [12,14,15,16])=some (pk b [12,14,15,16] 4,()):=qvn hb hl a1 a2 a3 a4 a5 W a7 p2
 have g3:q05 600 b a1 a2 a3 a4 a5 W a7 (q4f [29,31])=some (pk b [29,31] 2,()):=qvn hb hl a1 a2 a3 a4 a5 W a7 p3
 have g4:q05 600 b a1 a2 a3 a4 a5 W a7 (q4f [1,2,3,4,5,6,7,11,12,14,15,16])=some (hX b,()):=(qvn hb hl a1 a2 a3 a4 a5 W a7 p4).trans (by rw[show([1,2,3,4,5,6,7,11,12,14,15,16]:List Nat).length=12 from rfl,hX_is])
 have k1:q36 600 b (q4f [5,6,7,11])=some (pk b [5,6,7,11] 4,()):=qt5 hb hl p1
 have k2:q36 600 b (q4f [12,14,15,16])=some (pk b [12,14,15,16] 4,()):=qt5 hb hl p2
 have k3:q36 600 b (q4f [29,31])=some (pk b [29,31] 2,()):=qt5 hb hl p3
 obtain⟨r1,s1⟩:=qdy hb hl a1 a2 a3 a4 a5 W a7 (x:=1) (y:=4) (a:=1) (n:=4) rfl rfl (by omega) (by omega)
 obtain⟨r2,s2⟩:=qdy hb hl a1 a2 a3 a4 a5 W a7 (x:=17) (y:=20) (a:=17) (n:=4) rfl rfl (by omega) (by omega)
 obtain⟨r3,s3⟩:=qdy hb hl a1 a2 a3 a4 a5 W a7 (x:=21) (y:=24) (a:=21) (n:=4) rfl rfl (by omega) (by omega)
 obtain⟨r4,s4⟩:=qdy hb hl a1 a2 a3 a4 a5 W a7 (x:=25) (y:=28) (a:=25) (n:=4) rfl rfl (by omega) (by omega)
 obtain⟨r5,_⟩:=qdy hb hl a1 a2 a3 a4 a5 W a7 (x:=17) (y:=28) (a:=17) (n:=12) rfl rfl (by omega) (by omega)
 rw[hY_is]at r5
 have c1:=qtx (hvw b 1 4 (by omega)) (pkw b [5,6,7,11] 4 (by omega)) (pkw b [12,14,15,16] 4 (by omega))
 have c2:=qtx (hvw b 17 4 (by omega)) (hvw b 21 4 (by omega)) (hvw b 25 4 (by omega))
 have u1:=zhv (hvw b 1 4 (by omega)) (pkw b [5,6,7,11] 4 (by omega)) (pkw b [12,14,15,16] 4 (by omega))
 have u2:=zhv (hvw b 17 4 (by omega)) (hvw b 21 4 (by omega)) (hvw b 25 4 (by omega))
 have hpk:=qyi b [29,31] 2
 have e1:=shl_one (n:=pk b [29,31] 2) (by omega)
 have e2:y0 .i64 (2*pk b [29,31] 2)=2*pk b [29,31] 2:=w64 (by omega) (by omega)
 have e3:y0 .i64 (2*pk b [29,31] 2+1)=2*pk b [29,31] 2+1:=w64 (by omega) (by omega)
 have dR:=fun n (hn:0≤n∧n≤100)=>z1i (n:=n) (by omega)
 have f:=zpb (l:=qec b) rfl hW b a1 a2 a3 a4 a5 a7
 have db:=qwl (2*pk b [29,31] 2+1)
 have db' :=qwl (2*pk b [29,31] 2)
 have z21:((2:Int)==1)=false:=rfl
 rw[show 256*hv b 1 4+16*pk b [5,6,7,11] 4+pk b [12,14,15,16] 4=hX b from rfl]at u1
 rw[show 256*hv b 17 4+16*hv b 21 4+hv b 25 4=hY b from rfl]at u2
 unfold qaq qe3
 rw[t1,t2,t3,t4]
 simp only[z21,cF,g1,g2,g3,g4,k1,k2,k3,r1,r2,r3,r4,r5,s1,s2,s3,s4,c1,c2,u1,u2,e1,e2,e3,zli,y5]
 rw[show qal (hv b 1 4) (pk b [5,6,7,11] 4) (pk b [12,14,15,16] 4)=hL b from rfl,show qal (hv b 17 4) (hv b 21 4) (hv b 25 4)=hM b from rfl]
 by_cases h:hY b≤hX b
 ·have hd:hD b=qdj (2*pk b [29,31] 2+1):=by
   unfold hD
   rw[iP h]
  unfold qec at f
  rw[hd]at f
  have d2:=dR (2*pk b [29,31] 2+1) (by omega)
  obtain⟨m1,n1⟩:q0g 600 (hL b) (qdj (2*pk b [29,31] 2+1))=_∧q1q 600 (hL b) (qdj (2*pk b [29,31] 2+1))=_:=qez _ _ _ (by omega)
  obtain⟨m2,n2⟩:q0g 600 (hL b) (0-qdj (2*pk b [29,31] 2+1))=_∧q1q 600 (hL b) (0-qdj (2*pk b [29,31] 2+1))=_:=qez _ _ _ (by omega)
  obtain⟨m3,n3⟩:q0g 600 (hM b) (qdj (2*pk b [29,31] 2+1))=_∧q1q 600 (hM b) (qdj (2*pk b [29,31] 2+1))=_:=qez _ _ _ (by omega)
  obtain⟨m4,n4⟩:q0g 600 (hM b) (0-qdj (2*pk b [29,31] 2+1))=_∧q1q 600 (hM b) (0-qdj (2*pk b [29,31] 2+1))=_:=qez _ _ _ (by omega)
  simp only[h,dT,cT,qwk,d2,neg_w db,m1,m2,m3,m4,n1,n2,n3,n4,y5]
  unfold qec
  rw[hd]
  exact⟨by
   rw[show qal (hv b 1 4) (pk b [5,6,7,11] 4) (pk b [12,14,15,16] 4)=hL b from rfl,show qal (hv b 17 4) (hv b 21 4) (hv b 25 4)=hM b from rfl,f]
   rfl,rfl⟩
 ·have hd:hD b=qdj (2*pk b [29,31] 2):=by
   unfold hD
   rw[iN h]
  unfold qec at f
  rw[hd]at f
  have d2:=dR (2*pk b [29,31] 2) (by omega)
  obtain⟨m1,n1⟩:q0g 600 (hL b) (qdj (2*pk b [29,31] 2))=_∧q1q 600 (hL b) (qdj (2*pk b [29,31] 2))=_:=qez _ _ _ (by omega)
  obtain⟨m2,n2⟩:q0g 600 (hL b) (0-qdj (2*pk b [29,31] 2))=_∧q1q 600 (hL b) (0-qdj (2*pk b [29,31] 2))=_:=qez _ _ _ (by omega)
  obtain⟨m3,n3⟩:q0g 600 (hM b) (qdj (2*pk b [29,31] 2))=_∧q1q 600 (hM b) (qdj (2*pk b [29,31] 2))=_:=qez _ _ _ (by omega)
  obtain⟨m4,n4⟩:q0g 600 (hM b) (0-qdj (2*pk b [29,31] 2))=_∧q1q 600 (hM b) (0-qdj (2*pk b [29,31] 2))=_:=qez _ _ _ (by omega)
  simp only[h,dF,cF,qwk,d2,neg_w db',m1,m2,m3,m4,n1,n2,n3,n4,y5]
  unfold qec
  rw[hd]
  exact⟨by
   rw[show qal (hv b 1 4) (pk b [5,6,7,11] 4) (pk b [12,14,15,16] 4)=hL b from rfl,show qal (hv b 17 4) (hv b 21 4) (hv b 25 4)=hM b from rfl,f]
   rfl,rfl⟩
def bb(b:LI)(p:Bool):LI:=if p then hset b 30 1 1 else b
def qk7(b:LI)(p:Bool):Bool:= !p||(hv b 30 1==1)
def xD(b:LI)(p:Bool):Bool:=qa1 (bb b p)
def xF(b:LI)(p:Bool):Bool:=zmo (bb b p)
def xA(b:LI)(p:Bool):LI:=eAs (qa1 (bb b p)) (bb b p)
def xB(b:LI)(p:Bool):LI:=eBs (qa1 (bb b p)) (bb b p)
def xT(b:LI)(p:Bool):LI:=[hv (bb b p) 24 3,hv (bb b p) 27 3]
def xW(b:LI)(p:Bool):LI:=eWs (bb b p)
def qhb(b:LI)(p:Bool):Int:=if qjc (xD b p) (xA b p) (xB b p)=3 then 0 else 1+qjc (xD b p) (xA b p) (xB b p)
theorem bb_ok{b:LI}(hb:Bytes b)(hl:b.length=8)(p:Bool):Bytes (bb b p)∧(bb b p).length=8:=by
 unfold bb
 cases p
 ·exact⟨hb,hl⟩
 ·exact⟨qhr hb 30 1 1,by rw[iP rfl,qtu,hl]⟩
theorem qwn(d:Bool)(A B:LI):0≤qjc d A B∧qjc d A B≤3:=by
 unfold qjc
 cases d
 ·simp
 ·simp only[if_true]
  split
  ·omega
  ·split
   ·omega
   ·split<;>omega
theorem zpc{b:LI}(hb:Bytes b)(hl:b.length=8)(p:Bool):qi1 600 b p=some (b,xD b p,xF b p,xA b p,xB b p,xT b p,xW b p,qk7 b p,()):=by
 have hP:=z0c (F:=600) (by omega) (bb_ok hb hl p).1 (bb_ok hb hl p).2
 unfold qi1
 cases p
 ·have hP' :q3v 600 b=some (eP b,0,()):=hP
  simp only[Bool.not_false,cT,cF,hP',y5]
  rfl
 ·have hP' :q3v 600 (hset b 30 1 1)=some (eP (hset b 30 1 1),0,()):=hP
  have g:q05 600 b false false [0,0,0] [0,0,0] [0,0] q6d false [(30:Int)]=some (pk b [30] 1,()):=qvn hb hl false false [0,0,0] [0,0,0] [0,0] q6d false (ql2 (L:=[30]) (by decide))
  have hs:q2p 600 b (30:Int) (1:Int) (1:Int)=some (hset b 30 1 1,0,()):=qhs (a:=30) (n:=1) (by omega) hb (by omega) (by omega) (by omega) (by omega)
  have hk:pk b [30] 1=hv b 30 1:=by
   simp only[pk,yt]
   omega
  simp only[Bool.not_true,cT,cF,g,hs,hP',y5,hk]
  rfl
theorem z8c{b:LI}(hb:Bytes b)(hl:b.length=8)(p:Bool):qe1 600 b p=some ((xD b p,xF b p,xA b p,xB b p,xT b p,xW b p,()),()):=by
 have hP:=qwg (F:=600) (by omega) (bb_ok hb hl p).1 (bb_ok hb hl p).2
 unfold qe1
 cases p
 ·have hP' :q6b 600 b=some (eP b,0,()):=hP
  simp only[cF,hP',y5]
  rfl
 ·have hP' :q6b 600 (hset b 30 1 1)=some (eP (hset b 30 1 1),0,()):=hP
  have hs:qf1 600 b (30:Int) (1:Int) true (1:Int)=some (hset b 30 1 1,0,()):=zhm (a:=30) (n:=1) (by omega) hb (by omega) (by omega) (by omega) (by omega)
  simp only[cT,hs,hP',y5]
  rfl
theorem zmx(b:LI)(p:Bool):qgr (xA b p) (xB b p):=eFair _ _
theorem qty(b:LI)(p:Bool):∀i,0≤(xW b p).getD i 0∧(xW b p).getD i 0≤3:=z85 _
theorem zpd(b:LI)(p:Bool)(a0:LI)(a7:Bool):q6w 600 a0 (xD b p) (xF b p) (xA b p) (xB b p) (xT b p) (xW b p) a7=some (qhb b p,()):=by
 unfold q6w qhb
 rw[qtw (by omega) _ _ (zmx b p)]
 have hf:=qwn (xD b p) (xA b p) (xB b p)
 simp only[y5]
 by_cases h:qjc (xD b p) (xA b p) (xB b p)=3
 ·rw[iP h,beqT h]
  rfl
 ·rw[iN h,beqF h,w64 (by omega) (by omega)]
  rfl
theorem Kind_is{b:LI}(hb:Bytes b)(hl:b.length=8)(p:Bool):z5d 600 b p=some (qhb b p,())∧qtr 600 b p=some (qhb b p,()):=by
 have hn:(((b.length:Nat):Int) !=8)=false:=by rw[hl];rfl
 unfold z5d qtr
 rw[hn,zpc hb hl p,z8c hb hl p]
 simp only[cF,y5,zpd,true_and]
 unfold qhb
 rw[qwi (by omega) _ _ (zmx b p)]
 have hf:=qwn (xD b p) (xA b p) (xB b p)
 simp only[y5]
 by_cases h:qjc (xD b p) (xA b p) (xB b p)=3
 ·rw[iP h,beqT h]
  rfl
 ·rw[iN h,beqF h,w64 (by omega) (by omega),Int.add_comm]
  rfl
def qo9(s f:Bool)(W bs:LI)(q:Nat→Int)(j:Nat):Int:=if s=false∧W.getD (j/4) 0=0 then bs.getD (q2m f (j/4:Nat)*4+j%4) 0 else q j
def upTo(i:Nat)(g q:Nat→Int)(j:Nat):Int:=if j/4<i then g j else q j
theorem qk8{i:Nat}{g q h:Nat→Int}(hh:∀c,c<4→h c=g (i*4+c)):(tab 64 fun j=>if j/4=i then h (j%4)else upTo i g q j)=tab 64 (upTo (i+1) g q):=q0a fun j hj=>by
 unfold upTo
 by_cases h3:j/4=i
 ·rw[iP h3,iP (by omega),hh _ (Nat.mod_lt _ (by decide)),←h3]
  congr 1
  omega
 ·rw[iN h3]
  by_cases h4:j/4<i
  ·rw[iP h4,iP (by omega)]
  ·rw[iN h4,iN (by omega)]
theorem qt7{i:Nat}{g q:Nat→Int}(hh:∀j,j/4=i→q j=g j):tab 64 (upTo i g q)=tab 64 (upTo (i+1) g q):=q0a fun j hj=>by
 unfold upTo
 by_cases h4:j/4<i
 ·rw[iP h4,iP (by omega)]
 ·rw[iN h4]
  by_cases h3:j/4=i
  ·rw[iP (by omega),hh j h3]
  ·rw[iN (by omega)]
theorem qt8(g q:Nat→Int):tab 64 (upTo 0 g q)=tab 64 q:=q0a fun j hj=>iN (by omega)
theorem qyl(g q:Nat→Int):tab 64 (upTo 16 g q)=tab 64 g:=q0a fun j hj=>iP (by omega)
theorem zey(x0:LI)(x1:Bool)(x3:LI)(x4:LI)(x5:LI)(x6:LI)(x8:LI)(s f:Bool){W bs:LI}(hbs:bs.length=8)(q:Nat→Int):∀(d i k:Nat),i+d=16→d<k→
  q1a 600 k x0 x1 f x3 x4 x5 x6 s x8 (tab 64 (upTo i (qo9 s f W bs q) q)) bs W ((i:Int))=some (x8,tab 64 (qo9 s f W bs q),()):=by
 intro d
 induction d with
 |zero=>
  intro i k h1 h2
  obtain⟨k,rfl⟩:∃k',k=k' +1:=⟨k-1,by omega⟩
  obtain rfl:i=16:=by omega
  unfold q1a q4h
  have:¬(((16:Nat):Int)<16):=by omega
  simp only[this,dF,cF,qyl]
 |succ d ih=>
  intro i k h1 h2
  obtain⟨k,rfl⟩:∃k',k=k' +1:=⟨k-1,by omega⟩
  have hi:i<16:=by omega
  have i1:(i:Int)<16:=by omega
  have fin:=ih (i+1) k (by omega) (by omega)
  unfold q1a q4h
  cases s
  ·by_cases hw:W.getD i 0=0
   ·have hh:=qmc f i
    have j2:((q2m f (i:Nat):Nat):Int)<2:=by omega
    simp only[i1,dT,cT,yc,yd,yb,Bool.not_false,beqT hw,(qj1 600 f i).1,y5,j2,q78 hbs (show q2m f (i:Nat)*4+4≤8 by omega),qgf (show i*4+4≤64 by omega)]
    rw[q0d (by omega),show(tab 64 fun j=>if j/4=i then bs.getD (q2m f (i:Int)*4+j%4) 0 else upTo i (qo9 false f W bs q) q j)=tab 64 (upTo (i+1) (qo9 false f W bs q) q)from qk8 (h:=fun c=>bs.getD (q2m f (i:Int)*4+c) 0) (fun c hc=>by
     unfold qo9
     rw[(mul4 i c hc).1,(mul4 i c hc).2,iP ⟨rfl,hw⟩])]
    exact fin
   ·simp only[i1,dT,cT,yc,yd,yb,Bool.not_false,beqF hw,cF]
    rw[q0d (by omega),qt7 (i:=i) (fun j hj=>by
     unfold qo9
     rw[hj,iN (fun h=>hw h.2)])]
    exact fin
  ·simp only[i1,dT,cT,yc,yd,yb,Bool.not_true,cF]
   rw[q0d (by omega),qt7 (i:=i) (fun j hj=>by
    unfold qo9
    rw[iN (fun h=>by cases h.1)])]
   exact fin
theorem qoa(d f:Bool)(A B T W:LI):(qbb d f A B T W).length=64:=zjh (m:=4) _ (fun _ _=>rfl)
def qt9(b:LI)(p:Bool)(j:Nat):Int:=(qbb (xD b p) (xF b p) (xA b p) (xB b p) (xT b p) (xW b p)).getD j 0
def qvo(b:LI)(p:Bool):LI:=q1h (xD b p) (xA b p) (xB b p)
theorem z8d(b:LI)(p:Bool):qbb (xD b p) (xF b p) (xA b p) (xB b p) (xT b p) (xW b p)=tab 64 (qt9 b p):=qge (qoa _ _ _ _ _ _)
def z8e(b:LI)(p:Bool):Nat→Int:=qo9 (qk7 b p) (xF b p) (xW b p) (qvo b p) (qt9 b p)
theorem zpe(b:LI)(p:Bool)(a0:LI):q7g 600 a0 (xD b p) (xF b p) (xA b p) (xB b p) (xT b p) (xW b p) (qk7 b p)=some (tab 64 (z8e b p),()):=by
 unfold q7g
 rw[zbx (by omega) _ _ (zmx b p) (qty b p),qtw (by omega) _ _ (zmx b p),z8d]
 have h:=zey a0 (xD b p) (xA b p) (xB b p) (xT b p) (xW b p) q02 (qk7 b p) (xF b p) (W:=xW b p) (bs:=qvo b p) (qo6 _ _ _) (qt9 b p) 16 0 600 (by omega) (by omega)
 rw[qt8,show((0:Nat):Int)=0 from rfl]at h
 simp only[y5]
 rw[show q1h (xD b p) (xA b p) (xB b p)=qvo b p from rfl,h]
 rfl
def zF(s:Bool)(kind:Int)(W:LI)(g:Nat→Int)(j:Nat):Int:=if s=false∧kind≠3∧W.getD (j/4) 0=2 then 0 else g j
theorem zero_row:[(0:Int),0,0,0]=tab 4 fun _=>0:=rfl
theorem zmy(x0:LI)(x1:LI)(x2:Bool)(x3:Bool)(x4:LI)(x5:LI)(x6:LI)(x7:LI)(s:Bool)(kind:Int)(W:LI)(g:Nat→Int):∀(d i k:Nat),i+d=16→d<k→
  q1v 600 k x0 x1 x2 x3 x4 x5 x6 x7 s kind (tab 64 (upTo i (zF s kind W g) g)) W ((i:Int))=some (x0,tab 64 (zF s kind W g),()):=by
 intro d
 induction d with
 |zero=>
  intro i k h1 h2
  obtain⟨k,rfl⟩:∃k',k=k' +1:=⟨k-1,by omega⟩
  obtain rfl:i=16:=by omega
  unfold q1v q9o
  have:¬(((16:Nat):Int)<16):=by omega
  simp only[this,dF,cF,qyl]
 |succ d ih=>
  intro i k h1 h2
  obtain⟨k,rfl⟩:∃k',k=k' +1:=⟨k-1,by omega⟩
  have i1:(i:Int)<16:=by omega
  have fin:=ih (i+1) k (by omega) (by omega)
  have keep:(¬(s=false∧kind≠3∧W.getD i 0=2))→tab 64 (upTo i (zF s kind W g) g)=tab 64 (upTo (i+1) (zF s kind W g) g):=fun h=>qt7 fun j hj=>by
   unfold zF
   rw[hj,iN h]
  unfold q1v q9o
  cases s
  ·by_cases hk:kind=3
   ·simp only[i1,dT,cT,yc,yd,yb,Bool.not_false,hk,show((3:Int) !=3)=false from rfl,cF]
    rw[hk]at keep fin
    rw[q0d (by omega),keep (fun h=>h.2.1 rfl)]
    exact fin
   ·by_cases hw:W.getD i 0=2
    ·simp only[i1,dT,cT,yc,yd,yb,Bool.not_false,bneT hk,beqT hw,zero_row,qgf (show i*4+4≤64 by omega)]
     rw[q0d (by omega),show(tab 64 fun j=>if j/4=i then 0 else upTo i (zF false kind W g) g j)=tab 64 (upTo (i+1) (zF false kind W g) g)from qk8 (h:=fun _=>0) (fun c hc=>by
      unfold zF
      rw[(mul4 i c hc).1,iP ⟨rfl,hk,hw⟩])]
     exact fin
    ·simp only[i1,dT,cT,yc,yd,yb,Bool.not_false,bneT hk,beqF hw,cF]
     rw[q0d (by omega),keep (fun h=>hw h.2.2)]
     exact fin
  ·simp only[i1,dT,cT,yc,yd,yb,Bool.not_true,cF]
   rw[q0d (by omega),keep (fun h=>by cases h.1)]
   exact fin
def zhw(b:LI)(p:Bool):Nat→Int:=if qhb b p=0 then z8e b p else if qhb b p=1 then qbc (qgh b) (xW b p)else if qhb b p=2 then qbc (qec b) (xW b p)else qwm b
def qdo(b:LI)(p:Bool):Nat→Int:=zF (qk7 b p) (qhb b p) (xW b p) (zhw b p)
theorem kind4(b:LI)(p:Bool):qhb b p=0∨qhb b p=1∨qhb b p=2∨qhb b p=3:=by
 have:=qwn (xD b p) (xA b p) (xB b p)
 unfold qhb
 split<;>omega
theorem qwo{b:LI}(hb:Bytes b)(hl:b.length=8)(p:Bool):q9p 600 b p=some (tab 64 (qdo b p),0,()):=by
 have hn:(((b.length:Nat):Int) !=8)=false:=by rw[hl];rfl
 unfold q9p
 rw[hn,zpc hb hl p]
 simp only[cF,y5,zpd]
 have l0:=fun g=>zmy q02 b (xD b p) (xF b p) (xA b p) (xB b p) (xT b p) (xW b p) (qk7 b p) (qhb b p) (xW b p) g 16 0 600 (by omega) (by omega)
 simp only[qt8,show((0:Nat):Int)=0 from rfl]at l0
 have hT:=(ofT_is hb hl (xD b p) (xF b p) (xA b p) (xB b p) (xT b p) (qty b p) (qk7 b p)).1
 have hH:=(ofH_is hb hl (xD b p) (xF b p) (xA b p) (xB b p) (xT b p) (qty b p) (qk7 b p)).1
 have hp:=(zhu hb hl (xD b p) (xF b p) (xA b p) (xB b p) (xT b p) (xW b p) (qk7 b p)).1
 have hd:=zpe b p b
 unfold qdo zhw
 rcases kind4 b p with h|h|h|h
 ·rw[h]at l0⊢
  simp only[beq_self_eq_true,cT,hd,y5,l0,if_true]
 ·rw[h]at l0⊢
  simp only[show((1:Int)==0)=false from rfl,beq_self_eq_true,cT,cF,hT,y5,l0,show¬(1:Int)=0 by decide,if_false,if_true]
 ·rw[h]at l0⊢
  simp only[show((2:Int)==0)=false from rfl,show((2:Int)==1)=false from rfl,beq_self_eq_true,cT,cF,hH,y5,l0,show¬(2:Int)=0 by decide,show¬(2:Int)=1 by decide,if_false,if_true]
 ·rw[h]at l0⊢
  simp only[show((3:Int)==0)=false from rfl,show((3:Int)==1)=false from rfl,show((3:Int)==2)=false from rfl,beq_self_eq_true,cT,cF,hp,y5,l0,show¬(3:Int)=0 by decide,show¬(3:Int)=1 by decide,show¬(3:Int)=2 by decide,if_false]
theorem rdec_T{b:LI}(hb:Bytes b)(hl:b.length=8)(s d f:Bool){A B T W bs:LI}(hW:∀i,0≤W.getD i 0∧W.getD i 0≤3)(x1:LI)(q:Nat→Int):∀(dd i k:Nat),i+dd=16→dd<k→
  q0c 600 k b x1 ((1:Int)) s d f A B T W (tab 64 (upTo i (zF s 1 W (qbc (qgh b) W)) q)) bs ((i:Int))=some (x1,tab 64 (zF s 1 W (qbc (qgh b) W)),()):=by
 intro dd
 induction dd with
 |zero=>
  intro i k h1 h2
  obtain⟨k,rfl⟩:∃k',k=k' +1:=⟨k-1,by omega⟩
  obtain rfl:i=16:=by omega
  unfold q0c q3c
  have:¬(((16:Nat):Int)<16):=by omega
  simp only[this,dF,cF,qyl]
 |succ dd ih=>
  intro i k h1 h2
  obtain⟨k,rfl⟩:∃k',k=k' +1:=⟨k-1,by omega⟩
  have i1:(i:Int)<16:=by omega
  have h4:=(ofT_is hb hl d f A B T hW s).2
  have hw:=hW i
  have j2:W.getD i 0<4:=by omega
  have fin:=ih (i+1) k (by omega) (by omega)
  have row:∀c,c<4→¬(s=false∧W.getD i 0=2)→(qgh b).getD ((W.getD i 0).toNat*4+c) 0=zF s 1 W (qbc (qgh b) W) (i*4+c):=fun c hc h=>by
   unfold zF qbc
   rw[(mul4 i c hc).1,(mul4 i c hc).2,iN (fun hh=>h ⟨hh.1,hh.2.2⟩)]
  unfold q0c q3c
  cases s
  ·by_cases h2' :W.getD i 0=2
   ·simp only[i1,dT,cT,beq_self_eq_true,h4,y5,yc,yd,yb,hw.1,j2,q78 (show(qgh b).length=16 from rfl) (show(W.getD i 0).toNat*4+4≤16 by omega),qgf (show i*4+4≤64 by omega),Bool.not_false,beqT h2',zero_row]
    rw[q0d (by omega),q0a fun j hj=>show(if j/4=i then 0 else if j/4=i then(qgh b).getD ((W.getD i 0).toNat*4+j%4) 0 else upTo i (zF false 1 W (qbc (qgh b) W)) q j)=upTo (i+1) (zF false 1 W (qbc (qgh b) W)) q j by
     unfold upTo
     by_cases h3:j/4=i
     ·rw[iP h3,iP (by omega)]
      unfold zF
      rw[h3,iP ⟨rfl,by decide,h2'⟩]
     ·rw[iN h3,iN h3]
      by_cases h5:j/4<i
      ·rw[iP h5,iP (by omega)]
      ·rw[iN h5,iN (by omega)]]
    exact fin
   ·simp only[i1,dT,cT,beq_self_eq_true,h4,y5,yc,yd,yb,hw.1,j2,q78 (show(qgh b).length=16 from rfl) (show(W.getD i 0).toNat*4+4≤16 by omega),qgf (show i*4+4≤64 by omega),Bool.not_false,beqF h2',cF]
    rw[q0d (by omega),show(tab 64 fun j=>if j/4=i then(qgh b).getD ((W.getD i 0).toNat*4+j%4) 0 else upTo i (zF false 1 W (qbc (qgh b) W)) q j)=tab 64 (upTo (i+1) (zF false 1 W (qbc (qgh b) W)) q)from qk8 (h:=fun c=>(qgh b).getD ((W.getD i 0).toNat*4+c) 0) (fun c hc=>row c hc (fun h=>h2' h.2))]
    exact fin
  ·simp only[i1,dT,cT,beq_self_eq_true,h4,y5,yc,yd,yb,hw.1,j2,q78 (show(qgh b).length=16 from rfl) (show(W.getD i 0).toNat*4+4≤16 by omega),qgf (show i*4+4≤64 by omega),Bool.not_true,cF]
   rw[q0d (by omega),show(tab 64 fun j=>if j/4=i then(qgh b).getD ((W.getD i 0).toNat*4+j%4) 0 else upTo i (zF true 1 W (qbc (qgh b) W)) q j)=tab 64 (upTo (i+1) (zF true 1 W (qbc (qgh b) W)) q)from qk8 (h:=fun c=>(qgh b).getD ((W.getD i 0).toNat*4+c) 0) (fun c hc=>row c hc (fun h=>by cases h.1))]
   exact fin
theorem rdec_H{b:LI}(hb:Bytes b)(hl:b.length=8)(s d f:Bool){A B T W bs:LI}(hW:∀i,0≤W.getD i 0∧W.getD i 0≤3)(x1:LI)(q:Nat→Int):∀(dd i k:Nat),i+dd=16→dd<k→
  q0c 600 k b x1 ((2:Int)) s d f A B T W (tab 64 (upTo i (zF s 2 W (qbc (qec b) W)) q)) bs ((i:Int))=some (x1,tab 64 (zF s 2 W (qbc (qec b) W)),()):=by
 intro dd
 induction dd with
 |zero=>
  intro i k h1 h2
  obtain⟨k,rfl⟩:∃k',k=k' +1:=⟨k-1,by omega⟩
  obtain rfl:i=16:=by omega
  unfold q0c q3c
  have:¬(((16:Nat):Int)<16):=by omega
  simp only[this,dF,cF,qyl]
 |succ dd ih=>
  intro i k h1 h2
  obtain⟨k,rfl⟩:∃k',k=k' +1:=⟨k-1,by omega⟩
  have i1:(i:Int)<16:=by omega
  have h4:=(ofH_is hb hl d f A B T hW s).2
  have hw:=hW i
  have j2:W.getD i 0<4:=by omega
  have fin:=ih (i+1) k (by omega) (by omega)
  have row:∀c,c<4→¬(s=false∧W.getD i 0=2)→(qec b).getD ((W.getD i 0).toNat*4+c) 0=zF s 2 W (qbc (qec b) W) (i*4+c):=fun c hc h=>by
   unfold zF qbc
   rw[(mul4 i c hc).1,(mul4 i c hc).2,iN (fun hh=>h ⟨hh.1,hh.2.2⟩)]
  unfold q0c q3c
  cases s
  ·by_cases h2' :W.getD i 0=2
   ·simp only[i1,dT,cT,show((2:Int)==1)=false from rfl,beq_self_eq_true,cF,h4,y5,yc,yd,yb,hw.1,j2,q78 (show(qec b).length=16 from rfl) (show(W.getD i 0).toNat*4+4≤16 by omega),qgf (show i*4+4≤64 by omega),Bool.not_false,beqT h2',zero_row]
    rw[q0d (by omega),q0a fun j hj=>show(if j/4=i then 0 else if j/4=i then(qec b).getD ((W.getD i 0).toNat*4+j%4) 0 else upTo i (zF false 2 W (qbc (qec b) W)) q j)=upTo (i+1) (zF false 2 W (qbc (qec b) W)) q j by
     unfold upTo
     by_cases h3:j/4=i
     ·rw[iP h3,iP (by omega)]
      unfold zF
      rw[h3,iP ⟨rfl,by decide,h2'⟩]
     ·rw[iN h3,iN h3]
      by_cases h5:j/4<i
      ·rw[iP h5,iP (by omega)]
      ·rw[iN h5,iN (by omega)]]
    exact fin
   ·simp only[i1,dT,cT,show((2:Int)==1)=false from rfl,beq_self_eq_true,cF,h4,y5,yc,yd,yb,hw.1,j2,q78 (show(qec b).length=16 from rfl) (show(W.getD i 0).toNat*4+4≤16 by omega),qgf (show i*4+4≤64 by omega),Bool.not_false,beqF h2',cF]
    rw[q0d (by omega),show(tab 64 fun j=>if j/4=i then(qec b).getD ((W.getD i 0).toNat*4+j%4) 0 else upTo i (zF false 2 W (qbc (qec b) W)) q j)=tab 64 (upTo (i+1) (zF false 2 W (qbc (qec b) W)) q)from qk8 (h:=fun c=>(qec b).getD ((W.getD i 0).toNat*4+c) 0) (fun c hc=>row c hc (fun h=>h2' h.2))]
    exact fin
  ·simp only[i1,dT,cT,show((2:Int)==1)=false from rfl,beq_self_eq_true,cF,h4,y5,yc,yd,yb,hw.1,j2,q78 (show(qec b).length=16 from rfl) (show(W.getD i 0).toNat*4+4≤16 by omega),qgf (show i*4+4≤64 by omega),Bool.not_true,cF]
   rw[q0d (by omega),show(tab 64 fun j=>if j/4=i then(qec b).getD ((W.getD i 0).toNat*4+j%4) 0 else upTo i (zF true 2 W (qbc (qec b) W)) q j)=tab 64 (upTo (i+1) (zF true 2 W (qbc (qec b) W)) q)from qk8 (h:=fun c=>(qec b).getD ((W.getD i 0).toNat*4+c) 0) (fun c hc=>row c hc (fun h=>by cases h.1))]
   exact fin
theorem rdec_0(x0:LI)(x1:LI)(x4:Bool)(x6:LI)(x7:LI)(x8:LI)(s f:Bool){W bs:LI}(hbs:bs.length=8)(q:Nat→Int):∀(dd i k:Nat),i+dd=16→dd<k→
  q0c 600 k x0 x1 0 s x4 f x6 x7 x8 W (tab 64 (upTo i (zF s 0 W (qo9 s f W bs q)) q)) bs ((i:Int))=some (x1,tab 64 (zF s 0 W (qo9 s f W bs q)),()):=by
 intro dd
 induction dd with
 |zero=>
  intro i k h1 h2
  obtain⟨k,rfl⟩:∃k',k=k' +1:=⟨k-1,by omega⟩
  obtain rfl:i=16:=by omega
  unfold q0c q3c
  have:¬(((16:Nat):Int)<16):=by omega
  simp only[this,dF,cF,qyl]
 |succ dd ih=>
  intro i k h1 h2
  obtain⟨k,rfl⟩:∃k',k=k' +1:=⟨k-1,by omega⟩
  have i1:(i:Int)<16:=by omega
  have fin:=ih (i+1) k (by omega) (by omega)
  have z1:((0:Int)==1)=false:=rfl
  have z2:((0:Int)==2)=false:=rfl
  unfold q0c q3c
  cases s
  ·by_cases hw:W.getD i 0=0
   ·have hh:=qmc f i
    have j2:((q2m f (i:Nat):Nat):Int)<2:=by omega
    have h20:(W.getD i 0==2)=false:=beqF (by omega)
    simp only[i1,dT,cT,z1,z2,cF,yc,yd,yb,Bool.not_false,beqT hw,(qj1 600 f i).2,y5,j2,q78 hbs (show q2m f (i:Nat)*4+4≤8 by omega),qgf (show i*4+4≤64 by omega),h20]
    rw[q0d (by omega),show(tab 64 fun j=>if j/4=i then bs.getD (q2m f (i:Int)*4+j%4) 0 else upTo i (zF false 0 W (qo9 false f W bs q)) q j)=tab 64 (upTo (i+1) (zF false 0 W (qo9 false f W bs q)) q)from qk8 (h:=fun c=>bs.getD (q2m f (i:Int)*4+c) 0) (fun c hc=>by
     unfold zF qo9
     rw[(mul4 i c hc).1,(mul4 i c hc).2,iN (by omega),iP ⟨rfl,hw⟩])]
    exact fin
   ·by_cases h2' :W.getD i 0=2
    ·simp only[i1,dT,cT,z1,z2,cF,yc,yd,yb,Bool.not_false,beqF hw,beqT h2',zero_row,qgf (show i*4+4≤64 by omega)]
     rw[q0d (by omega),show(tab 64 fun j=>if j/4=i then 0 else upTo i (zF false 0 W (qo9 false f W bs q)) q j)=tab 64 (upTo (i+1) (zF false 0 W (qo9 false f W bs q)) q)from qk8 (h:=fun _=>0) (fun c hc=>by
      unfold zF
      rw[(mul4 i c hc).1,iP ⟨rfl,by decide,h2'⟩])]
     exact fin
    ·simp only[i1,dT,cT,z1,z2,cF,yc,yd,yb,Bool.not_false,beqF hw,beqF h2']
     rw[q0d (by omega),qt7 (i:=i) (fun j hj=>by
      unfold zF qo9
      rw[hj,iN (fun h=>h2' h.2.2),iN (fun h=>hw h.2)])]
     exact fin
  ·simp only[i1,dT,cT,z1,z2,cF,yc,yd,yb,Bool.not_true]
   rw[q0d (by omega),qt7 (i:=i) (fun j hj=>by
    unfold zF qo9
    rw[iN (fun h=>by cases h.1),iN (fun h=>by cases h.1)])]
   exact fin
theorem qta{b:LI}(hb:Bytes b)(hl:b.length=8)(p:Bool):q66 600 b p=some (tab 64 (qdo b p),0,()):=by
 have hn:(((b.length:Nat):Int) !=8)=false:=by rw[hl];rfl
 have key:qhb b p≠3→q0c 600 600 b q02 (qhb b p) (qk7 b p) (xD b p) (xF b p) (xA b p) (xB b p) (xT b p) (xW b p) (tab 64 (qt9 b p)) (qvo b p) 0=some (q02,tab 64 (qdo b p),()):=fun h3=>by
  unfold qdo zhw
  rcases kind4 b p with h|h|h|h
  ·rw[h]
   have l:=rdec_0 b q02 (xD b p) (xA b p) (xB b p) (xT b p) (qk7 b p) (xF b p) (W:=xW b p) (bs:=qvo b p) (qo6 _ _ _) (qt9 b p) 16 0 600 (by omega) (by omega)
   rw[qt8,show((0:Nat):Int)=0 from rfl]at l
   rw[l]
   rfl
  ·rw[h]
   have l:=rdec_T hb hl (qk7 b p) (xD b p) (xF b p) (A:=xA b p) (B:=xB b p) (T:=xT b p) (bs:=qvo b p) (qty b p) q02 (qt9 b p) 16 0 600 (by omega) (by omega)
   rw[qt8,show((0:Nat):Int)=0 from rfl]at l
   rw[l]
   rfl
  ·rw[h]
   have l:=rdec_H hb hl (qk7 b p) (xD b p) (xF b p) (A:=xA b p) (B:=xB b p) (T:=xT b p) (bs:=qvo b p) (qty b p) q02 (qt9 b p) 16 0 600 (by omega) (by omega)
   rw[qt8,show((0:Nat):Int)=0 from rfl]at l
   rw[l]
   rfl
  ·exact absurd h h3
 unfold q66
 rw[hn,(Kind_is hb hl p).2]
 simp only[cF,y5]
 by_cases h3:qhb b p=3
 ·have hz:qdo b p=qwm b:=by
   funext j
   unfold qdo zF zhw
   rw[h3,iN (fun h=>h.2.1 rfl),iN (by decide),iN (by decide),iN (by decide)]
  rw[beqT h3,(zhu hb hl false false [] [] [] [] false).2,hz]
  rfl
 ·rw[beqF h3]
  have k:=key h3
  have hb1:q91 600 (xD b p,xF b p,xA b p,xB b p,xT b p,xW b p,())=some (qvo b p,qjc (xD b p) (xA b p) (xB b p),()):=qwi (by omega) _ _ (zmx b p) _ _
  have hp1:q92 600 (xD b p,xF b p,xA b p,xB b p,xT b p,xW b p,())=some (tab 64 (qt9 b p),()):=(qwj (by omega) _ _ (zmx b p) (qty b p)).trans (by rw[z8d])
  cases p
  ·simp only[cF,cT,Bool.not_false,z8c hb hl false,y5,hp1,hb1]
   have k' :q0c 600 600 b q02 (qhb b false) true (xD b false) (xF b false) (xA b false) (xB b false) (xT b false) (xW b false) (tab 64 (qt9 b false)) (qvo b false) 0=some (q02,tab 64 (qdo b false),()):=k
   rw[k']
   rfl
  ·have t:q22 600 b (30:Int) (1:Int)=_:=qfl (a:=30) (n:=1) (by omega) hb hl (by omega) (by omega)
   simp only[cF,Bool.not_true,t,z8c hb hl true,y5,hp1,hb1]
   have k' :q0c 600 600 b q02 (qhb b true) (hv b 30 1==1) (xD b true) (xF b true) (xA b true) (xB b true) (xT b true) (xW b true) (tab 64 (qt9 b true)) (qvo b true) 0=some (q02,tab 64 (qdo b true),()):=k
   rw[k']
   rfl
theorem zpf{b:LI}{p:Bool}(h:qk7 b p=true):qdo b p=zhw b p:=by
 funext j
 unfold qdo zF
 rw[iN (fun hh=>by rw[h]at hh;cases hh.1)]
theorem zpg{b:LI}(hb:Bytes b)(hl:b.length=8)(h:hv b 30 1=1):hset b 30 1 1=b:=by
 refine qvm (qhr hb 30 1 1) hb (qtu _ _ _ _) fun q hq=> ?_
 rw[qyf hb (by omega)]
 by_cases hc:30≤q∧q<30+1
 ·rw[iP hc]
  have:=zl9 b (a:=30) (n:=1) hc.1 hc.2
  rw[h]at this
  exact this
 ·rw[iN hc]
theorem dec_old{b:LI}(h:qjc (qa1 b) (eAs (qa1 b) b) (eBs (qa1 b) b)=3):tab 64 (qdo b false)=z86 b:=by
 have hk:qhb b false=0:=by
  unfold qhb
  exact iP h
 rw[zpf rfl]
 unfold zhw
 rw[iP hk]
 have:z8e b false=qt9 b false:=by
  funext j
  unfold z8e qo9
  rw[iN (fun hh=>by cases hh.1)]
 rw[this]
 exact(z8d b false).symm
theorem zlj(n:Int):(y0 .i64 n)%18446744073709551616=n%18446744073709551616:=by
 simp only[y0]
 simp[IntKind.signed,IntKind.bits]
 try omega
theorem zmz(X:BitVec 64):BitVec.ofInt 64 (y0 .i64 (X.toNat:Int))=X:=by
 apply BitVec.eq_of_toNat_eq
 rw[BitVec.toNat_ofInt]
 have h:=zlj (X.toNat:Int)
 have hx:=X.isLt
 have:((2^64:Nat):Int)=18446744073709551616:=by decide
 rw[this,h]
 omega
theorem zhx(X:BitVec 64):y0 .i64 (X.toNat:Int)=0↔X.toNat=0:=by
 have h:=zlj (X.toNat:Int)
 have hx:=X.isLt
 constructor
 ·intro e
  rw[e]at h
  omega
 ·intro e
  rw[e]
  rfl
theorem zph(X:BitVec 64){b:Nat}(hb:b≤62):(X&&& ~~~(BitVec.ofNat 64 (2^b-1))).toNat=0↔X.toNat<2^b:=by
 have hM:∀i,i<64→(BitVec.ofNat 64 (2^b-1)).getLsbD i=decide (i<b):=fun i hi=>by
  rw[BitVec.getLsbD_ofNat,Nat.testBit_two_pow_sub_one]
  simp[hi]
 constructor
 ·intro h
  refine Nat.lt_pow_two_of_testBit _ fun i hi=> ?_
  by_cases h64:i<64
  ·have h2:(X&&& ~~~(BitVec.ofNat 64 (2^b-1))).getLsbD i=false:=by
    show Nat.testBit (X&&& ~~~(BitVec.ofNat 64 (2^b-1))).toNat i=false
    rw[h]
    exact Nat.zero_testBit i
   rw[BitVec.getLsbD_and,BitVec.getLsbD_not,hM i h64]at h2
   have hd:decide (i<b)=false:=by simp;omega
   rw[hd]at h2
   have h3:X.getLsbD i=false:=by
    cases hX:X.getLsbD i
    ·rfl
    ·rw[hX]at h2
     simp[h64]at h2
   exact h3
  ·exact BitVec.getLsbD_of_ge X i (by omega)
 ·intro h
  have:X&&& ~~~(BitVec.ofNat 64 (2^b-1))=0#64:=by
   apply BitVec.eq_of_getLsbD_eq
   intro i hi
   rw[BitVec.getLsbD_and,BitVec.getLsbD_not,hM i hi]
   by_cases hib:i<b
   ·simp[hib]
   ·have hx:X.getLsbD i=false:=Nat.testBit_lt_two_pow (Nat.lt_of_lt_of_le h (Nat.pow_le_pow_right (by decide) (by omega)))
    rw[hx]
    simp
  rw[this]
  rfl
theorem z8f(x:Int):((BitVec.ofInt 64 x).toNat:Int)=x%18446744073709551616:=by
 rw[BitVec.toNat_ofInt]
 have:((2^64:Nat):Int)=18446744073709551616:=by decide
 rw[this,Int.toNat_of_nonneg (by omega)]
theorem andn_is{x:Int}(hx: -9223372036854775808≤x∧x≤9223372036854775807){b:Nat}(hb:b≤62){c:Int}(hc:c=2^b-1):qwu .i64 x c=0↔0≤x∧x<2^b:=by
 have hp:=qfj b
 have hpb:(2:Int)^b≤2^62:=qgd hb
 have hn:(2:Nat)^b≤2^62:=Nat.pow_le_pow_right (by decide) hb
 have hcn:c=((2^b-1:Nat):Int):=by
  have:1≤(2:Nat)^b:=Nat.pow_pos (by decide:0<2)
  have e:((2^b:Nat):Int)=(2:Int)^b:=w9 2 b
  rw[hc]
  omega
 have e:((2^b:Nat):Int)=(2:Int)^b:=w9 2 b
 have hx2:=z8f x
 unfold qwu
 rw[hcn,BitVec.ofInt_natCast]
 show y0 .i64 ((BitVec.ofInt 64 x&&& ~~~(BitVec.ofNat 64 (2^b-1))).toNat:Int)=0↔_
 rw[zhx,zph _ hb]
 omega
theorem or_range{x z:Int}(hx: -9223372036854775808≤x∧x≤9223372036854775807)(hz: -9223372036854775808≤z∧z≤9223372036854775807):qwu .i64 (ior .i64 x z) 63=0↔(0≤x∧x<64)∧(0≤z∧z<64):=by
 have hx2:=z8f x
 have hz2:=z8f z
 have key:qwu .i64 (ior .i64 x z) 63=y0 .i64 ((BitVec.ofInt 64 (y0 .i64 ((BitVec.ofInt 64 x|||BitVec.ofInt 64 z).toNat:Int))&&& ~~~(BitVec.ofInt 64 63)).toNat:Int):=rfl
 have e63:BitVec.ofInt 64 63=BitVec.ofNat 64 (2^6-1):=by decide
 rw[key,e63,zmz,zhx,zph _ (by omega),BitVec.toNat_or]
 have h1:(BitVec.ofInt 64 x).toNat≤(BitVec.ofInt 64 x).toNat|||(BitVec.ofInt 64 z).toNat:=Nat.left_le_or
 have h2:(BitVec.ofInt 64 z).toNat≤(BitVec.ofInt 64 x).toNat|||(BitVec.ofInt 64 z).toNat:=Nat.right_le_or
 constructor
 ·intro h
  omega
 ·intro h
  exact Nat.or_lt_two_pow (by omega) (by omega)
def layB(c:LI)(L:List Nat)(n:Int):LI:=qjb (fun i=>L.getD i 0) (fun _=>1) (fun i=>n/2^(L.length-1-i)%2) c L.length
def Pl(L:List Nat):Prop:=L.length≤12∧(∀i,i<L.length→L.getD i 0<64)∧∀i j,i<L.length→j<L.length→L.getD i 0=L.getD j 0→i=j
theorem z8g{A N:Nat→Nat}{V:Nat→Int}{c:LI}(hc:Bytes c){m:Nat}(hr:∀i,i<m→A i+N i≤8*c.length){q:Nat}(hq:∀i,i<m→¬(A i≤q∧q<A i+N i)):
  ∀i,i≤m→q09 (qjb A N V c i) q=q09 c q
 |0,_=>rfl
 |i+1,hi=>by
  rw[qjb,qyf (q6m A N V hc i) (by rw[q83];exact hr i (by omega)),iN (hq i (by omega))]
  exact z8g hc hr hq i (by omega)
theorem qhc(c:LI)(L:List Nat)(n:Int):(layB c L n).length=c.length:=q83 _ _ _ _ _
theorem qa3{c:LI}(hc:Bytes c)(L:List Nat)(n:Int):Bytes (layB c L n):=q6m _ _ _ hc _
theorem qwp{c:LI}(hc:Bytes c)(hl:c.length=8){L:List Nat}(hL:Pl L)(n:Int){j:Nat}(hj:j<L.length):q09 (layB c L n) (L.getD j 0)=n/2^(L.length-1-j)%2:=by
 have h:=qyg (A:=fun i=>L.getD i 0) (N:=fun _=>1) (V:=fun i=>n/2^(L.length-1-i)%2) hc (m:=L.length) (fun i hi=>by have:=hL.2.1 i hi;show L.getD i 0+1≤_;omega) (fun i k hi hk hik=>by
  have:L.getD i 0≠L.getD k 0:=fun e=>hik (hL.2.2 i k hi hk e)
  show L.getD i 0+1≤L.getD k 0∨L.getD k 0+1≤L.getD i 0
  omega) hj (q:=L.getD j 0) (w8 _) (Nat.lt_succ_self _) L.length hj (w8 _)
 unfold layB
 rw[h,show L.getD j 0+1-1-L.getD j 0=0 by omega]
 omega
theorem qdk{c:LI}(hc:Bytes c)(hl:c.length=8){L:List Nat}(hL:Pl L)(n:Int){q:Nat}(hq:∀i,i<L.length→L.getD i 0≠q):q09 (layB c L n) q=q09 c q:=
 z8g hc (fun i hi=>by have:=hL.2.1 i hi;show L.getD i 0+1≤_;omega) (fun i hi h=>hq i hi (by
  have h1:L.getD i 0≤q:=h.1
  have h2:q<L.getD i 0+1:=h.2
  omega)) L.length (w8 _)
theorem zpi{c d:LI}(hc:Bytes c)(hl:c.length=8)(hd:Bytes d)(hdl:d.length=8){L:List Nat}(hL:Pl L){n:Int}(h1:∀j,j<L.length→q09 d (L.getD j 0)=n/2^(L.length-1-j)%2)
  (h2:∀q,q<64→(∀i,i<L.length→L.getD i 0≠q)→q09 d q=q09 c q):d=layB c L n:=by
 refine qvm hd (qa3 hc L n) (by rw[qhc,hl,hdl]) fun q hq=> ?_
 by_cases h:∃i,i<L.length∧L.getD i 0=q
 ·obtain⟨i,hi,rfl⟩:=h
  rw[qwp hc hl hL n hi,h1 i hi]
 ·have h' :∀i,i<L.length→L.getD i 0≠q:=fun i hi e=>h ⟨i,hi,e⟩
  rw[qdk hc hl hL n h',h2 q (by omega) h']
theorem hset_lay{c:LI}(hc:Bytes c)(hl:c.length=8){L:List Nat}(hL:Pl L){a n:Nat}(hn:L.length=n)(hLa:∀i,i<n→L.getD i 0=a+i)(h:a+n≤64)(v:Int):hset c a n v=layB c L v:=by
 refine zpi hc hl (qhr hc _ _ _) (by rw[qtu,hl]) hL (fun j hj=> ?_) fun q hq h' => ?_
 ·rw[qyf hc (by omega),hLa j (by omega),iP (by omega)]
  congr 3
  omega
 ·rw[qyf hc (by omega),iN]
  intro hc2
  have:=hLa (q-a) (by omega)
  exact h' (q-a) (by omega) (by omega)
theorem qym{L:List Nat}(h:(decide (L.length≤12)&&((yz L.length).all fun i=>decide (L.getD i 0<64)&&(yz L.length).all fun j=>decide (L.getD i 0=L.getD j 0→i=j)))=true):Pl L:=by
 simp only[yl,decide_eq_true_eq,List.all_eq_true,List.mem_range]at h
 exact⟨h.1,fun i hi=>(h.2 i hi).1,fun i j hi hj e=>(h.2 i hi).2 j hj e⟩
theorem shr_is{x:Int}{k:Nat}(hk:k≤63):iand .i64 (ishr .i64 x (k:Int)) 1=x/2^k%2:=by
 rw[z7z hk]
 exact qiz (b:=1) (by omega)
theorem bit_u(x:Int):y0 .u64 (x%2)=x%2:=wu64 (by omega) (by omega)
theorem zpj{c:LI}(hc:Bytes c)(hl:c.length=8)(n:Int){L:List Nat}(hL:Pl L):∀(d i k:Nat),i+d=L.length→d<k→
  q3b 600 k n (q4f L) (qjb (fun i=>L.getD i 0) (fun _=>1) (fun i=>n/2^(L.length-1-i)%2) c i) (L.length:Int) (i:Int)=some (layB c L n,()):=by
 intro d
 induction d with
 |zero=>
  intro i k h1 h2
  obtain⟨k,rfl⟩:∃k',k=k' +1:=⟨k-1,by omega⟩
  obtain rfl:i=L.length:=by omega
  unfold q3b q9n
  simp only[Int.lt_irrefl,dF,cF]
  rfl
 |succ d ih=>
  intro i k h1 h2
  obtain⟨k,rfl⟩:∃k',k=k' +1:=⟨k-1,by omega⟩
  have hi:i<L.length:=by omega
  have hlen:=hL.1
  have hp:=hL.2.1 i hi
  have i1:(i:Int)<(L.length:Int):=by omega
  have e1:y0 .i64 (y0 .i64 ((L.length:Int)-1)-(i:Int))=((L.length-1-i:Nat):Int):=by
   rw[w64 (x:=(L.length:Int)-1) (by omega) (by omega),w64 (by omega) (by omega)]
   omega
  have hs:q2p 600 (qjb (fun i=>L.getD i 0) (fun _=>1) (fun i=>n/2^(L.length-1-i)%2) c i) ((L.getD i 0:Nat):Int) (1:Int) (n/2^(L.length-1-i)%2)=_:=qhs (n:=1) (by omega) (q6m _ _ _ hc i) (by rw[q83];omega) (by omega) (by rw[q83];omega) (by omega)
  have fin:=ih (i+1) k (by omega) (by omega)
  unfold q3b q9n
  simp only[i1,dT,cT,yc,yd,yb,qfm,qyj,e1,shr_is (x:=n) (k:=L.length-1-i) (by omega),bit_u,hs,y5]
  rw[q0d (by omega)]
  exact fin
theorem zn0{c:LI}(hc:Bytes c)(hl:c.length=8)(n:Int){L:List Nat}(hL:Pl L):q3n 600 n (q4f L) c=some (layB c L n,()):=by
 unfold q3n
 have h:=zpj hc hl n hL L.length 0 600 (by omega) (by have:=hL.1;omega)
 rw[show((0:Nat):Int)=0 from rfl]at h
 rw[qfm,show q3b 600 600 n (q4f L) c (L.length:Int) 0=some (layB c L n,())from h]
 rfl
theorem zjm{c:LI}(hc:Bytes c)(hl:c.length=8){v:Int}{x y:Int}{a n:Nat}{L:List Nat}(hL:Pl L)(hx:x=a)(hy:y=(a:Int)+n-1)(hLn:L.length=n)(hLa:∀i,i<n→L.getD i 0=a+i)(h:a+n≤64)(hv:0≤v∧v<2^n):
  q3m 600 v x y c=some (layB c L v,()):=by
 subst hx
 subst hy
 have hn:=hL.1
 have e:y0 .i64 (y0 .i64 ((a:Int)+n-1-a)+1)=(n:Int):=by
  rw[w64 (x:=(a:Int)+n-1-a) (by omega) (by omega),w64 (by omega) (by omega)]
  omega
 have h2:(2:Int)^n≤2^12:=qgd (by omega)
 unfold q3m
 rw[e,wu64 hv.1 (by omega),qhs (by omega) hc (by omega) (by omega) (by omega) hv,hset_lay hc hl hL hLn hLa h]
 rfl
theorem zn1{c:LI}(hc:Bytes c)(hl:c.length=8){n:Int}(hn:0≤n∧n≤9223372036854775807){L:List Nat}(hL:Pl L):∀(i t k:Nat),t+i=L.length→i<k→
  qbi 600 k (qjb (fun t=>L.getD (L.length-1-t) 0) (fun _=>1) (fun t=>n/2^t%2) c t) (q4f L) (n/2^t) ((i:Int)-1)=some (qjb (fun t=>L.getD (L.length-1-t) 0) (fun _=>1) (fun t=>n/2^t%2) c L.length,()):=by
 intro i
 induction i with
 |zero=>
  intro t k h1 h2
  obtain⟨k,rfl⟩:∃k',k=k' +1:=⟨k-1,by omega⟩
  obtain rfl:t=L.length:=by omega
  unfold qbi qn6
  have:¬(0:Int)≤((0:Nat):Int)-1:=by omega
  simp only[this,dF,cF]
 |succ i ih=>
  intro t k h1 h2
  obtain⟨k,rfl⟩:∃k',k=k' +1:=⟨k-1,by omega⟩
  have hi:i<L.length:=by omega
  have hlen:=hL.1
  have hp:=hL.2.1 i hi
  have e0:((i+1:Nat):Int)-1=(i:Int):=by omega
  have i1:(i:Int)<(L.length:Int):=by omega
  have hq:0≤n/2^t:=Int.ediv_nonneg hn.1 (Int.le_of_lt (qfj t))
  have hq2:n/2^t≤n:=Int.ediv_le_self _ hn.1
  have em:yv (n/2^t) 2=n/2^t%2:=tmod_nonneg hq
  have ed:yw (n/2^t) 2=n/2^(t+1):=by rw[q2o hq,qt1]
  have hq3:0≤n/2^(t+1):=Int.ediv_nonneg hn.1 (Int.le_of_lt (qfj (t+1)))
  have hq4:n/2^(t+1)≤n:=Int.ediv_le_self _ hn.1
  have ew:y0 .i64 (n/2^(t+1))=n/2^(t+1):=w64 (by omega) (by omega)
  have ew2:y0 .i64 ((i:Int)-1)=(i:Int)-1:=w64 (by omega) (by omega)
  have ei:L.length-1-t=i:=by omega
  have hs:qf1 600 (qjb (fun t=>L.getD (L.length-1-t) 0) (fun _=>1) (fun t=>n/2^t%2) c t) ((L.getD i 0:Nat):Int) (1:Int) true (n/2^t%2)=some (qjb (fun t=>L.getD (L.length-1-t) 0) (fun _=>1) (fun t=>n/2^t%2) c (t+1),0,()):=by
   have:=zhm (F:=600) (by omega) (q6m (fun t=>L.getD (L.length-1-t) 0) (fun _=>1) (fun t=>n/2^t%2) hc t) (a:=L.getD i 0) (n:=1) (v:=n/2^t%2) (by rw[q83];omega) (by omega) (by rw[q83];omega) (by omega)
   rw[qjb]
   simp only[ei]
   exact this
  have fin:=ih (t+1) k (by omega) (by omega)
  unfold qbi qn6
  rw[e0]
  simp only[i1,dT,cT,yc,yd,yb,qfm,qyj,em,ed,ew,ew2,bit_u,hs,y5]
  exact fin
theorem qme{c:LI}(hc:Bytes c)(hl:c.length=8){n:Int}(hn:0≤n∧n≤9223372036854775807){L:List Nat}(hL:Pl L):q4b 600 c (q4f L) n=some (layB c L n,()):=by
 have hlen:=hL.1
 have h:=zn1 hc hl hn hL L.length 0 600 (by omega) (by omega)
 have e:qjb (fun t=>L.getD (L.length-1-t) 0) (fun _=>1) (fun t=>n/2^t%2) c L.length=layB c L n:=by
  have hr:∀i,i<L.length→(fun t=>L.getD (L.length-1-t) 0) i+(fun _=>1) i≤8*c.length:=fun i hi=>by
   have:=hL.2.1 (L.length-1-i) (by omega)
   show L.getD (L.length-1-i) 0+1≤_
   omega
  refine zpi hc hl (q6m _ _ _ hc _) (by rw[q83,hl]) hL (fun j hj=> ?_) fun q hq h' => ?_
  ·have:=qyg (A:=fun t=>L.getD (L.length-1-t) 0) (N:=fun _=>1) (V:=fun t=>n/2^t%2) hc (m:=L.length) hr (fun i k hi hk hik=>by
    have:L.getD (L.length-1-i) 0≠L.getD (L.length-1-k) 0:=fun e=>hik (by have:=hL.2.2 _ _ (by omega) (by omega) e;omega)
    show L.getD (L.length-1-i) 0+1≤L.getD (L.length-1-k) 0∨L.getD (L.length-1-k) 0+1≤L.getD (L.length-1-i) 0
    omega) (j:=L.length-1-j) (by omega) (q:=L.getD j 0) (by show L.getD (L.length-1-(L.length-1-j)) 0≤_;rw[show L.length-1-(L.length-1-j)=j by omega];exact w8 _) (by show _<L.getD (L.length-1-(L.length-1-j)) 0+1;rw[show L.length-1-(L.length-1-j)=j by omega];exact Nat.lt_succ_self _) L.length (by omega) (w8 _)
   rw[this]
   simp only[show L.length-1-(L.length-1-j)=j by omega,show L.getD j 0+1-1-L.getD j 0=0 by omega]
   omega
  ·exact z8g hc hr (fun i hi hh=>h' (L.length-1-i) (by omega) (by
    have h1:L.getD (L.length-1-i) 0≤q:=hh.1
    have h2:q<L.getD (L.length-1-i) 0+1:=hh.2
    omega)) L.length (w8 _)
 rw[e]at h
 unfold q4b
 rw[qfm,w64 (by omega) (by omega)]
 have h' :qbi 600 600 c (q4f L) n ((L.length:Int)-1)=some (layB c L n,()):=by
  have e0:n/2^0=n:=by simp
  rw[e0]at h
  exact h
 rw[h']
 rfl
def F1:List Nat:=[1,2,3,4,5,6]
def F2:List Nat:=[7,9,10,11,12,13,14]
def F3:List Nat:=[15,19,20,22,23,24]
def F4:List Nat:=[25,26,27,28,29,31]
def F5:List Nat:=[32,33,34,35,36,37,38]
def F6:List Nat:=[39,40,41,42,43,44]
def F7:List Nat:=[45,46,47,48,49,50]
def F8:List Nat:=[51,52,53,54,55,56,57]
def F9:List Nat:=[58,59,60,61,62,63]
def seqB(c:LI)(fs:List (List Nat×Int)):LI:=fs.foldl (fun c f=>layB c f.1 f.2) c
def fieldsOf(o h v:LI):List (List Nat×Int):=
 [(F1,o.getD 0 0),(F2,o.getD 1 0),(F3,o.getD 2 0),(F4,h.getD 0 0),(F5,h.getD 1 0),(F6,h.getD 2 0),(F7,v.getD 0 0),(F8,v.getD 1 0),(F9,v.getD 2 0),([30],1)]
def z8:LI:=[0,0,0,0,0,0,0,0]
def zAll(o h v:LI):LI:=seqB z8 (fieldsOf o h v)
theorem z45:Bytes z8:=fun x hx=>by simp[z8]at hx;omega
theorem zpk{c:LI}(hc:Bytes c)(hl:c.length=8):∀fs,Bytes (seqB c fs)∧(seqB c fs).length=8
 |[]=>⟨hc,hl⟩
 |f::fs=>zpk (qa3 hc f.1 f.2) (by rw[qhc,hl]) fs
def wV(b:LI)(c:Nat):Int:=(eAs (qa1 b) b).getD c 0+(eBs (qa1 b) b).getD c 0
def badW(x:Int):Prop:=x<0∨31<x
instance (x:Int):Decidable (badW x):=by unfold badW;exact inferInstance
def fix0(b:LI):LI:=if badW (wV b 0)then layB b [0] 1 else b
def fix1(b:LI):LI:=if badW (wV b 1)then layB (fix0 b) [8] 1 else fix0 b
def fix2(b:LI):LI:=if 4≤hv (fix1 b) 19 2+hv (fix1 b) 22 2 then layB (fix1 b) [16,17,18] 7 else layB (fix1 b) [21] 1
theorem P1:Pl F1:=qym (by decide+kernel)
theorem P2:Pl F2:=qym (by decide+kernel)
theorem P3:Pl F3:=qym (by decide+kernel)
theorem P4:Pl F4:=qym (by decide+kernel)
theorem P5:Pl F5:=qym (by decide+kernel)
theorem P6:Pl F6:=qym (by decide+kernel)
theorem P7:Pl F7:=qym (by decide+kernel)
theorem P8:Pl F8:=qym (by decide+kernel)
theorem P9:Pl F9:=qym (by decide+kernel)
theorem P30:Pl [30]:=qym (by decide+kernel)
theorem P00:Pl [0]:=qym (by decide+kernel)
theorem P08:Pl [8]:=qym (by decide+kernel)
theorem P16:Pl [16,17,18]:=qym (by decide+kernel)
theorem P21:Pl [21]:=qym (by decide+kernel)
theorem z8h{b:LI}(hb:Bytes b)(hl:b.length=8):Bytes (fix0 b)∧(fix0 b).length=8:=by
 unfold fix0
 split
 ·exact⟨qa3 hb _ _,by rw[qhc,hl]⟩
 ·exact⟨hb,hl⟩
theorem zez{b:LI}(hb:Bytes b)(hl:b.length=8):Bytes (fix1 b)∧(fix1 b).length=8:=by
 obtain⟨h1,h2⟩:=z8h hb hl
 unfold fix1
 split
 ·exact⟨qa3 h1 _ _,by rw[qhc,h2]⟩
 ·exact⟨h1,h2⟩
theorem fix2_ok{b:LI}(hb:Bytes b)(hl:b.length=8):Bytes (fix2 b)∧(fix2 b).length=8:=by
 obtain⟨h1,h2⟩:=zez hb hl
 unfold fix2
 split<;>exact⟨qa3 h1 _ _,by rw[qhc,h2]⟩
theorem fair_w(b:LI)(c:Nat): -4≤wV b c∧wV b c≤46:=by
 have hf:=eFair (qa1 b) b
 have h1:=hf.2.2.1 c
 have h2:=hf.2.2.2 c
 unfold wV
 omega
theorem zpl{b:LI}(hb:Bytes b)(hl:b.length=8)(z:LI)(d f:Bool)(T W:LI){c:Nat}(hc:c<2){L:List Nat}(hL:Pl L)(hLc:L=[8*c])(k:Nat):
  q4g 600 (k+1) b d f (eAs (qa1 z) z) (eBs (qa1 z) z) T W (c:Int)=q4g 600 k (if badW (wV z c)then layB b L 1 else b) d f (eAs (qa1 z) z) (eBs (qa1 z) z) T W ((c+1:Nat):Int):=by
 have i1:(c:Int)<2:=by omega
 have i3:(c:Int)<3:=by omega
 have hw:=fair_w z c
 have ew:y0 .i64 ((eAs (qa1 z) z).getD c 0+(eBs (qa1 z) z).getD c 0)=wV z c:=w64 (by unfold wV at hw;omega) (by unfold wV at hw;omega)
 have e8:[y0 .i64 (8*(c:Int))]=q4f L:=by
  rw[hLc,w64 (by omega) (by omega)]
  simp[q4f]
 have hp:=zn0 hb hl 1 hL
 conv=>lhs;unfold q4g qel
 simp only[i1,i3,dT,cT,yc,yd,yb,ew,e8,hp,y5]
 rw[q0d (by omega)]
 by_cases h1:wV z c<0
 ·rw[iP (show badW (wV z c)from Or.inl h1)]
  simp only[h1,dT,cT]
 ·by_cases h2:31<wV z c
  ·rw[iP (show badW (wV z c)from Or.inr h2)]
   simp only[h1,h2,dT,dF,cT,cF]
  ·rw[iN (show¬badW (wV z c)from fun h=>h.elim h1 h2)]
   simp only[h1,h2,dF,cF]
theorem l2_is{b:LI}(hb:Bytes b)(hl:b.length=8)(d f:Bool)(T W:LI)(k:Nat):q4g 600 (k+3) b d f (eAs (qa1 b) b) (eBs (qa1 b) b) T W 0=some (fix1 b,()):=by
 obtain⟨h1,h2⟩:=z8h hb hl
 refine(zpl hb hl b d f T W (c:=0) (by omega) P00 rfl (k+2)).trans ?_
 refine(zpl h1 h2 b d f T W (c:=1) (by omega) P08 rfl (k+1)).trans ?_
 unfold q4g qel
 have:¬(((1+1:Nat):Int)<2):=by omega
 simp only[this,dF,cF]
 rfl
theorem qtb{b:LI}(hb:Bytes b)(hl:b.length=8){L:List Nat}(hL:Pl L)(v:Int){a n:Nat}(h:∀q,a≤q→q<a+n→∀i,i<L.length→L.getD i 0≠q):hv (layB b L v) a n=hv b a n:=
 qba fun i hi=>qdk hb hl hL v (h (a+i) (by omega) (by omega))
theorem wV_fix{b:LI}(hb:Bytes b)(hl:b.length=8):wV (fix0 b) 1=wV b 1:=by
 unfold fix0
 split
 ·have h:∀a n,1≤a→hv (layB b [0] 1) a n=hv b a n:=fun a n ha=>qtb hb hl P00 1 fun q h1 h2 i hi=>by
   have:i=0:=by
    have:i<1:=hi
    omega
   subst this
   show 0≠q
   omega
  unfold wV eAs eBs eA eB qa1
  simp only[yt,yu,h 30 1 (by omega),h (8*1) 5 (by omega),h (8*1) 4 (by omega),h (8*1+5) 3 (by omega),h (8*1+4) 4 (by omega)]
 ·rfl
theorem zlk{b:LI}(hb:Bytes b)(hl:b.length=8){c:Nat}(hc:c<2){L:List Nat}(hL:Pl L)(hLc:L=[8*c])(k:Nat):
  q93 600 (k+1) b (c:Int)=q93 600 k (if badW (wV b c)then layB b L 1 else b) ((c+1:Nat):Int):=by
 have i1:(c:Int)<2:=by omega
 have i3:(c:Int)<3:=by omega
 have hw:=fair_w b c
 have ew:y0 .i64 ((eAs (qa1 b) b).getD c 0+(eBs (qa1 b) b).getD c 0)=wV b c:=w64 (by unfold wV at hw;omega) (by unfold wV at hw;omega)
 have e8:[y0 .i64 (8*(c:Int))]=q4f L:=by
  rw[hLc,w64 (by omega) (by omega)]
  simp[q4f]
 have hp:=qme hb hl (n:=1) (by omega) hL
 have hP:q6b 600 b=some (eP b,0,()):=qwg (by omega) hb hl
 conv=>lhs;unfold q93 qn8
 simp only[i1,i3,dT,cT,yc,yd,yb,hP,eP,ew,e8,hp,y5]
 rw[q0d (by omega)]
 by_cases h1:wV b c<0
 ·rw[iP (show badW (wV b c)from Or.inl h1)]
  simp only[h1,dT,cT]
 ·by_cases h2:31<wV b c
  ·rw[iP (show badW (wV b c)from Or.inr h2)]
   simp only[h1,h2,dT,dF,cT,cF]
  ·rw[iN (show¬badW (wV b c)from fun h=>h.elim h1 h2)]
   simp only[h1,h2,dF,cF]
theorem rl2_is{b:LI}(hb:Bytes b)(hl:b.length=8)(k:Nat):q93 600 (k+3) b 0=some (fix1 b,()):=by
 obtain⟨h1,h2⟩:=z8h hb hl
 refine(zlk hb hl (c:=0) (by omega) P00 rfl (k+2)).trans ?_
 refine(zlk h1 h2 (c:=1) (by omega) P08 rfl (k+1)).trans ?_
 rw[wV_fix hb hl]
 unfold q93 qn8
 have:¬(((1+1:Nat):Int)<2):=by omega
 simp only[this,dF,cF]
 rfl
def ok3(l:LI):Prop:=(0≤l.getD 0 0∧l.getD 0 0<64)∧(0≤l.getD 1 0∧l.getD 1 0<128)∧(0≤l.getD 2 0∧l.getD 2 0<64)
instance (l:LI):Decidable (ok3 l):=by unfold ok3;exact inferInstance
def I64(x:Int):Prop:= -9223372036854775808≤x∧x≤9223372036854775807
theorem zjn(o h v:LI){L:LI}(hL:∀i,I64 (L.getD i 0))(hLl:L.length=9){i:Nat}(hi:i<3)(k:Nat):
  q3o 600 (k+1) o h v L (i:Int)=(if ok3 (tab 3 fun c=>L.getD (i*3+c) 0)then q3o 600 k o h v L ((i+1:Nat):Int)else some (.inl ()))∧
  q7b 600 (k+1) o h v L (i:Int)=(if ok3 (tab 3 fun c=>L.getD (i*3+c) 0)then q7b 600 k o h v L ((i+1:Nat):Int)else some (.inl ())):=by
 have i1:(i:Int)<3:=by omega
 have hrow:y8 3 (y9 (i*3) L)=tab 3 fun c=>L.getD (i*3+c) 0:=by
  conv=>lhs;rw[qge hLl]
  exact zen (by omega)
 have hor:=or_range (hL (i*3)) (hL (i*3+2))
 have han:=andn_is (hL (i*3+1)) (b:=7) (by omega) (c:=127) (by decide)
 have g0:(tab 3 fun c=>L.getD (i*3+c) 0).getD 0 0=L.getD (i*3) 0:=q77 (by omega)
 have g1:(tab 3 fun c=>L.getD (i*3+c) 0).getD 1 0=L.getD (i*3+1) 0:=q77 (by omega)
 have g2:(tab 3 fun c=>L.getD (i*3+c) 0).getD 2 0=L.getD (i*3+2) 0:=q77 (by omega)
 have hok:ok3 (tab 3 fun c=>L.getD (i*3+c) 0)↔(0≤L.getD (i*3) 0∧L.getD (i*3) 0<64)∧(0≤L.getD (i*3+1) 0∧L.getD (i*3+1) 0<128)∧(0≤L.getD (i*3+2) 0∧L.getD (i*3+2) 0<64):=by
  unfold ok3
  rw[g0,g1,g2]
 have n3:L.length/3=3:=by rw[hLl]
 have i3:(i:Int)<((3:Nat):Int):=by omega
 constructor
 ·conv=>lhs;unfold q3o qek
  simp only[i1,dT,cT,yc,yd,yb,hrow,g0,g1,g2]
  rw[q0d (by omega)]
  by_cases hA:qwu .i64 (ior .i64 (L.getD (i*3) 0) (L.getD (i*3+2) 0)) 63=0
  ·by_cases hB:qwu .i64 (L.getD (i*3+1) 0) 127=0
   ·rw[iP (hok.2 ⟨(hor.1 hA).1,han.1 hB,(hor.1 hA).2⟩),hA,hB]
    rfl
   ·rw[iN (fun h=>hB (han.2 (hok.1 h).2.1)),hA,bneT hB]
    rfl
  ·rw[iN (fun h=>hA (hor.2 ⟨(hok.1 h).1,(hok.1 h).2.2⟩)),bneT hA]
   rfl
 ·conv=>lhs;unfold q7b qn7
  simp only[n3,i1,i3,dT,cT,yc,yd,yb,z84,y5]
  rw[q0d (by omega),Nat.add_comm 1 (i*3),Nat.add_comm 2 (i*3)]
  by_cases hA:0≤L.getD (i*3) 0∧L.getD (i*3) 0≤63
  ·by_cases hB:0≤L.getD (i*3+1) 0∧L.getD (i*3+1) 0≤127
   ·by_cases hC:0≤L.getD (i*3+2) 0∧L.getD (i*3+2) 0≤63
    ·rw[iP (hok.2 (by omega))]
     simp only[hA,hB,hC,and_self,dT,Bool.not_true,cF]
    ·rw[iN (fun h=>hC (by have:=hok.1 h;omega))]
     simp only[hA,hB,hC,and_self,dT,dF,Bool.not_true,Bool.not_false,cF,cT]
   ·rw[iN (fun h=>hB (by have:=hok.1 h;omega))]
    simp only[hA,hB,and_self,dT,dF,Bool.not_true,Bool.not_false,cF,cT]
  ·rw[iN (fun h=>hA (by have:=hok.1 h;omega))]
   simp only[hA,dF,Bool.not_false,cT]
theorem zpm{o h v:LI}(ho:o.length=3)(hh:h.length=3)(hv:v.length=3)(h64:∀i,I64 ((o++(h++v)).getD i 0))(k:Nat):
  q3o 600 (k+4) o h v (o++(h++v)) 0=some (if ok3 o∧ok3 h∧ok3 v then .inr (o,h,v,())else .inl ())∧q7b 600 (k+4) o h v (o++(h++v)) 0=some (if ok3 o∧ok3 h∧ok3 v then .inr (o,h,v,())else .inl ()):=by
 have hl:(o++(h++v)).length=9:=by simp[ho,hh,hv]
 have ho' :=qge ho
 have hh' :=qge hh
 have hv' :=qge hv
 have r0:(tab 3 fun c=>(o++(h++v)).getD (0*3+c) 0)=o:=by
  conv=>rhs;rw[ho']
  refine q0a fun c hc=> ?_
  rw[ye,ye,yg (by omega)]
  congr 2
  omega
 have r1:(tab 3 fun c=>(o++(h++v)).getD (1*3+c) 0)=h:=by
  conv=>rhs;rw[hh']
  refine q0a fun c hc=> ?_
  rw[ye,ye,w6 (by omega),yg (by omega)]
  congr 2
  omega
 have r2:(tab 3 fun c=>(o++(h++v)).getD (2*3+c) 0)=v:=by
  conv=>rhs;rw[hv']
  refine q0a fun c hc=> ?_
  rw[ye,ye,w6 (by omega),w6 (by omega)]
  congr 2
  omega
 obtain⟨a0,b0⟩:=zjn o h v h64 hl (i:=0) (by omega) (k+3)
 obtain⟨a1,b1⟩:=zjn o h v h64 hl (i:=1) (by omega) (k+2)
 obtain⟨a2,b2⟩:=zjn o h v h64 hl (i:=2) (by omega) (k+1)
 rw[r0]at a0 b0
 rw[r1]at a1 b1
 rw[r2]at a2 b2
 have a3:q3o 600 (k+1) o h v (o++(h++v)) ((2+1:Nat):Int)=some (.inr (o,h,v,())):=by
  unfold q3o qek
  have:¬(((2+1:Nat):Int)<3):=by omega
  simp only[this,dF,cF]
 have b3:q7b 600 (k+1) o h v (o++(h++v)) ((2+1:Nat):Int)=some (.inr (o,h,v,())):=by
  unfold q7b qn7
  have:¬(((2+1:Nat):Int)<3):=by omega
  simp only[this,dF,cF]
 constructor
 ·refine a0.trans ?_
  by_cases c0:ok3 o
  ·rw[iP c0]
   refine a1.trans ?_
   by_cases c1:ok3 h
   ·rw[iP c1]
    refine a2.trans ?_
    by_cases c2:ok3 v
    ·rw[iP c2,iP ⟨c0,c1,c2⟩]
     exact a3
    ·rw[iN c2,iN (fun h=>c2 h.2.2)]
   ·rw[iN c1,iN (fun h=>c1 h.2.1)]
  ·rw[iN c0,iN (fun h=>c0 h.1)]
 ·refine b0.trans ?_
  by_cases c0:ok3 o
  ·rw[iP c0]
   refine b1.trans ?_
   by_cases c1:ok3 h
   ·rw[iP c1]
    refine b2.trans ?_
    by_cases c2:ok3 v
    ·rw[iP c2,iP ⟨c0,c1,c2⟩]
     exact b3
    ·rw[iN c2,iN (fun h=>c2 h.2.2)]
   ·rw[iN c1,iN (fun h=>c1 h.2.1)]
  ·rw[iN c0,iN (fun h=>c0 h.1)]
def layV(o h v:LI):LI:=fix2 (zAll o h v)
theorem z8i(o h v:LI):Bytes (zAll o h v)∧(zAll o h v).length=8:=zpk z45 rfl _
theorem zf0(o h v:LI):Bytes (layV o h v)∧(layV o h v).length=8:=fix2_ok (z8i o h v).1 (z8i o h v).2
theorem span_is:q5z 600 1 6=some (q4f F1,())∧q5z 600 32 38=some (q4f F5,())∧q5z 600 39 44=some (q4f F6,())∧q5z 600 45 50=some (q4f F7,())∧q5z 600 51 57=some (q4f F8,())∧q5z 600 58 63=some (q4f F9,()):=by
 decide+kernel
theorem lay_is{o h v:LI}(ho:o.length=3)(hh:h.length=3)(hv' :v.length=3)(h64:∀i,I64 ((o++(h++v)).getD i 0)):
  qhm 600 o h v=some (if ok3 o∧ok3 h∧ok3 v then(layV o h v,0,())else([],1,()))∧zgy 600 o h v=some (if ok3 o∧ok3 h∧ok3 v then(layV o h v,0,())else([],1,())):=by
 obtain⟨la,lb⟩:=zpm ho hh hv' h64 596
 unfold qhm zgy
 rw[la,lb]
 simp only[y5]
 by_cases hok:ok3 o∧ok3 h∧ok3 v
 ·rw[iP hok,iP hok]
  simp only[]
  obtain⟨⟨o0,o1,o2⟩,⟨h0,h1,h2⟩,⟨v0,v1,v2⟩⟩:=hok
  have t0:qn4=z8:=rfl
  have t1:q85=q4f F2:=rfl
  have t2:q86=q4f F3:=rfl
  have t3:q87=q4f F4:=rfl
  have t30:[(30:Int)]=q4f [30]:=rfl
  have t16:[(16:Int),17,18]=q4f [16,17,18]:=rfl
  have t21:[(21:Int)]=q4f [21]:=rfl
  obtain⟨p1,p5,p6,p7,p8,p9⟩:=span_is
  have step:∀{c:LI} (hc:Bytes c∧c.length=8) (L:List Nat) (n:Int),Bytes (layB c L n)∧(layB c L n).length=8:=fun hc L n=>⟨qa3 hc.1 L n,by rw[qhc,hc.2]⟩
  have z0:Bytes z8∧z8.length=8:=⟨z45,rfl⟩
  have z1:=step z0 F1 (o.getD 0 0)
  have e1:=zjm z0.1 z0.2 (v:=o.getD 0 0) (x:=1) (y:=6) (a:=1) (n:=6) P1 rfl rfl rfl (by decide) (by omega) o0
  have f1:=qme z0.1 z0.2 (n:=o.getD 0 0) (by omega) P1
  obtain⟨s1,hs1⟩:∃s,layB z8 F1 (o.getD 0 0)=s:=⟨_,rfl⟩
  rw[hs1]at z1 e1 f1
  have z2:=step z1 F2 (o.getD 1 0)
  have e2:=zn0 z1.1 z1.2 (o.getD 1 0) P2
  have f2:=qme z1.1 z1.2 (n:=o.getD 1 0) (by omega) P2
  obtain⟨s2,hs2⟩:∃s,layB s1 F2 (o.getD 1 0)=s:=⟨_,rfl⟩
  rw[hs2]at z2 e2 f2
  have z3:=step z2 F3 (o.getD 2 0)
  have e3:=zn0 z2.1 z2.2 (o.getD 2 0) P3
  have f3:=qme z2.1 z2.2 (n:=o.getD 2 0) (by omega) P3
  obtain⟨s3,hs3⟩:∃s,layB s2 F3 (o.getD 2 0)=s:=⟨_,rfl⟩
  rw[hs3]at z3 e3 f3
  have z4:=step z3 F4 (h.getD 0 0)
  have e4:=zn0 z3.1 z3.2 (h.getD 0 0) P4
  have f4:=qme z3.1 z3.2 (n:=h.getD 0 0) (by omega) P4
  obtain⟨s4,hs4⟩:∃s,layB s3 F4 (h.getD 0 0)=s:=⟨_,rfl⟩
  rw[hs4]at z4 e4 f4
  have z5:=step z4 F5 (h.getD 1 0)
  have e5:=zjm z4.1 z4.2 (v:=h.getD 1 0) (x:=32) (y:=38) (a:=32) (n:=7) P5 rfl rfl rfl (by decide) (by omega) h1
  have f5:=qme z4.1 z4.2 (n:=h.getD 1 0) (by omega) P5
  obtain⟨s5,hs5⟩:∃s,layB s4 F5 (h.getD 1 0)=s:=⟨_,rfl⟩
  rw[hs5]at z5 e5 f5
  have z6:=step z5 F6 (h.getD 2 0)
  have e6:=zjm z5.1 z5.2 (v:=h.getD 2 0) (x:=39) (y:=44) (a:=39) (n:=6) P6 rfl rfl rfl (by decide) (by omega) h2
  have f6:=qme z5.1 z5.2 (n:=h.getD 2 0) (by omega) P6
  obtain⟨s6,hs6⟩:∃s,layB s5 F6 (h.getD 2 0)=s:=⟨_,rfl⟩
  rw[hs6]at z6 e6 f6
  have z7:=step z6 F7 (v.getD 0 0)
  have e7:=zjm z6.1 z6.2 (v:=v.getD 0 0) (x:=45) (y:=50) (a:=45) (n:=6) P7 rfl rfl rfl (by decide) (by omega) v0
  have f7:=qme z6.1 z6.2 (n:=v.getD 0 0) (by omega) P7
  obtain⟨s7,hs7⟩:∃s,layB s6 F7 (v.getD 0 0)=s:=⟨_,rfl⟩
  rw[hs7]at z7 e7 f7
  have z8' :=step z7 F8 (v.getD 1 0)
  have e8:=zjm z7.1 z7.2 (v:=v.getD 1 0) (x:=51) (y:=57) (a:=51) (n:=7) P8 rfl rfl rfl (by decide) (by omega) v1
  have f8:=qme z7.1 z7.2 (n:=v.getD 1 0) (by omega) P8
  obtain⟨s8,hs8⟩:∃s,layB s7 F8 (v.getD 1 0)=s:=⟨_,rfl⟩
  rw[hs8]at z8' e8 f8
  have z9:=step z8' F9 (v.getD 2 0)
  have e9:=zjm z8'.1 z8'.2 (v:=v.getD 2 0) (x:=58) (y:=63) (a:=58) (n:=6) P9 rfl rfl rfl (by decide) (by omega) v2
  have f9:=qme z8'.1 z8'.2 (n:=v.getD 2 0) (by omega) P9
  obtain⟨s9,hs9⟩:∃s,layB s8 F9 (v.getD 2 0)=s:=⟨_,rfl⟩
  rw[hs9]at z9 e9 f9
  have z10:=step z9 [30] 1
  have e10:=zn0 z9.1 z9.2 1 P30
  have f10:=qme z9.1 z9.2 (n:=1) (by omega) P30
  have hz:layB s9 [30] 1=zAll o h v:=by
   unfold zAll seqB fieldsOf
   simp only[List.foldl_cons,List.foldl_nil,hs1,hs2,hs3,hs4,hs5,hs6,hs7,hs8,hs9]
  rw[hz]at z10 e10 f10
  have hP:=z0c (F:=600) (by omega) z10.1 z10.2
  have e11:=l2_is z10.1 z10.2 (qa1 (zAll o h v)) (zmo (zAll o h v)) [hv (zAll o h v) 24 3,hv (zAll o h v) 27 3] (eWs (zAll o h v)) 597
  have f11:=rl2_is z10.1 z10.2 597
  obtain⟨q1,q2⟩:=zez z10.1 z10.2
  obtain⟨r1,t1'⟩:=qdy q1 q2 false false [0,0,0] [0,0,0] [0,0] q6d false (x:=19) (y:=20) (a:=19) (n:=2) rfl rfl (by omega) (by omega)
  obtain⟨r2,t2'⟩:=qdy q1 q2 false false [0,0,0] [0,0,0] [0,0] q6d false (x:=22) (y:=23) (a:=22) (n:=2) rfl rfl (by omega) (by omega)
  have g1:=q0x (fix1 (zAll o h v)) 19 2
  have g2:=q0x (fix1 (zAll o h v)) 22 2
  have ew:y0 .i64 (hv (fix1 (zAll o h v)) 19 2+hv (fix1 (zAll o h v)) 22 2)=hv (fix1 (zAll o h v)) 19 2+hv (fix1 (zAll o h v)) 22 2:=w64 (by omega) (by omega)
  have e12:=zjm q1 q2 (v:=7) (x:=16) (y:=18) (a:=16) (n:=3) P16 rfl rfl rfl (by decide) (by omega) (by decide)
  have f12:=qme q1 q2 (n:=7) (by omega) P16
  have e13:=zn0 q1 q2 1 P21
  have f13:=qme q1 q2 (n:=1) (by omega) P21
  rw[t0,t1,t2,t3,t30,t16,t21]
  rw[eP]at hP
  simp only[p1,p5,p6,p7,p8,p9,y5,e1,e2,e3,e4,e5,e6,e7,e8,e9,e10,f1,f2,f3,f4,f5,f6,f7,f8,f9,f10,hP,e11,f11,r1,r2,t1',t2',ew,e12,e13,f12,f13]
  by_cases hc:4≤hv (fix1 (zAll o h v)) 19 2+hv (fix1 (zAll o h v)) 22 2
  ·have:layV o h v=layB (fix1 (zAll o h v)) [16,17,18] 7:=by
    unfold layV fix2
    rw[iP hc]
   rw[this]
   simp only[hc,dT,cT,and_self,ok3,o0,o1,o2,h0,h1,h2,v0,v1,v2,if_true]
  ·have:layV o h v=layB (fix1 (zAll o h v)) [21] 1:=by
    unfold layV fix2
    rw[iN hc]
   rw[this]
   simp only[hc,dF,cF,and_self,ok3,o0,o1,o2,h0,h1,h2,v0,v1,v2,if_true]
 ·rw[iN hok,iN hok]
  exact⟨rfl,rfl⟩
def Apart(K L:List Nat):Prop:=∀i,i<K.length→∀j,j<L.length→K.getD i 0≠L.getD j 0
instance:DecidableRel Apart:=fun K L=>by unfold Apart;exact inferInstance
theorem zf1{q:Nat}:∀(fs:List (List Nat×Int)) {c:LI},Bytes c→c.length=8→(∀f∈fs,Pl f.1∧∀i,i<f.1.length→f.1.getD i 0≠q)→q09 (seqB c fs) q=q09 c q
 |[],c,_,_,_=>rfl
 |f::fs,c,hc,hl,h=>by
  have h1:=h f (List.mem_cons_self ..)
  exact(zf1 fs (qa3 hc f.1 f.2) (by rw[qhc,hl]) fun g hg=>h g (List.mem_cons_of_mem _ hg)).trans (qdk hc hl h1.1 f.2 h1.2)
theorem zpn:∀(fs:List (List Nat×Int)) {c:LI},Bytes c→c.length=8→(∀f∈fs,Pl f.1)→(fs.map (·.1)).Pairwise Apart→∀f∈fs,∀j,j<f.1.length→q09 (seqB c fs) (f.1.getD j 0)=f.2/2^(f.1.length-1-j)%2
 |[],_,_,_,_,_,f,hf,_,_=>by cases hf
 |g::fs,c,hc,hl,hp,hd,f,hf,j,hj=>by
  rw[List.map_cons,List.pairwise_cons]at hd
  have hg:=hp g (List.mem_cons_self ..)
  rcases yr.1 hf with rfl|hf
  ·refine(zf1 fs (qa3 hc _ _) (by rw[qhc,hl]) fun k hk=>⟨hp k (List.mem_cons_of_mem _ hk),fun i hi he=> ?_⟩).trans (qwp hc hl hg _ hj)
   exact hd.1 k.1 (List.mem_map_of_mem hk) j hj i hi he.symm
  ·exact zpn fs (qa3 hc _ _) (by rw[qhc,hl]) (fun k hk=>hp k (List.mem_cons_of_mem _ hk)) hd.2 f hf j hj
def FL:List (List Nat):=[F1,F2,F3,F4,F5,F6,F7,F8,F9,[30]]
theorem FL_pl:∀L∈FL,Pl L:=by
 intro L hL
 simp only[FL,yr,List.not_mem_nil,or_false]at hL
 rcases hL with rfl|rfl|rfl|rfl|rfl|rfl|rfl|rfl|rfl|rfl
 ·exact P1
 ·exact P2
 ·exact P3
 ·exact P4
 ·exact P5
 ·exact P6
 ·exact P7
 ·exact P8
 ·exact P9
 ·exact P30
theorem FL_apart:FL.Pairwise Apart:=by decide+kernel
theorem FL_of(o h v:LI):(fieldsOf o h v).map (·.1)=FL:=rfl
theorem z8j(o h v:LI):∀f∈fieldsOf o h v,Pl f.1:=fun f hf=>FL_pl f.1 (by rw[←FL_of o h v];exact List.mem_map_of_mem hf)
theorem zpo(o h v:LI){L:List Nat}{n:Int}(hf:(L,n)∈fieldsOf o h v){j:Nat}(hj:j<L.length):q09 (zAll o h v) (L.getD j 0)=n/2^(L.length-1-j)%2:=
 zpn _ z45 rfl (z8j o h v) (by rw[FL_of];exact FL_apart) (L,n) hf j hj
theorem zAll_out(o h v:LI){q:Nat}(hq:FL.all (fun L=>(yz L.length).all fun i=>L.getD i 0 !=q)=true):q09 (zAll o h v) q=q09 z8 q:=by
 refine zf1 _ z45 rfl fun f hf=>⟨z8j o h v f hf,fun i hi he=> ?_⟩
 have h1:=List.all_eq_true.1 hq f.1 (by rw[←FL_of o h v];exact List.mem_map_of_mem hf)
 have h2:=List.all_eq_true.1 h1 i (List.mem_range.2 hi)
 rw[he]at h2
 simp at h2
def touched:List Nat:=[0,8,16,17,18,21]
theorem fix_out{b:LI}(hb:Bytes b)(hl:b.length=8){q:Nat}(hq:q∉touched):q09 (fix2 b) q=q09 b q:=by
 simp only[touched,yr,List.not_mem_nil,or_false,not_or]at hq
 obtain⟨g0,g8,g16,g17,g18,g21⟩:=hq
 obtain⟨a1,a2⟩:=z8h hb hl
 obtain⟨b1,b2⟩:=zez hb hl
 have one:∀{a:Nat},q≠a→∀i,i<[a].length→[a].getD i 0≠q:=fun{a} hqa i hi=>by
  have:i=0:=by
   have:i<1:=hi
   omega
  subst this
  exact fun h=>hqa h.symm
 have e0:q09 (fix0 b) q=q09 b q:=by
  unfold fix0
  split
  ·exact qdk hb hl P00 1 (one g0)
  ·rfl
 have e1:q09 (fix1 b) q=q09 (fix0 b) q:=by
  unfold fix1
  split
  ·exact qdk a1 a2 P08 1 (one g8)
  ·rfl
 have e2:q09 (fix2 b) q=q09 (fix1 b) q:=by
  unfold fix2
  split
  ·refine qdk b1 b2 P16 7 fun i hi=> ?_
   have:i<3:=hi
   rcases(by omega:i=0∨i=1∨i=2)with rfl|rfl|rfl
   ·exact fun h=>g16 h.symm
   ·exact fun h=>g17 h.symm
   ·exact fun h=>g18 h.symm
  ·exact qdk b1 b2 P21 1 (one g21)
 rw[e2,e1,e0]
theorem zpp(o h v:LI){L:List Nat}{n:Int}(hf:(L,n)∈fieldsOf o h v)(hL:L.all (fun q=> !touched.contains q)=true){j:Nat}(hj:j<L.length):q09 (layV o h v) (L.getD j 0)=n/2^(L.length-1-j)%2:=by
 rw[←zpo o h v hf hj]
 refine fix_out (z8i o h v).1 (z8i o h v).2 fun hm=> ?_
 have h1:=List.all_eq_true.1 hL (L.getD j 0) (by rw[ye,yj hj];exact List.getElem_mem hj)
 rw[List.contains_iff_mem.2 hm]at h1
 cases h1
theorem qdl(b:LI)(q:Nat):hv b q 1=q09 b q:=by
 have h:=zl9 b (a:=q) (n:=1) (q:=q) (w8 _) (by omega)
 have h1:=q0x b q 1
 rw[show q+1-1-q=0 by omega]at h
 omega
theorem pk_val{b:LI}{L:List Nat}{v:Int}(hv' :0≤v∧v<2^L.length)(h:∀j,j<L.length→q09 b (L.getD j 0)=v/2^(L.length-1-j)%2):pk b L L.length=v:=by
 have key:∀i,i≤L.length→pk b L i=v/2^(L.length-i):=by
  intro i
  induction i with
  |zero=>
   intro _
   rw[Nat.sub_zero]
   exact(Int.ediv_eq_zero_of_lt hv'.1 hv'.2).symm
  |succ i ih=>
   intro hi
   show 2*pk b L i+hv b (L.getD i 0) 1=_
   rw[ih (by omega),qdl,h i (by omega),show L.length-i=(L.length-1-i)+1 by omega,Int.pow_succ,←Int.ediv_ediv_of_nonneg (by have:=qfj (L.length-1-i);omega),show L.length-(i+1)=L.length-1-i by omega]
   omega
 rw[key _ (w8 _),Nat.sub_self]
 simp
theorem zjo(b:LI)(a:Nat)(L:List Nat):∀n,(∀i,i<n→L.getD i 0=a+i)→hv b a n=pk b L n
 |0,_=>zpa b a
 |n+1,h=>by
  rw[q79,zjo b a L n fun i hi=>h i (by omega)]
  show _=2*pk b L n+hv b (L.getD n 0) 1
  rw[h n (by omega)]
theorem zc0(b:LI)(a m:Nat):∀n,hv b a (m+n)=2^n*hv b a m+hv b (a+m) n
 |0=>by
  rw[zpa]
  simp
 |n+1=>by
  rw[←Nat.add_assoc,q79,zc0 b a m n,q79 b (a+m) n,Int.pow_succ,Nat.add_assoc,Int.mul_add,←Int.mul_assoc,Int.mul_comm 2 (2^n)]
  omega
theorem zjp{o h v:LI}(hok:ok3 o∧ok3 h∧ok3 v):plO (layV o h v)=qdi (o.getD 0 0) (o.getD 1 0) (o.getD 2 0)∧plH (layV o h v)=qdi (h.getD 0 0) (h.getD 1 0) (h.getD 2 0)∧plV (layV o h v)=qdi (v.getD 0 0) (v.getD 1 0) (v.getD 2 0):=by
 obtain⟨⟨o0,o1,o2⟩,⟨h0,h1,h2⟩,⟨v0,v1,v2⟩⟩:=hok
 have m:∀{L:List Nat} {n:Int},(L,n)∈fieldsOf o h v→L.all (fun q=> !touched.contains q)=true→0≤n∧n<2^L.length→pk (layV o h v) L L.length=n:=fun hf ht hn=>pk_val hn fun j hj=>zpp o h v hf ht hj
 have a1:pk (layV o h v) F1 6=o.getD 0 0:=m (L:=F1) (by simp[fieldsOf]) (by decide) o0
 have a2:pk (layV o h v) F2 7=o.getD 1 0:=m (L:=F2) (by simp[fieldsOf]) (by decide) o1
 have a3:pk (layV o h v) F3 6=o.getD 2 0:=m (L:=F3) (by simp[fieldsOf]) (by decide) o2
 have a4:pk (layV o h v) F4 6=h.getD 0 0:=m (L:=F4) (by simp[fieldsOf]) (by decide) h0
 have a5:pk (layV o h v) F5 7=h.getD 1 0:=m (L:=F5) (by simp[fieldsOf]) (by decide) h1
 have a6:pk (layV o h v) F6 6=h.getD 2 0:=m (L:=F6) (by simp[fieldsOf]) (by decide) h2
 have a7:pk (layV o h v) F7 6=v.getD 0 0:=m (L:=F7) (by simp[fieldsOf]) (by decide) v0
 have a8:pk (layV o h v) F8 7=v.getD 1 0:=m (L:=F8) (by simp[fieldsOf]) (by decide) v1
 have a9:pk (layV o h v) F9 6=v.getD 2 0:=m (L:=F9) (by simp[fieldsOf]) (by decide) v2
 have b1:=zjo (layV o h v) 1 F1 6 (by decide)
 have b5:=zjo (layV o h v) 32 F5 7 (by decide)
 have b6:=zjo (layV o h v) 39 F6 6 (by decide)
 have b7:=zjo (layV o h v) 45 F7 6 (by decide)
 have b8:=zjo (layV o h v) 51 F8 7 (by decide)
 have b9:=zjo (layV o h v) 58 F9 6 (by decide)
 unfold plO plH plV
 rw[show[7,9,10,11,12,13,14]=F2 from rfl,show[15,19,20,22,23,24]=F3 from rfl,show[25,26,27,28,29,31]=F4 from rfl,b1,b5,b6,b7,b8,b9,a1,a2,a3,a4,a5,a6,a7,a8,a9]
 exact⟨rfl,rfl,rfl⟩
def nn(b:LI)(c:Nat):Int:=hv b (8*c) 5+sg3 (hv b (8*c+5) 3)
theorem wV_nn{b:LI}(h:qa1 b=true){c:Nat}(hc:c<3):wV b c=nn b c:=by
 unfold wV nn eAs eBs
 rw[h]
 rcases(by omega:c=0∨c=1∨c=2)with rfl|rfl|rfl<;>rfl
theorem zpq{x:Int}(h:0≤x∧x<8): -4≤sg3 x∧sg3 x≤3:=by
 unfold sg3
 split<;>omega
theorem zBit(o h v:LI){q:Nat}(hq:FL.all (fun L=>(yz L.length).all fun i=>L.getD i 0 !=q)=true)(hz:q09 z8 q=0):hv (zAll o h v) q 1=0:=by
 rw[qdl,zAll_out o h v hq,hz]
theorem hi_bit(b:LI)(a:Nat):hv b a 5=16*hv b a 1+hv b (a+1) 4:=zc0 b a 1 4
theorem mend{z:LI}(hz:Bytes z)(hl:z.length=8){c:Nat}{L:List Nat}(hL:Pl L)(hLc:L=[8*c])(h0:hv z (8*c) 1=0)(hc:c<3):
  ¬badW (nn (if badW (nn z c)then layB z L 1 else z) c):=by
 have s:=zpq (q0x z (8*c+5) 3)
 have g:=q0x z (8*c+1) 4
 have e:=hi_bit z (8*c)
 have p4:(2:Int)^4=16:=by decide
 have n0:nn z c=hv z (8*c+1) 4+sg3 (hv z (8*c+5) 3):=by
  unfold nn
  omega
 by_cases hb:badW (nn z c)
 ·rw[iP hb]
  have out:∀{q:Nat},q≠8*c→∀i,i<L.length→L.getD i 0≠q:=fun hq i hi=>by
   subst hLc
   have:i=0:=by
    have:i<1:=hi
    omega
   subst this
   exact fun h=>hq h.symm
  have f1:hv (layB z L 1) (8*c+1) 4=hv z (8*c+1) 4:=qtb hz hl hL 1 fun q h1 h2=>out (by omega)
  have f2:hv (layB z L 1) (8*c+5) 3=hv z (8*c+5) 3:=qtb hz hl hL 1 fun q h1 h2=>out (by omega)
  have f3:hv (layB z L 1) (8*c) 1=1:=by
   rw[qdl]
   have:=qwp hz hl hL 1 (j:=0) (by subst hLc;exact Nat.zero_lt_one)
   subst hLc
   simpa using this
  have e1:=hi_bit (layB z L 1) (8*c)
  have n1:nn (layB z L 1) c=16+nn z c:=by
   unfold nn
   rw[f2]
   omega
  unfold badW at hb⊢
  omega
 ·rw[iN hb]
  exact hb
theorem eDiff_z(o h v:LI):qa1 (zAll o h v)=true:=by
 have:=zpo o h v (L:=[30]) (n:=1) (by simp[fieldsOf]) (j:=0) (by decide)
 unfold qa1
 rw[qdl]
 rw[show[30].getD 0 0=30 from rfl]at this
 rw[this]
 rfl
theorem bit30(o h v:LI):hv (layV o h v) 30 1=1:=by
 have:=zpp o h v (L:=[30]) (n:=1) (by simp[fieldsOf]) (by decide) (j:=0) (by decide)
 rw[qdl]
 exact this
theorem zf2{b c:LI}{k:Nat}(h:∀q,8*k≤q→q<8*k+8→q09 b q=q09 c q):nn b k=nn c k:=by
 unfold nn
 rw[show hv b (8*k) 5=hv c (8*k) 5 from qba fun i hi=>h _ (by omega) (by omega),show hv b (8*k+5) 3=hv c (8*k+5) 3 from qba fun i hi=>h _ (by omega) (by omega)]
theorem zn2(o h v:LI):¬badW (nn (layV o h v) 0)∧¬badW (nn (layV o h v) 1)∧badW (nn (layV o h v) 2):=by
 obtain⟨z1,z2⟩:=z8i o h v
 obtain⟨a1,a2⟩:=z8h z1 z2
 obtain⟨b1,b2⟩:=zez z1 z2
 have hd:=eDiff_z o h v
 have hw0:=wV_nn hd (c:=0) (by omega)
 have hw1:=wV_nn hd (c:=1) (by omega)
 have one:∀{a q:Nat},q≠a→∀i,i<[a].length→[a].getD i 0≠q:=fun{a q} hqa i hi=>by
  have:i=0:=by
   have:i<1:=hi
   omega
  subst this
  exact fun h=>hqa h.symm
 have s16:∀{q:Nat},(q<16∨18<q)→∀i,i<[16,17,18].length→[16,17,18].getD i 0≠q:=fun{q} hq i hi=>by
  have:i<3:=hi
  rcases(by omega:i=0∨i=1∨i=2)with rfl|rfl|rfl
  ·show 16≠q
   omega
  ·show 17≠q
   omega
  ·show 18≠q
   omega
 have e2:∀q,q<16→q09 (layV o h v) q=q09 (fix1 (zAll o h v)) q:=fun q hq=>by
  unfold layV fix2
  split
  ·exact qdk b1 b2 P16 7 (s16 (Or.inl hq))
  ·exact qdk b1 b2 P21 1 (one (by omega))
 have e1:∀q,(q<8∨8<q)→q09 (fix1 (zAll o h v)) q=q09 (fix0 (zAll o h v)) q:=fun q hq=>by
  unfold fix1
  split
  ·exact qdk a1 a2 P08 1 (one (by omega))
  ·rfl
 have e0:∀q,0<q→q09 (fix0 (zAll o h v)) q=q09 (zAll o h v) q:=fun q hq=>by
  unfold fix0
  split
  ·exact qdk z1 z2 P00 1 (one (by omega))
  ·rfl
 refine⟨?_,?_,?_⟩
 ·rw[zf2 (c:=fix0 (zAll o h v)) fun q h1 h2=>(e2 q (by omega)).trans (e1 q (by omega))]
  unfold fix0
  rw[hw0]
  exact mend z1 z2 P00 rfl (zBit o h v (by decide+kernel) (by decide+kernel)) (by omega)
 ·rw[zf2 (c:=fix1 (zAll o h v)) fun q h1 h2=>e2 q (by omega)]
  unfold fix1
  rw[hw1,←zf2 (b:=fix0 (zAll o h v)) (c:=zAll o h v) (k:=1) fun q h1 h2=>e0 q (by omega)]
  exact mend a1 a2 P08 rfl (by rw[qdl,e0 _ (by omega),←qdl];exact zBit o h v (by decide+kernel) (by decide+kernel)) (by omega)
 ·have keep:∀q,15<q→q09 (fix1 (zAll o h v)) q=q09 (zAll o h v) q:=fun q hq=>(e1 q (by omega)).trans (e0 q (by omega))
  have n16:hv (fix1 (zAll o h v)) 16 1=0:=by rw[qdl,keep _ (by omega),←qdl];exact zBit o h v (by decide+kernel) (by decide+kernel)
  have n17:hv (fix1 (zAll o h v)) 17 1=0:=by rw[qdl,keep _ (by omega),←qdl];exact zBit o h v (by decide+kernel) (by decide+kernel)
  have n18:hv (fix1 (zAll o h v)) 18 1=0:=by rw[qdl,keep _ (by omega),←qdl];exact zBit o h v (by decide+kernel) (by decide+kernel)
  have n21:hv (fix1 (zAll o h v)) 21 1=0:=by rw[qdl,keep _ (by omega),←qdl];exact zBit o h v (by decide+kernel) (by decide+kernel)
  have cut:∀b:LI,hv b 16 5=16*hv b 16 1+8*hv b 17 1+4*hv b 18 1+hv b 19 2∧hv b 21 3=4*hv b 21 1+hv b 22 2:=fun b=>by
   have c1:=zc0 b 16 3 2
   have c2:=zc0 b 16 2 1
   have c3:=zc0 b 16 1 1
   have c4:=zc0 b 21 1 2
   simp only[Nat.reduceAdd]at c1 c2 c3 c4
   have:(2:Int)^1=2:=by decide
   have:(2:Int)^2=4:=by decide
   omega
  have g1:=q0x (fix1 (zAll o h v)) 19 2
  have g2:=q0x (fix1 (zAll o h v)) 22 2
  have:(2:Int)^2=4:=by decide
  have b16:(8*2:Nat)=16:=rfl
  unfold layV fix2
  split
  ·rename_i hc
   have k1:hv (layB (fix1 (zAll o h v)) [16,17,18] 7) 19 2=hv (fix1 (zAll o h v)) 19 2:=qtb b1 b2 P16 7 fun q h1 h2=>s16 (by omega)
   have k2:hv (layB (fix1 (zAll o h v)) [16,17,18] 7) 22 2=hv (fix1 (zAll o h v)) 22 2:=qtb b1 b2 P16 7 fun q h1 h2=>s16 (by omega)
   have k3:hv (layB (fix1 (zAll o h v)) [16,17,18] 7) 21 1=hv (fix1 (zAll o h v)) 21 1:=qtb b1 b2 P16 7 fun q h1 h2=>s16 (by omega)
   have k4:hv (layB (fix1 (zAll o h v)) [16,17,18] 7) 16 1=1:=by rw[qdl];exact qwp b1 b2 P16 7 (j:=0) (by decide)
   have k5:hv (layB (fix1 (zAll o h v)) [16,17,18] 7) 17 1=1:=by rw[qdl];exact qwp b1 b2 P16 7 (j:=1) (by decide)
   have k6:hv (layB (fix1 (zAll o h v)) [16,17,18] 7) 18 1=1:=by rw[qdl];exact qwp b1 b2 P16 7 (j:=2) (by decide)
   obtain⟨c1,c2⟩:=cut (layB (fix1 (zAll o h v)) [16,17,18] 7)
   unfold badW nn sg3
   rw[b16]
   simp only[Nat.reduceAdd]
   rw[c2,iN (by omega)]
   omega
  ·rename_i hc
   have k1:hv (layB (fix1 (zAll o h v)) [21] 1) 19 2=hv (fix1 (zAll o h v)) 19 2:=qtb b1 b2 P21 1 fun q h1 h2=>one (by omega)
   have k2:hv (layB (fix1 (zAll o h v)) [21] 1) 22 2=hv (fix1 (zAll o h v)) 22 2:=qtb b1 b2 P21 1 fun q h1 h2=>one (by omega)
   have k3:hv (layB (fix1 (zAll o h v)) [21] 1) 21 1=1:=by rw[qdl];exact qwp b1 b2 P21 1 (j:=0) (by decide)
   have k4:hv (layB (fix1 (zAll o h v)) [21] 1) 16 1=hv (fix1 (zAll o h v)) 16 1:=qtb b1 b2 P21 1 fun q h1 h2=>one (by omega)
   have k5:hv (layB (fix1 (zAll o h v)) [21] 1) 17 1=hv (fix1 (zAll o h v)) 17 1:=qtb b1 b2 P21 1 fun q h1 h2=>one (by omega)
   have k6:hv (layB (fix1 (zAll o h v)) [21] 1) 18 1=hv (fix1 (zAll o h v)) 18 1:=qtb b1 b2 P21 1 fun q h1 h2=>one (by omega)
   obtain⟨c1,c2⟩:=cut (layB (fix1 (zAll o h v)) [21] 1)
   unfold badW nn sg3
   rw[b16]
   simp only[Nat.reduceAdd]
   rw[c2,iP (by omega)]
   omega
theorem lay_bb(o h v:LI)(p:Bool):bb (layV o h v) p=layV o h v:=by
 cases p
 ·unfold bb
  exact iN (by decide)
 ·unfold bb
  rw[iP rfl]
  exact zpg (zf0 o h v).1 (zf0 o h v).2 (bit30 o h v)
theorem lay_kind(o h v:LI)(p:Bool):qhb (layV o h v) p=3:=by
 have hd:qa1 (layV o h v)=true:=by
  unfold qa1
  rw[bit30]
  rfl
 obtain⟨n0,n1,n2⟩:=zn2 o h v
 have hbb:=lay_bb o h v p
 have e:∀(b:LI) (c:Nat),c<3→n10 true (eAs true b) (eBs true b) c=nn b c:=fun b c hc=>by
  unfold n10 nn eAs eBs
  rcases(by omega:c=0∨c=1∨c=2)with rfl|rfl|rfl<;>rfl
 generalize layV o h v=b at*
 have hf:qjc (xD b p) (xA b p) (xB b p)=2:=by
  unfold xD xA xB
  rw[hbb,hd]
  have m0:¬qac (eAs true b) (eBs true b) 0:=by
   unfold qac
   rw[e b 0 (by omega)]
   exact n0
  have m1:¬qac (eAs true b) (eBs true b) 1:=by
   unfold qac
   rw[e b 1 (by omega)]
   exact n1
  have m2:qac (eAs true b) (eBs true b) 2:=by
   unfold qac
   rw[e b 2 (by omega)]
   exact n2
  unfold qjc
  rw[iP (show true=true from rfl),iN m0,iN m1,iP m2]
 unfold qhb
 rw[hf]
 rfl
theorem lay_dec(o h v:LI)(p:Bool):qdo (layV o h v) p=qwm (layV o h v):=by
 have hk:=lay_kind o h v p
 funext j
 unfold qdo zF zhw
 rw[hk,iN (fun h=>h.2.1 rfl),iN (by omega),iN (by omega),iN (by omega)]
def qqg(i:Nat):Nat:=16+3*(4*(i%4)+i/4)
theorem zf3:((yz 16).all fun i=>z5e 0 i==some ((qqg i:Int),()))=true:=by kernel_rfl
theorem zhy(F:Nat){i:Nat}(h:i<16):z5e F i=some ((qqg i:Int),()):=by
 have:=List.all_eq_true.1 zf3 i (by simpa using h)
 have e:z5e F i=z5e 0 i:=rfl
 rw[e]
 simpa using this
theorem zll{i:Nat}(h:i<16):16≤qqg i∧qqg i+3≤64:=by unfold qqg;omega
theorem qob{F:Nat}(hF:66≤F){b:LI}(hb:Bytes b)(hl:b.length=8){a n:Nat}(hn:n≤16)(h:a+n≤64):q95 F a n b=some (hv b a n,()):=by
 unfold q95
 have h1:=q0x b a n
 have h2:(2:Int)^n≤2^16:=qgd hn
 rw[zei hF hb (by omega) (by omega) (by omega)]
 simp only[y5]
 rw[w64 (by omega) (by omega)]
def eacW(b:LI):LI:=(yz 16).map fun i=>hv b (qqg i) 3
theorem Parts_is{F:Nat}(hF:66≤F){b:LI}(hb:Bytes b)(hl:b.length=8):
  qxe F b=some (hv b 0 8,hv b 8 4,hv b 12 4,eacW b,0,()):=by
 have loop:∀T:LI,q7c F F T q7j b 0=some (T,eacW b,b,()):=by
  intro T
  refine qfk 16 (fun i=>hv b (qqg i) 3) (fun k w i=>q7c F k T w b i) (fun w=>some (T,w,b,())) ?_ ?_ _ rfl F (by omega)
  ·intro k i w hi hw
   show q9q F (q7c F k) T w b i=_
   unfold q9q
   have:=zll hi
   have e:=qob hF hb hl (a:=qqg i) (n:=3) (by decide) (by omega)
   simp only[yp]at e
   have h1:(i:Int)<16:=by omega
   simp only[h1,dT,cT,zhy F hi,y5,e,yc,yd,q0d (show i<1000000000000 by omega),yb]
  ·intro k w hw
   show q9q F (q7c F k) T w b 16=_
   unfold q9q
   simp
 unfold qxe
 have e1:=qob hF hb hl (a:=0) (n:=8) (by decide) (by decide)
 have e2:=qob hF hb hl (a:=8) (n:=4) (by decide) (by decide)
 have e3:=qob hF hb hl (a:=12) (n:=4) (by decide) (by decide)
 simp only[yp,yq]at e1 e2 e3
 simp only[hl,loop,y5,e1,e2,e3]
 simp
theorem eacW_len(b:LI):(eacW b).length=16:=by simp[eacW]
theorem zf4(b:LI){i:Nat}(h:i<16):(eacW b).getD i 0=hv b (qqg i) 3:=qey _ h
def eacA(i:Nat):Nat:=match i with|0=>0|1=>8|2=>12|i+3=>qqg i
def eacN(i:Nat):Nat:=match i with|0=>8|1=>4|2=>4|_+3=>3
def eacV(base times table:Int)(w:LI)(i:Nat):Int:=match i with|0=>base|1=>times|2=>table|i+3=>w.getD i 0
def eacF(base times table:Int)(w:LI)(n:Nat):LI:=[0,8,base,8,4,times,12,4,table]++(yz n).flatMap fun i=>[(qqg i:Int),3,w.getD i 0]
theorem zhz(base times table:Int)(w:LI)(n:Nat):eacF base times table w (n+1)=eacF base times table w n++[(qqg n:Int),3,w.getD n 0]:=by
 simp[eacF,List.range_succ]
theorem z46(base times table:Int)(w:LI):∀n,(eacF base times table w n).length=9+3*n:=by
 intro n
 induction n with
 |zero=>rfl
 |succ n ih=>rw[zhz,yo,ih];simp;omega
theorem z0f{F:Nat}(base times table:Int)(w:LI)(T:LI):∀(k i:Nat),i≤16→16-i<k→
  qe4 F k T (eacF base times table w i) w i=some (T,eacF base times table w 16,())
 |0,i,_,h=>by omega
 |k+1,i,hi,hk=>by
  unfold qe4 qqy
  by_cases h:i<16
  ·have h1:(i:Int)<16:=by omega
   have ih:=z0f (F:=F) base times table w T k (i+1) (by omega) (by omega)
   have h2:(eacF base times table w i).length/3+1≤1099511627776:=by rw[z46];omega
   simp only[h1,dT,cT,yc,yd,zhy F h,y5,h2,q0d (show i<1000000000000 by omega),yb]
   rw[←zhz]
   simpa using ih
  ·have:i=16:=by omega
   subst this
   simp
theorem zlm(base times table:Int)(w:LI){i:Nat}(h:i<19):((eacF base times table w 16).drop (i*3)).take 3=[(eacA i:Int),(eacN i:Int),eacV base times table w i]:=by
 have:i=0∨i=1∨i=2∨i=3∨i=4∨i=5∨i=6∨i=7∨i=8∨i=9∨i=10∨i=11∨i=12∨i=13∨i=14∨i=15∨i=16∨i=17∨i=18:=by omega
 rcases this with rfl|rfl|rfl|rfl|rfl|rfl|rfl|rfl|rfl|rfl|rfl|rfl|rfl|rfl|rfl|rfl|rfl|rfl|rfl<;>rfl
def eacZ:LI:=[0,0,0,0,0,0,0,0]
theorem qtz:Bytes eacZ:=fun x hx=>by simp[eacZ]at hx;omega
def eacJ(base times table:Int)(w:LI)(i:Nat):LI:=qjb eacA eacN (eacV base times table w) eacZ i
theorem zpr:∀i,i<19→eacA i+eacN i≤64∧eacN i≤8:=by decide
theorem zps:∀i,i<19→∀j,j<19→i≠j→eacA i+eacN i≤eacA j∨eacA j+eacN j≤eacA i:=by decide
def EacFit(base times table:Int)(w:LI):Prop:=(0≤base∧base≤255)∧(0≤times∧times≤15)∧(0≤table∧table≤15)∧w.length=16∧∀i,i<16→0≤w.getD i 0∧w.getD i 0≤7
theorem EacFit.V{base times table:Int}{w:LI}(h:EacFit base times table w):∀i,i<19→0≤eacV base times table w i∧eacV base times table w i<2^eacN i:=by
 obtain⟨h1,h2,h3,h4,h5⟩:=h
 intro i hi
 match i with
 |0=>simp only[eacV,eacN];omega
 |1=>simp only[eacV,eacN];omega
 |2=>simp only[eacV,eacN];omega
 |i+3=>
  have:=h5 i (by omega)
  simp only[eacV,eacN]
  omega
theorem zc1{F:Nat}(hF:66≤F){base times table:Int}{w:LI}(hf:EacFit base times table w):∀(k i:Nat),i≤19→19-i<k→
  q94 F k (eacJ base times table w i) (eacF base times table w 16) 19 i=some (eacJ base times table w 19,true,())
 |0,i,_,h=>by omega
 |k+1,i,hi,hk=>by
  unfold q94 qf7
  by_cases h:i<19
  ·have h1:(i:Int)<19:=by omega
   have ih:=zc1 hF hf k (i+1) (by omega) (by omega)
   have hlen:(eacF base times table w 16).length/3=19:=by rw[z46]
   have hp:=zpr i h
   have hV:=hf.V i h
   have hl:(eacJ base times table w i).length=8:=by unfold eacJ;rw[q83];rfl
   have hs:=qhs hF (b:=eacJ base times table w i) (q6m _ _ _ qtz i) (by omega) (a:=eacA i) (n:=eacN i) (v:=eacV base times table w i) (by omega) (by omega) hV
   have hv64:=pow64 (n:=eacN i) (by omega)
   simp only[h1,dT,cT,hlen,yc,yp,h1,dT,yd,cT,yb,zlm base times table w h,and_self,if_true,yt,yu]
   rw[wu64 hV.1 (by omega),hs]
   simp only[y5,bne_self_eq_false,cF,q0d (show i<1000000000000 by omega)]
   exact ih
  ·have:i=19:=by omega
   subst this
   simp
theorem zjq{F:Nat}(hF:66≤F){base times table:Int}{w:LI}(hf:EacFit base times table w):qjm F base times table w=some (eacJ base times table w 19,0,()):=by
 unfold qjm
 have e1:=z0f (F:=F) base times table w eac_JoinT0 F 0 (by omega) (by omega)
 have e2:=zc1 hF hf F 0 (by omega) (by omega)
 simp only[and_self,if_true]
 have e0:eacF base times table w 0=[0,8,base,8,4,times,12,4,table]:=rfl
 rw[e0,yq]at e1
 rw[e1]
 have hlen:(eacF base times table w 16).length/3=19:=by rw[z46]
 simp only[y5,hlen]
 have e3:eacJ base times table w 0=eac_JoinT0:=rfl
 rw[e3,yq]at e2
 simp only[yp,e2,y5]
 rfl
theorem qhd(base times table:Int)(w:LI):(eacJ base times table w 19).length=8:=by unfold eacJ;rw[q83];rfl
theorem zn3(base times table:Int)(w:LI):Bytes (eacJ base times table w 19):=q6m _ _ _ qtz 19
theorem qtc{base times table:Int}{w:LI}(hf:EacFit base times table w){j:Nat}(hj:j<19):hv (eacJ base times table w 19) (eacA j) (eacN j)=eacV base times table w j:=
 zla qtz (fun i hi=>(zpr i hi).1) (fun i j hi hj=>zps i hi j hj) hf.V hj
theorem zln{b:LI}:EacFit (hv b 0 8) (hv b 8 4) (hv b 12 4) (eacW b):=by
 have h1:=q0x b 0 8
 have h2:=q0x b 8 4
 have h3:=q0x b 12 4
 refine⟨by omega,by omega,by omega,eacW_len b,fun i hi=> ?_⟩
 rw[zf4 b hi]
 have:=q0x b (qqg i) 3
 omega
theorem zi0:((yz 16).all fun n=>match q3y 0 n with|some (l,())=>l.length==8&&l.all fun x=>decide (-15≤x)&&decide (x≤15)|none=>false)=true:=by kernel_rfl
theorem zf5(F:Nat){n:Int}(h:0≤n∧n≤15):∃l,q3y F n=some (l,())∧l.length=8∧∀i,-15≤l.getD i 0∧l.getD i 0≤15:=by
 obtain⟨m,rfl⟩:=yh h.1
 have:=List.all_eq_true.1 zi0 m (by simp;omega)
 have e:q3y F m=q3y 0 m:=rfl
 rw[e]
 revert this
 cases q3y 0 m with
 |none=>intro h;simp at h
 |some l=>
  obtain⟨l,⟨⟩⟩:=l
  intro h
  simp only[yl,beq_iff_eq,List.all_eq_true,decide_eq_true_eq]at h
  refine⟨l,rfl,h.1,fun i=> ?_⟩
  rw[ye]
  by_cases hi:i<l.length
  ·rw[yj hi]
   exact h.2 _ (List.getElem_mem hi)
  ·rw[w7 (by omega)]
   simp
theorem mulB{n t c d:Int}(hn: -c≤n∧n≤c)(ht:0≤t∧t≤d)(hc:0≤c): -(c*d)≤n*t∧n*t≤c*d:=by
 have h1:n*t≤c*t:=Int.mul_le_mul_of_nonneg_right hn.2 ht.1
 have h2:c*t≤c*d:=Int.mul_le_mul_of_nonneg_left ht.2 hc
 have h3: -c*t≤n*t:=Int.mul_le_mul_of_nonneg_right hn.1 ht.1
 have h4: -c*t= -(c*t):=Int.neg_mul c t
 omega
def qbx(base times number:Int)(wide:Bool):Int:=
 if wide then(if times=0 then max 0 (min (8*base+4+number) 2047)else max 0 (min (8*(base+number*times)+4) 2047))else max 0 (min (base+number*times) 255)
theorem zf6(F:Nat){base times number:Int}(hb:0≤base∧base≤255)(ht:0≤times∧times≤15)(hn: -15≤number∧number≤15)(wide:Bool):qf8 F base times number wide=some (qbx base times number wide,()):=by
 have hm:=mulB (c:=15) hn ht (by decide)
 unfold qf8 q30 qbx
 rw[w64 (x:=number*times) (by omega) (by omega),w64 (x:=base+number*times) (by omega) (by omega),w64 (x:=8*base) (by omega) (by omega),w64 (x:=8*base+4) (by omega) (by omega),
  w64 (x:=8*base+4+number) (by omega) (by omega),w64 (x:=8*(base+number*times)) (by omega) (by omega),w64 (x:=8*(base+number*times)+4) (by omega) (by omega)]
 cases wide
 ·rfl
 ·by_cases h0:times=0
  ·simp[h0]
  ·simp[h0,beqF h0]
def eacD(base times:Int)(tbl w:LI)(wide:Bool):LI:=(yz 16).map fun i=>qbx base times (tbl.getD (w.getD i 0).toNat 0) wide
theorem zjr{F:Nat}(hF:66≤F){b:LI}(hb:Bytes b)(hl:b.length=8)(wide:Bool){tbl:LI}(ht:q3y F (hv b 12 4)=some (tbl,()))(hb15:∀i,-15≤tbl.getD i 0∧tbl.getD i 0≤15):
  qhn F b wide=some (eacD (hv b 0 8) (hv b 8 4) tbl (eacW b) wide,0,()):=by
 obtain⟨f1,f2,f3,f4,f5⟩:=zln (b:=b)
 have loop:∀T:LI,q67 F F wide T (hv b 0 8) (hv b 8 4) (eacW b) tbl (eacW b) 0=some (T,eacD (hv b 0 8) (hv b 8 4) tbl (eacW b) wide,()):=by
  intro T
  refine qfk 16 (fun i=>qbx (hv b 0 8) (hv b 8 4) (tbl.getD ((eacW b).getD i 0).toNat 0) wide) (fun k w i=>q67 F k wide T (hv b 0 8) (hv b 8 4) w tbl (eacW b) i) (fun w=>some (T,w,())) ?_ ?_ _ f4 F (by omega)
  ·intro k i w hi hw
   show q89 F (q67 F k) wide T (hv b 0 8) (hv b 8 4) w tbl (eacW b) i=_
   unfold q89
   have h1:(i:Int)<16:=by omega
   have h2:=f5 i hi
   have h3:(eacW b).getD i 0<8:=by omega
   simp only[h1,dT,cT,yc,yd,yb,h2.1,h3,zf6 F f1 f2 (hb15 _),y5,q0d (show i<1000000000000 by omega)]
  ·intro k w hw
   show q89 F (q67 F k) wide T (hv b 0 8) (hv b 8 4) w tbl (eacW b) 16=_
   unfold q89
   simp
 unfold qhn
 rw[Parts_is hF hb hl]
 simp only[y5,and_self,if_true,bne_self_eq_false,cF,ht,loop]
theorem z1j(base times number:Int)(wide:Bool):0≤qbx base times number wide∧qbx base times number wide≤(if wide then 2047 else 255):=by
 unfold qbx
 cases wide<;>simp<;>(try split)<;>omega
end Go.AE.Gn

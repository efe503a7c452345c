/- A part of the proof, put together of my texts: Pure11j, Pure12, Pure13b, Pure13c, Pure13d, Pure14a, Pure14b, Pure14c, Pure14d, Pure14e, Pure14g, Pure14f. -/
import Derived.Test.YtaogfbhifeobmaaGreatRowFlatOneP6
set_option linter.unusedVariables false
set_option linter.unusedSimpArgs false
open List renaming mem_cons → yr, range → yz, getD_eq_getElem?_getD → ye, getElem?_eq_getElem → yj, length_append → yo, getD_cons_zero → yt, getD_cons_succ → yu, getElem?_eq_none → w8, take → y8, drop → y9, getElem?_append_left → yg, getElem?_append_right → w7, mem_append → yk
open Nat renaming le_refl → w9, add_assoc → wc
open Option renaming bind_some → y5
open Int renaming cast_ofNat_Int → yp, natCast_nonneg → yc, toNat_natCast → yb, natCast_zero → yq, eq_ofNat_of_zero_le → yh, tdiv → yw, natCast_pow → we, emod_eq_of_lt → wa, toNat → y6
open Bool renaming and_self → yd, and_eq_true → yl, false_eq_true → yn
open Go.IntKind renaming wrap → y0
open Prod.mk renaming injEq → ym
namespace Go.AE.Gn
open Go Go.AE
def Apart(K L:List Nat):Prop:=∀i,i<K.length→∀j,j<L.length→K.getD i 0≠L.getD j 0
instance:DecidableRel Apart:=fun K L=>by unfold Apart;exact inferInstance
theorem zao{q:Nat}:∀(fs:List (List Nat×Int)) {c:List Int},Bytes c→c.length=8→(∀f∈fs,Pl f.1∧∀i,i<f.1.length→f.1.getD i 0≠q)→q09 (seqB c fs) q=q09 c q
 |[],c,_,_,_=>rfl
 |f::fs,c,hc,hl,h=>by
  have h1:=h f (List.mem_cons_self ..)
  exact(zao fs (q7b hc f.1 f.2) (by rw[qdj,hl]) fun g hg=>h g (List.mem_cons_of_mem _ hg)).trans (qa9 hc hl h1.1 f.2 h1.2)
theorem zmw:∀(fs:List (List Nat×Int)) {c:List Int},Bytes c→c.length=8→(∀f∈fs,Pl f.1)→(fs.map (·.1)).Pairwise Apart→∀f∈fs,∀j,j<f.1.length→q09 (seqB c fs) (f.1.getD j 0)=f.2/2^(f.1.length-1-j)%2
 |[],_,_,_,_,_,f,hf,_,_=>by cases hf
 |g::fs,c,hc,hl,hp,hd,f,hf,j,hj=>by
  rw[List.map_cons,List.pairwise_cons]at hd
  have hg:=hp g (List.mem_cons_self ..)
  rcases yr.1 hf with rfl|hf
  ·refine(zao fs (q7b hc _ _) (by rw[qdj,hl]) fun k hk=>⟨hp k (List.mem_cons_of_mem _ hk),fun i hi he=> ?_⟩).trans (qry hc hl hg _ hj)
   exact hd.1 k.1 (List.mem_map_of_mem hk) j hj i hi he.symm
  ·exact zmw fs (q7b hc _ _) (by rw[qdj,hl]) (fun k hk=>hp k (List.mem_cons_of_mem _ hk)) hd.2 f hf j hj
def FL:List (List Nat):=[F1,F2,F3,F4,F5,F6,F7,F8,F9,[30]]
theorem FL_pl:∀L∈FL,Pl L:=by
 intro L hL
 simp only[FL,yr,List.not_mem_nil,or_false]at hL
 rcases hL with rfl|rfl|rfl|rfl|rfl|rfl|rfl|rfl|rfl|rfl
 ·exact P1
 ·exact P2
 ·exact P3
 ·exact P4
 ·exact P5
 ·exact P6
 ·exact P7
 ·exact P8
 ·exact P9
 ·exact P30
theorem FL_apart:FL.Pairwise Apart:=by decide+kernel
theorem FL_of(o h v:List Int):(fieldsOf o h v).map (·.1)=FL:=rfl
theorem z4p(o h v:List Int):∀f∈fieldsOf o h v,Pl f.1:=fun f hf=>FL_pl f.1 (by rw[←FL_of o h v];exact List.mem_map_of_mem hf)
theorem zmx(o h v:List Int){L:List Nat}{n:Int}(hf:(L,n)∈fieldsOf o h v){j:Nat}(hj:j<L.length):q09 (zAll o h v) (L.getD j 0)=n/2^(L.length-1-j)%2:=
 zmw _ z0o rfl (z4p o h v) (by rw[FL_of];exact FL_apart) (L,n) hf j hj
theorem zAll_out(o h v:List Int){q:Nat}(hq:FL.all (fun L=>(yz L.length).all fun i=>L.getD i 0 !=q)=true):q09 (zAll o h v) q=q09 z8 q:=by
 refine zao _ z0o rfl fun f hf=>⟨z4p o h v f hf,fun i hi he=> ?_⟩
 have h1:=List.all_eq_true.1 hq f.1 (by rw[←FL_of o h v];exact List.mem_map_of_mem hf)
 have h2:=List.all_eq_true.1 h1 i (List.mem_range.2 hi)
 rw[he]at h2
 simp at h2
def touched:List Nat:=[0,8,16,17,18,21]
theorem fix_out{b:List Int}(hb:Bytes b)(hl:b.length=8){q:Nat}(hq:q∉touched):q09 (fix2 b) q=q09 b q:=by
 simp only[touched,yr,List.not_mem_nil,or_false,not_or]at hq
 obtain⟨g0,g8,g16,g17,g18,g21⟩:=hq
 obtain⟨a1,a2⟩:=z4n hb hl
 obtain⟨b1,b2⟩:=zan hb hl
 have one:∀{a:Nat},q≠a→∀i,i<[a].length→[a].getD i 0≠q:=fun{a} hqa i hi=>by
  have:i=0:=by
   have:i<1:=hi
   omega
  subst this
  exact fun h=>hqa h.symm
 have e0:q09 (fix0 b) q=q09 b q:=by
  unfold fix0
  split
  ·exact qa9 hb hl P00 1 (one g0)
  ·rfl
 have e1:q09 (fix1 b) q=q09 (fix0 b) q:=by
  unfold fix1
  split
  ·exact qa9 a1 a2 P08 1 (one g8)
  ·rfl
 have e2:q09 (fix2 b) q=q09 (fix1 b) q:=by
  unfold fix2
  split
  ·refine qa9 b1 b2 P16 7 fun i hi=> ?_
   have:i<3:=hi
   rcases(by omega:i=0∨i=1∨i=2)with rfl|rfl|rfl
   ·exact fun h=>g16 h.symm
   ·exact fun h=>g17 h.symm
   ·exact fun h=>g18 h.symm
  ·exact qa9 b1 b2 P21 1 (one g21)
 rw[e2,e1,e0]
theorem zmy(o h v:List Int){L:List Nat}{n:Int}(hf:(L,n)∈fieldsOf o h v)(hL:L.all (fun q=> !touched.contains q)=true){j:Nat}(hj:j<L.length):q09 (layV o h v) (L.getD j 0)=n/2^(L.length-1-j)%2:=by
 rw[←zmx o h v hf hj]
 refine fix_out (z4o o h v).1 (z4o o h v).2 fun hm=> ?_
 have h1:=List.all_eq_true.1 hL (L.getD j 0) (by rw[ye,yj hj];exact List.getElem_mem hj)
 rw[List.contains_iff_mem.2 hm]at h1
 cases h1
theorem qaa(b:List Int)(q:Nat):hv b q 1=q09 b q:=by
 have h:=zhh b (a:=q) (n:=1) (q:=q) (w9 _) (by omega)
 have h1:=q0t b q 1
 rw[show q+1-1-q=0 by omega]at h
 omega
theorem pk_val{b:List Int}{L:List Nat}{v:Int}(hv' :0≤v∧v<2^L.length)(h:∀j,j<L.length→q09 b (L.getD j 0)=v/2^(L.length-1-j)%2):pk b L L.length=v:=by
 have key:∀i,i≤L.length→pk b L i=v/2^(L.length-i):=by
  intro i
  induction i with
  |zero=>
   intro _
   rw[Nat.sub_zero]
   exact(Int.ediv_eq_zero_of_lt hv'.1 hv'.2).symm
  |succ i ih=>
   intro hi
   show 2*pk b L i+hv b (L.getD i 0) 1=_
   rw[ih (by omega),qaa,h i (by omega),show L.length-i=(L.length-1-i)+1 by omega,Int.pow_succ,←Int.ediv_ediv_of_nonneg (by have:=q6j (L.length-1-i);omega),show L.length-(i+1)=L.length-1-i by omega]
   omega
 rw[key _ (w9 _),Nat.sub_self]
 simp
theorem zg7(b:List Int)(a:Nat)(L:List Nat):∀n,(∀i,i<n→L.getD i 0=a+i)→hv b a n=pk b L n
 |0,_=>zmj b a
 |n+1,h=>by
  rw[q56,zg7 b a L n fun i hi=>h i (by omega)]
  show _=2*pk b L n+hv b (L.getD n 0) 1
  rw[h n (by omega)]
theorem z7s(b:List Int)(a m:Nat):∀n,hv b a (m+n)=2^n*hv b a m+hv b (a+m) n
 |0=>by
  rw[zmj]
  simp
 |n+1=>by
  rw[←wc,q56,z7s b a m n,q56 b (a+m) n,Int.pow_succ,wc,Int.mul_add,←Int.mul_assoc,Int.mul_comm 2 (2^n)]
  omega
theorem zg8{o h v:List Int}(hok:ok3 o∧ok3 h∧ok3 v):plO (layV o h v)=qa7 (o.getD 0 0) (o.getD 1 0) (o.getD 2 0)∧plH (layV o h v)=qa7 (h.getD 0 0) (h.getD 1 0) (h.getD 2 0)∧plV (layV o h v)=qa7 (v.getD 0 0) (v.getD 1 0) (v.getD 2 0):=by
 obtain⟨⟨o0,o1,o2⟩,⟨h0,h1,h2⟩,⟨v0,v1,v2⟩⟩:=hok
 have m:∀{L:List Nat} {n:Int},(L,n)∈fieldsOf o h v→L.all (fun q=> !touched.contains q)=true→0≤n∧n<2^L.length→pk (layV o h v) L L.length=n:=fun hf ht hn=>pk_val hn fun j hj=>zmy o h v hf ht hj
 have a1:pk (layV o h v) F1 6=o.getD 0 0:=m (L:=F1) (by simp[fieldsOf]) (by decide) o0
 have a2:pk (layV o h v) F2 7=o.getD 1 0:=m (L:=F2) (by simp[fieldsOf]) (by decide) o1
 have a3:pk (layV o h v) F3 6=o.getD 2 0:=m (L:=F3) (by simp[fieldsOf]) (by decide) o2
 have a4:pk (layV o h v) F4 6=h.getD 0 0:=m (L:=F4) (by simp[fieldsOf]) (by decide) h0
 have a5:pk (layV o h v) F5 7=h.getD 1 0:=m (L:=F5) (by simp[fieldsOf]) (by decide) h1
 have a6:pk (layV o h v) F6 6=h.getD 2 0:=m (L:=F6) (by simp[fieldsOf]) (by decide) h2
 have a7:pk (layV o h v) F7 6=v.getD 0 0:=m (L:=F7) (by simp[fieldsOf]) (by decide) v0
 have a8:pk (layV o h v) F8 7=v.getD 1 0:=m (L:=F8) (by simp[fieldsOf]) (by decide) v1
 have a9:pk (layV o h v) F9 6=v.getD 2 0:=m (L:=F9) (by simp[fieldsOf]) (by decide) v2
 have b1:=zg7 (layV o h v) 1 F1 6 (by decide)
 have b5:=zg7 (layV o h v) 32 F5 7 (by decide)
 have b6:=zg7 (layV o h v) 39 F6 6 (by decide)
 have b7:=zg7 (layV o h v) 45 F7 6 (by decide)
 have b8:=zg7 (layV o h v) 51 F8 7 (by decide)
 have b9:=zg7 (layV o h v) 58 F9 6 (by decide)
 unfold plO plH plV
 rw[show[7,9,10,11,12,13,14]=F2 from rfl,show[15,19,20,22,23,24]=F3 from rfl,show[25,26,27,28,29,31]=F4 from rfl,b1,b5,b6,b7,b8,b9,a1,a2,a3,a4,a5,a6,a7,a8,a9]
 exact⟨rfl,rfl,rfl⟩
def nn(b:List Int)(c:Nat):Int:=hv b (8*c) 5+sg3 (hv b (8*c+5) 3)
theorem wV_nn{b:List Int}(h:q8l b=true){c:Nat}(hc:c<3):wV b c=nn b c:=by
 unfold wV nn eAs eBs
 rw[h]
 rcases(by omega:c=0∨c=1∨c=2)with rfl|rfl|rfl<;>rfl
theorem zmz{x:Int}(h:0≤x∧x<8): -4≤sg3 x∧sg3 x≤3:=by
 unfold sg3
 split<;>omega
theorem zBit(o h v:List Int){q:Nat}(hq:FL.all (fun L=>(yz L.length).all fun i=>L.getD i 0 !=q)=true)(hz:q09 z8 q=0):hv (zAll o h v) q 1=0:=by
 rw[qaa,zAll_out o h v hq,hz]
theorem hi_bit(b:List Int)(a:Nat):hv b a 5=16*hv b a 1+hv b (a+1) 4:=z7s b a 1 4
theorem mend{z:List Int}(hz:Bytes z)(hl:z.length=8){c:Nat}{L:List Nat}(hL:Pl L)(hLc:L=[8*c])(h0:hv z (8*c) 1=0)(hc:c<3):
  ¬badW (nn (if badW (nn z c)then layB z L 1 else z) c):=by
 have s:=zmz (q0t z (8*c+5) 3)
 have g:=q0t z (8*c+1) 4
 have e:=hi_bit z (8*c)
 have p4:(2:Int)^4=16:=by decide
 have n0:nn z c=hv z (8*c+1) 4+sg3 (hv z (8*c+5) 3):=by
  unfold nn
  omega
 by_cases hb:badW (nn z c)
 ·rw[if_pos hb]
  have out:∀{q:Nat},q≠8*c→∀i,i<L.length→L.getD i 0≠q:=fun hq i hi=>by
   subst hLc
   have:i=0:=by
    have:i<1:=hi
    omega
   subst this
   exact fun h=>hq h.symm
  have f1:hv (layB z L 1) (8*c+1) 4=hv z (8*c+1) 4:=qoi hz hl hL 1 fun q h1 h2=>out (by omega)
  have f2:hv (layB z L 1) (8*c+5) 3=hv z (8*c+5) 3:=qoi hz hl hL 1 fun q h1 h2=>out (by omega)
  have f3:hv (layB z L 1) (8*c) 1=1:=by
   rw[qaa]
   have:=qry hz hl hL 1 (j:=0) (by subst hLc;exact Nat.zero_lt_one)
   subst hLc
   simpa using this
  have e1:=hi_bit (layB z L 1) (8*c)
  have n1:nn (layB z L 1) c=16+nn z c:=by
   unfold nn
   rw[f2]
   omega
  unfold badW at hb⊢
  omega
 ·rw[if_neg hb]
  exact hb
theorem eDiff_z(o h v:List Int):q8l (zAll o h v)=true:=by
 have:=zmx o h v (L:=[30]) (n:=1) (by simp[fieldsOf]) (j:=0) (by decide)
 unfold q8l
 rw[qaa]
 rw[show[30].getD 0 0=30 from rfl]at this
 rw[this]
 rfl
theorem bit30(o h v:List Int):hv (layV o h v) 30 1=1:=by
 have:=zmy o h v (L:=[30]) (n:=1) (by simp[fieldsOf]) (by decide) (j:=0) (by decide)
 rw[qaa]
 exact this
theorem zap{b c:List Int}{k:Nat}(h:∀q,8*k≤q→q<8*k+8→q09 b q=q09 c q):nn b k=nn c k:=by
 unfold nn
 rw[show hv b (8*k) 5=hv c (8*k) 5 from q8j fun i hi=>h _ (by omega) (by omega),show hv b (8*k+5) 3=hv c (8*k+5) 3 from q8j fun i hi=>h _ (by omega) (by omega)]
theorem zju(o h v:List Int):¬badW (nn (layV o h v) 0)∧¬badW (nn (layV o h v) 1)∧badW (nn (layV o h v) 2):=by
 obtain⟨z1,z2⟩:=z4o o h v
 obtain⟨a1,a2⟩:=z4n z1 z2
 obtain⟨b1,b2⟩:=zan z1 z2
 have hd:=eDiff_z o h v
 have hw0:=wV_nn hd (c:=0) (by omega)
 have hw1:=wV_nn hd (c:=1) (by omega)
 have one:∀{a q:Nat},q≠a→∀i,i<[a].length→[a].getD i 0≠q:=fun{a q} hqa i hi=>by
  have:i=0:=by
   have:i<1:=hi
   omega
  subst this
  exact fun h=>hqa h.symm
 have s16:∀{q:Nat},(q<16∨18<q)→∀i,i<[16,17,18].length→[16,17,18].getD i 0≠q:=fun{q} hq i hi=>by
  have:i<3:=hi
  rcases(by omega:i=0∨i=1∨i=2)with rfl|rfl|rfl
  ·show 16≠q
   omega
  ·show 17≠q
   omega
  ·show 18≠q
   omega
 have e2:∀q,q<16→q09 (layV o h v) q=q09 (fix1 (zAll o h v)) q:=fun q hq=>by
  unfold layV fix2
  split
  ·exact qa9 b1 b2 P16 7 (s16 (Or.inl hq))
  ·exact qa9 b1 b2 P21 1 (one (by omega))
 have e1:∀q,(q<8∨8<q)→q09 (fix1 (zAll o h v)) q=q09 (fix0 (zAll o h v)) q:=fun q hq=>by
  unfold fix1
  split
  ·exact qa9 a1 a2 P08 1 (one (by omega))
  ·rfl
 have e0:∀q,0<q→q09 (fix0 (zAll o h v)) q=q09 (zAll o h v) q:=fun q hq=>by
  unfold fix0
  split
  ·exact qa9 z1 z2 P00 1 (one (by omega))
  ·rfl
 refine⟨?_, ?_, ?_⟩
 ·rw[zap (c:=fix0 (zAll o h v)) fun q h1 h2=>(e2 q (by omega)).trans (e1 q (by omega))]
  unfold fix0
  rw[hw0]
  exact mend z1 z2 P00 rfl (zBit o h v (by decide+kernel) (by decide+kernel)) (by omega)
 ·rw[zap (c:=fix1 (zAll o h v)) fun q h1 h2=>e2 q (by omega)]
  unfold fix1
  rw[hw1,←zap (b:=fix0 (zAll o h v)) (c:=zAll o h v) (k:=1) fun q h1 h2=>e0 q (by omega)]
  exact mend a1 a2 P08 rfl (by rw[qaa,e0 _ (by omega),←qaa];exact zBit o h v (by decide+kernel) (by decide+kernel)) (by omega)
 ·have keep:∀q,15<q→q09 (fix1 (zAll o h v)) q=q09 (zAll o h v) q:=fun q hq=>(e1 q (by omega)).trans (e0 q (by omega))
  have n16:hv (fix1 (zAll o h v)) 16 1=0:=by rw[qaa,keep _ (by omega),←qaa];exact zBit o h v (by decide+kernel) (by decide+kernel)
  have n17:hv (fix1 (zAll o h v)) 17 1=0:=by rw[qaa,keep _ (by omega),←qaa];exact zBit o h v (by decide+kernel) (by decide+kernel)
  have n18:hv (fix1 (zAll o h v)) 18 1=0:=by rw[qaa,keep _ (by omega),←qaa];exact zBit o h v (by decide+kernel) (by decide+kernel)
  have n21:hv (fix1 (zAll o h v)) 21 1=0:=by rw[qaa,keep _ (by omega),←qaa];exact zBit o h v (by decide+kernel) (by decide+kernel)
  have cut:∀b:List Int,hv b 16 5=16*hv b 16 1+8*hv b 17 1+4*hv b 18 1+hv b 19 2∧hv b 21 3=4*hv b 21 1+hv b 22 2:=fun b=>by
   have c1:=z7s b 16 3 2
   have c2:=z7s b 16 2 1
   have c3:=z7s b 16 1 1
   have c4:=z7s b 21 1 2
   simp only[Nat.reduceAdd]at c1 c2 c3 c4
   have:(2:Int)^1=2:=by decide
   have:(2:Int)^2=4:=by decide
   omega
  have g1:=q0t (fix1 (zAll o h v)) 19 2
  have g2:=q0t (fix1 (zAll o h v)) 22 2
  have:(2:Int)^2=4:=by decide
  have b16:(8*2:Nat)=16:=rfl
  unfold layV fix2
  split
  ·rename_i hc
   have k1:hv (layB (fix1 (zAll o h v)) [16,17,18] 7) 19 2=hv (fix1 (zAll o h v)) 19 2:=qoi b1 b2 P16 7 fun q h1 h2=>s16 (by omega)
   have k2:hv (layB (fix1 (zAll o h v)) [16,17,18] 7) 22 2=hv (fix1 (zAll o h v)) 22 2:=qoi b1 b2 P16 7 fun q h1 h2=>s16 (by omega)
   have k3:hv (layB (fix1 (zAll o h v)) [16,17,18] 7) 21 1=hv (fix1 (zAll o h v)) 21 1:=qoi b1 b2 P16 7 fun q h1 h2=>s16 (by omega)
   have k4:hv (layB (fix1 (zAll o h v)) [16,17,18] 7) 16 1=1:=by rw[qaa];exact qry b1 b2 P16 7 (j:=0) (by decide)
   have k5:hv (layB (fix1 (zAll o h v)) [16,17,18] 7) 17 1=1:=by rw[qaa];exact qry b1 b2 P16 7 (j:=1) (by decide)
   have k6:hv (layB (fix1 (zAll o h v)) [16,17,18] 7) 18 1=1:=by rw[qaa];exact qry b1 b2 P16 7 (j:=2) (by decide)
   obtain⟨c1,c2⟩:=cut (layB (fix1 (zAll o h v)) [16,17,18] 7)
   unfold badW nn sg3
   rw[b16]
   simp only[Nat.reduceAdd]
   rw[c2,if_neg (by omega)]
   omega
  ·rename_i hc
   have k1:hv (layB (fix1 (zAll o h v)) [21] 1) 19 2=hv (fix1 (zAll o h v)) 19 2:=qoi b1 b2 P21 1 fun q h1 h2=>one (by omega)
   have k2:hv (layB (fix1 (zAll o h v)) [21] 1) 22 2=hv (fix1 (zAll o h v)) 22 2:=qoi b1 b2 P21 1 fun q h1 h2=>one (by omega)
   have k3:hv (layB (fix1 (zAll o h v)) [21] 1) 21 1=1:=by rw[qaa];exact qry b1 b2 P21 1 (j:=0) (by decide)
   have k4:hv (layB (fix1 (zAll o h v)) [21] 1) 16 1=hv (fix1 (zAll o h v)) 16 1:=qoi b1 b2 P21 1 fun q h1 h2=>one (by omega)
   have k5:hv (layB (fix1 (zAll o h v)) [21] 1) 17 1=hv (fix1 (zAll o h v)) 17 1:=qoi b1 b2 P21 1 fun q h1 h2=>one (by omega)
   have k6:hv (layB (fix1 (zAll o h v)) [21] 1) 18 1=hv (fix1 (zAll o h v)) 18 1:=qoi b1 b2 P21 1 fun q h1 h2=>one (by omega)
   obtain⟨c1,c2⟩:=cut (layB (fix1 (zAll o h v)) [21] 1)
   unfold badW nn sg3
   rw[b16]
   simp only[Nat.reduceAdd]
   rw[c2,if_pos (by omega)]
   omega
theorem lay_bb(o h v:List Int)(p:Bool):bb (layV o h v) p=layV o h v:=by
 cases p
 ·unfold bb
  exact if_neg (by decide)
 ·unfold bb
  rw[if_pos rfl]
  exact zmp (zg6 o h v).1 (zg6 o h v).2 (bit30 o h v)
theorem lay_kind(o h v:List Int)(p:Bool):qu7 (layV o h v) p=3:=by
 have hd:q8l (layV o h v)=true:=by
  unfold q8l
  rw[bit30]
  rfl
 obtain⟨n0,n1,n2⟩:=zju o h v
 have hbb:=lay_bb o h v p
 have e:∀(b:List Int) (c:Nat),c<3→n10 true (eAs true b) (eBs true b) c=nn b c:=fun b c hc=>by
  unfold n10 nn eAs eBs
  rcases(by omega:c=0∨c=1∨c=2)with rfl|rfl|rfl<;>rfl
 generalize layV o h v=b at*
 have hf:qpt (xD b p) (xA b p) (xB b p)=2:=by
  unfold xD xA xB
  rw[hbb,hd]
  have m0:¬q8m (eAs true b) (eBs true b) 0:=by
   unfold q8m
   rw[e b 0 (by omega)]
   exact n0
  have m1:¬q8m (eAs true b) (eBs true b) 1:=by
   unfold q8m
   rw[e b 1 (by omega)]
   exact n1
  have m2:q8m (eAs true b) (eBs true b) 2:=by
   unfold q8m
   rw[e b 2 (by omega)]
   exact n2
  unfold qpt
  rw[if_pos (show true=true from rfl),if_neg m0,if_neg m1,if_pos m2]
 unfold qu7
 rw[hf]
 rfl
theorem lay_dec(o h v:List Int)(p:Bool):qpu (layV o h v) p=qww (layV o h v):=by
 have hk:=lay_kind o h v p
 funext j
 unfold qpu zF baseF
 rw[hk,if_neg (fun h=>h.2.1 rfl),if_neg (by omega),if_neg (by omega),if_neg (by omega)]
end Go.AE.Gn
set_option linter.unusedSimpArgs false
set_option linter.unusedVariables false
namespace Go.AE.Gn
open Go Go.AE
def qwx(i:Nat):Nat:=16+3*(4*(i%4)+i/4)
theorem zaq:((yz 16).all fun i=>z1y 0 i==some ((qwx i:Int),()))=true:=by kernel_rfl
theorem ze1(F:Nat){i:Nat}(h:i<16):z1y F i=some ((qwx i:Int),()):=by
 have:=List.all_eq_true.1 zaq i (by simpa using h)
 have e:z1y F i=z1y 0 i:=rfl
 rw[e]
 simpa using this
theorem eacAt_lt{i:Nat}(h:i<16):16≤qwx i∧qwx i+3≤64:=by unfold qwx;omega
theorem qkc{F:Nat}(hF:66≤F){b:List Int}(hb:Bytes b)(hl:b.length=8){a n:Nat}(hn:n≤16)(h:a+n≤64):q6s F a n b=some (hv b a n,()):=by
 unfold q6s
 have h1:=q0t b a n
 have h2:(2:Int)^n≤2^16:=q3d hn
 rw[z9y hF hb (by omega) (by omega) (by omega)]
 simp only[y5]
 rw[w64 (by omega) (by omega)]
def eacW(b:List Int):List Int:=(yz 16).map fun i=>hv b (qwx i) 3
theorem Parts_is{F:Nat}(hF:66≤F){b:List Int}(hb:Bytes b)(hl:b.length=8):
  qsy F b=some (hv b 0 8,(hv b 8 4,(hv b 12 4,(eacW b,(0,()))))):=by
 have loop:∀T:List Int,q59 F F T q5g b 0=some (T,(eacW b,(b,()))):=by
  intro T
  refine qa5 16 (fun i=>hv b (qwx i) 3) (fun k w i=>q59 F k T w b i) (fun w=>some (T,(w,(b,())))) ?_ ?_ _ rfl F (by omega)
  ·intro k i w hi hw
   show q75 F (q59 F k) T w b i=_
   unfold q75
   have:=eacAt_lt hi
   have e:=qkc hF hb hl (a:=qwx i) (n:=3) (by decide) (by omega)
   simp only[yp]at e
   have h1:(i:Int)<16:=by omega
   simp only[h1,decide_true,cond_true,ze1 F hi,y5,e,yc,yd,q0o (show i<1000000000000 by omega),yb]
  ·intro k w hw
   show q75 F (q59 F k) T w b 16=_
   unfold q75
   simp
 unfold qsy
 have e1:=qkc hF hb hl (a:=0) (n:=8) (by decide) (by decide)
 have e2:=qkc hF hb hl (a:=8) (n:=4) (by decide) (by decide)
 have e3:=qkc hF hb hl (a:=12) (n:=4) (by decide) (by decide)
 simp only[yp,yq]at e1 e2 e3
 simp only[hl,loop,y5,e1,e2,e3]
 simp
theorem eacW_len(b:List Int):(eacW b).length=16:=by simp[eacW]
theorem zi3(b:List Int){i:Nat}(h:i<16):(eacW b).getD i 0=hv b (qwx i) 3:=q69 _ h
def eacA(i:Nat):Nat:=match i with|0=>0|1=>8|2=>12|i+3=>qwx i
def eacN(i:Nat):Nat:=match i with|0=>8|1=>4|2=>4|_+3=>3
def eacV(base times table:Int)(w:List Int)(i:Nat):Int:=match i with|0=>base|1=>times|2=>table|i+3=>w.getD i 0
def eacF(base times table:Int)(w:List Int)(n:Nat):List Int:=[0,8,base,8,4,times,12,4,table]++(yz n).flatMap fun i=>[(qwx i:Int),3,w.getD i 0]
theorem ze2(base times table:Int)(w:List Int)(n:Nat):eacF base times table w (n+1)=eacF base times table w n++[(qwx n:Int),3,w.getD n 0]:=by
 simp[eacF,List.range_succ]
theorem zar(base times table:Int)(w:List Int):∀n,(eacF base times table w n).length=9+3*n:=by
 intro n
 induction n with
 |zero=>rfl
 |succ n ih=>rw[ze2,yo,ih];simp;omega
theorem z7t{F:Nat}(base times table:Int)(w:List Int)(T:List Int):∀(k i:Nat),i≤16→16-i<k→
  qar F k T (eacF base times table w i) w i=some (T,(eacF base times table w 16,()))
 |0,i,_,h=>by omega
 |k+1,i,hi,hk=>by
  unfold qar qmr
  by_cases h:i<16
  ·have h1:(i:Int)<16:=by omega
   have ih:=z7t (F:=F) base times table w T k (i+1) (by omega) (by omega)
   have h2:(eacF base times table w i).length/3+1≤1099511627776:=by rw[zar];omega
   simp only[h1,decide_true,cond_true,yc,yd,ze1 F h,y5,h2,q0o (show i<1000000000000 by omega),yb]
   rw[←ze2]
   simpa using ih
  ·have:i=16:=by omega
   subst this
   simp
theorem eacF_get(base times table:Int)(w:List Int){i:Nat}(h:i<19):((eacF base times table w 16).drop (i*3)).take 3=[(eacA i:Int),(eacN i:Int),eacV base times table w i]:=by
 have:i=0∨i=1∨i=2∨i=3∨i=4∨i=5∨i=6∨i=7∨i=8∨i=9∨i=10∨i=11∨i=12∨i=13∨i=14∨i=15∨i=16∨i=17∨i=18:=by omega
 rcases this with rfl|rfl|rfl|rfl|rfl|rfl|rfl|rfl|rfl|rfl|rfl|rfl|rfl|rfl|rfl|rfl|rfl|rfl|rfl<;>rfl
def eacZ:List Int:=[0,0,0,0,0,0,0,0]
theorem qwy:Bytes eacZ:=fun x hx=>by simp[eacZ]at hx;omega
def eacJ(base times table:Int)(w:List Int)(i:Nat):List Int:=qf9 eacA eacN (eacV base times table w) eacZ i
theorem zn0:∀i,i<19→eacA i+eacN i≤64∧eacN i≤8:=by decide
theorem zn1:∀i,i<19→∀j,j<19→i≠j→eacA i+eacN i≤eacA j∨eacA j+eacN j≤eacA i:=by decide
def EacFit(base times table:Int)(w:List Int):Prop:=(0≤base∧base≤255)∧(0≤times∧times≤15)∧(0≤table∧table≤15)∧w.length=16∧∀i,i<16→0≤w.getD i 0∧w.getD i 0≤7
theorem EacFit.V{base times table:Int}{w:List Int}(h:EacFit base times table w):∀i,i<19→0≤eacV base times table w i∧eacV base times table w i<2^eacN i:=by
 obtain⟨h1,h2,h3,h4,h5⟩:=h
 intro i hi
 match i with
 |0=>simp only[eacV,eacN];omega
 |1=>simp only[eacV,eacN];omega
 |2=>simp only[eacV,eacN];omega
 |i+3=>
  have:=h5 i (by omega)
  simp only[eacV,eacN]
  omega
theorem z7u{F:Nat}(hF:66≤F){base times table:Int}{w:List Int}(hf:EacFit base times table w):∀(k i:Nat),i≤19→19-i<k→
  qas F k (eacJ base times table w i) (eacF base times table w 16) 19 i=some (eacJ base times table w 19,(true,()))
 |0,i,_,h=>by omega
 |k+1,i,hi,hk=>by
  unfold qas qms
  by_cases h:i<19
  ·have h1:(i:Int)<19:=by omega
   have ih:=z7u hF hf k (i+1) (by omega) (by omega)
   have hlen:(eacF base times table w 16).length/3=19:=by rw[zar]
   have hp:=zn0 i h
   have hV:=hf.V i h
   have hl:(eacJ base times table w i).length=8:=by unfold eacJ;rw[q5v];rfl
   have hs:=qif hF (b:=eacJ base times table w i) (q4s _ _ _ qwy i) (by omega) (a:=eacA i) (n:=eacN i) (v:=eacV base times table w i) (by omega) (by omega) hV
   have hv64:=pow64 (n:=eacN i) (by omega)
   simp only[h1,decide_true,cond_true,hlen,yc,yp,h1,decide_true,yd,cond_true,yb,eacF_get base times table w h,and_self,if_true,yt,yu]
   rw[wu64 hV.1 (by omega),hs]
   simp only[y5,bne_self_eq_false,cond_false,q0o (show i<1000000000000 by omega)]
   exact ih
  ·have:i=19:=by omega
   subst this
   simp
theorem zn2{F:Nat}(hF:66≤F){base times table:Int}{w:List Int}(hf:EacFit base times table w):qsx F base times table w=some (eacJ base times table w 19,(0,())):=by
 unfold qsx
 have e1:=z7t (F:=F) base times table w qaq F 0 (by omega) (by omega)
 have e2:=z7u hF hf F 0 (by omega) (by omega)
 simp only[and_self,if_true]
 have e0:eacF base times table w 0=[0,8,base,8,4,times,12,4,table]:=rfl
 rw[e0,yq]at e1
 rw[e1]
 have hlen:(eacF base times table w 16).length/3=19:=by rw[zar]
 simp only[y5,hlen]
 have e3:eacJ base times table w 0=qaq:=rfl
 rw[e3,yq]at e2
 simp only[yp,e2,y5]
 rfl
theorem qdk(base times table:Int)(w:List Int):(eacJ base times table w 19).length=8:=by unfold eacJ;rw[q5v];rfl
theorem zjv(base times table:Int)(w:List Int):Bytes (eacJ base times table w 19):=q4s _ _ _ qwy 19
theorem zas{base times table:Int}{w:List Int}(hf:EacFit base times table w){j:Nat}(hj:j<19):hv (eacJ base times table w 19) (eacA j) (eacN j)=eacV base times table w j:=
 zhi qwy (fun i hi=>(zn0 i hi).1) (fun i j hi hj=>zn1 i hi j hj) hf.V hj
theorem eacW_fit{b:List Int}:EacFit (hv b 0 8) (hv b 8 4) (hv b 12 4) (eacW b):=by
 have h1:=q0t b 0 8
 have h2:=q0t b 8 4
 have h3:=q0t b 12 4
 refine⟨by omega,by omega,by omega,eacW_len b,fun i hi=> ?_⟩
 rw[zi3 b hi]
 have:=q0t b (qwx i) 3
 omega
theorem ze3:((yz 16).all fun n=>match q5r 0 n with|some (l,())=>l.length==8&&l.all fun x=>decide (-15≤x)&&decide (x≤15)|none=>false)=true:=by kernel_rfl
theorem Table_is(F:Nat){n:Int}(h:0≤n∧n≤15):∃l,q5r F n=some (l,())∧l.length=8∧∀i,-15≤l.getD i 0∧l.getD i 0≤15:=by
 obtain⟨m,rfl⟩:=yh h.1
 have:=List.all_eq_true.1 ze3 m (by simp;omega)
 have e:q5r F m=q5r 0 m:=rfl
 rw[e]
 revert this
 cases q5r 0 m with
 |none=>intro h;simp at h
 |some l=>
  obtain⟨l,⟨⟩⟩:=l
  intro h
  simp only[yl,beq_iff_eq,List.all_eq_true,decide_eq_true_eq]at h
  refine⟨l,rfl,h.1,fun i=> ?_⟩
  rw[ye]
  by_cases hi:i<l.length
  ·rw[yj hi]
   exact h.2 _ (List.getElem_mem hi)
  ·rw[w8 (by omega)]
   simp
theorem mulB{n t c d:Int}(hn: -c≤n∧n≤c)(ht:0≤t∧t≤d)(hc:0≤c): -(c*d)≤n*t∧n*t≤c*d:=by
 have h1:n*t≤c*t:=Int.mul_le_mul_of_nonneg_right hn.2 ht.1
 have h2:c*t≤c*d:=Int.mul_le_mul_of_nonneg_left ht.2 hc
 have h3: -c*t≤n*t:=Int.mul_le_mul_of_nonneg_right hn.1 ht.1
 have h4: -c*t= -(c*t):=Int.neg_mul c t
 omega
def qoj(base times number:Int)(wide:Bool):Int:=
 if wide then(if times=0 then max 0 (min (8*base+4+number) 2047)else max 0 (min (8*(base+number*times)+4) 2047))else max 0 (min (base+number*times) 255)
theorem zi4(F:Nat){base times number:Int}(hb:0≤base∧base≤255)(ht:0≤times∧times≤15)(hn: -15≤number∧number≤15)(wide:Bool):qmt F base times number wide=some (qoj base times number wide,()):=by
 have hm:=mulB (c:=15) hn ht (by decide)
 unfold qmt q4n qoj
 rw[w64 (x:=number*times) (by omega) (by omega),w64 (x:=base+number*times) (by omega) (by omega),w64 (x:=8*base) (by omega) (by omega),w64 (x:=8*base+4) (by omega) (by omega),
  w64 (x:=8*base+4+number) (by omega) (by omega),w64 (x:=8*(base+number*times)) (by omega) (by omega),w64 (x:=8*(base+number*times)+4) (by omega) (by omega)]
 cases wide
 ·rfl
 ·by_cases h0:times=0
  ·simp[h0]
  ·simp[h0,beqF h0]
def eacD(base times:Int)(tbl w:List Int)(wide:Bool):List Int:=(yz 16).map fun i=>qoj base times (tbl.getD (w.getD i 0).toNat 0) wide
theorem zg9{F:Nat}(hF:66≤F){b:List Int}(hb:Bytes b)(hl:b.length=8)(wide:Bool){tbl:List Int}(ht:q5r F (hv b 12 4)=some (tbl,()))(hb15:∀i,-15≤tbl.getD i 0∧tbl.getD i 0≤15):
  qdu F b wide=some (eacD (hv b 0 8) (hv b 8 4) tbl (eacW b) wide,(0,())):=by
 obtain⟨f1,f2,f3,f4,f5⟩:=eacW_fit (b:=b)
 have loop:∀T:List Int,q4e F F wide T (hv b 0 8) (hv b 8 4) (eacW b) tbl (eacW b) 0=some (T,(eacD (hv b 0 8) (hv b 8 4) tbl (eacW b) wide,())):=by
  intro T
  refine qa5 16 (fun i=>qoj (hv b 0 8) (hv b 8 4) (tbl.getD ((eacW b).getD i 0).toNat 0) wide) (fun k w i=>q4e F k wide T (hv b 0 8) (hv b 8 4) w tbl (eacW b) i) (fun w=>some (T,(w,()))) ?_ ?_ _ f4 F (by omega)
  ·intro k i w hi hw
   show q63 F (q4e F k) wide T (hv b 0 8) (hv b 8 4) w tbl (eacW b) i=_
   unfold q63
   have h1:(i:Int)<16:=by omega
   have h2:=f5 i hi
   have h3:(eacW b).getD i 0<8:=by omega
   simp only[h1,decide_true,cond_true,yc,yd,yb,h2.1,h3,zi4 F f1 f2 (hb15 _),y5,q0o (show i<1000000000000 by omega)]
  ·intro k w hw
   show q63 F (q4e F k) wide T (hv b 0 8) (hv b 8 4) w tbl (eacW b) 16=_
   unfold q63
   simp
 unfold qdu
 rw[Parts_is hF hb hl]
 simp only[y5,and_self,if_true,bne_self_eq_false,cond_false,ht,loop]
theorem ze4(base times number:Int)(wide:Bool):0≤qoj base times number wide∧qoj base times number wide≤(if wide then 2047 else 255):=by
 unfold qoj
 cases wide<;>simp<;>(try split)<;>omega
end Go.AE.Gn
set_option linter.unusedSimpArgs false
set_option linter.unusedVariables false
namespace Go.AE.Gn
open Go Go.AE
def Rg(m:Int)(l:List Int):Prop:=∀j,0≤l.getD j 0∧l.getD j 0≤m
theorem z4q{l:List Int}{j:Nat}(h:l.length≤j):l.getD j 0=0:=by
 rw[ye,w8 h]
 rfl
theorem q7c{m:Int}{N:Nat}{g:Nat→Int}(hm:0≤m)(h:∀j,j<N→0≤g j∧g j≤m):Rg m (tab N g):=by
 intro j
 by_cases hj:j<N
 ·rw[q2b hj]
  exact h j hj
 ·rw[z4q (by rw[q0j];omega)]
  omega
theorem q2j{m m' :Int}{l:List Int}(h:Rg m l)(hm:m≤m'):Rg m' l:=fun j=>⟨(h j).1,Int.le_trans (h j).2 hm⟩
theorem q38{m:Int}{a b:List Int}(ha:Rg m a)(hb:Rg m b):Rg m (a++b):=by
 intro j
 simp only[ye,List.getElem?_append]
 split
 ·have:=ha j
  simpa[ye]using this
 ·have:=hb (j-a.length)
  simpa[ye]using this
theorem q0i{m x:Int}{a:List Int}(hx:0≤x∧x≤m)(ha:Rg m a):Rg m (x::a):=by
 intro j
 cases j with
 |zero=>simpa using hx
 |succ j=>simpa using ha j
theorem qok{m:Int}(hm:0≤m):Rg m []:=fun j=>by simp[hm]
theorem qgv(n:Int):Rg 255 (colV n):=by
 have h:=qk9 n
 intro j
 by_cases hj:j<4
 ·exact h.2 j hj
 ·rw[z4q (by rw[h.1];omega)]
  decide
theorem zga{a b:List Int}(ha:Rg 255 a)(hb:Rg 255 b){k o:Int}(hk:0≤k∧k≤o)(ho:1≤o):Rg 255 (betw a b k o):=by
 have h:∀c,0≤mixV (a.getD c 0) (b.getD c 0) k o 0∧mixV (a.getD c 0) (b.getD c 0) k o 0≤255:=fun c=>by
  have h1:=z49 (a:=a.getD c 0) (b:=b.getD c 0) hk ho
  have h2:=ha c
  have h3:=hb c
  omega
 exact q0i (h 0) (q0i (h 1) (q0i (h 2) (q0i (by decide) (qok (by decide)))))
theorem rg_palV(a b:Int)(four:Bool):Rg 255 (palV a b four):=by
 unfold palV
 split
 ·exact q38 (qgv a) (q38 (qgv b) (q38 (zga (qgv a) (qgv b) (by decide) (by decide)) (zga (qgv a) (qgv b) (by decide) (by decide))))
 ·exact q38 (qgv a) (q38 (qgv b) (q38 (zga (qgv a) (qgv b) (by decide) (by decide)) (q0i (by decide) (q0i (by decide) (q0i (by decide) (q0i (by decide) (qok (by decide))))))))
theorem z4r{p w:List Int}(hp:p.length=16)(hw:∀i,i<16→okW 2 w i):(za9 p w).length=64:=
 z47 (m:=4) _ fun i hi=>zfn hp (by have:=hw i hi;unfold okW at this;omega)
theorem ze5{p w:List Int}(hp:p.length=16)(hw:∀i,i<16→okW 2 w i){j:Nat}(hj:j<64):(za9 p w).getD j 0=p.getD ((w.getD (j/4) 0).toNat*4+j%4) 0:=by
 have h:=zlu hp hw (i:=j/4) (by omega)
 have e:(((za9 p w).drop (j/4*4)).take 4).getD (j%4) 0=(za9 p w).getD j 0:=by
  simp only[ye,List.getElem?_take,List.getElem?_drop]
  rw[if_pos (by omega)]
  congr 2
  omega
 rw[←e,h]
 unfold palE
 simp only[ye,List.getElem?_take,List.getElem?_drop]
 rw[if_pos (by omega)]
theorem rg_tileV{p w:List Int}(hp:p.length=16)(hw:∀i,i<16→okW 2 w i)(h:Rg 255 p):Rg 255 (za9 p w):=by
 intro j
 by_cases hj:j<64
 ·rw[ze5 hp hw hj]
  exact h _
 ·rw[z4q (by rw[z4r hp hw];omega)]
  decide
theorem rg_ramp7{a b:Int}(ha:0≤a∧a≤255)(hb:0≤b∧b≤255):Rg 255 (qrr a b):=by
 have h:∀k o:Int,(0≤k∧k≤o)→1≤o→0≤mixV a b k o 0∧mixV a b k o 0≤255:=fun k o hk ho=>by
  have:=z49 (a:=a) (b:=b) hk ho
  omega
 have z:Rg 255 []:=qok (by decide)
 by_cases hab:a≤b
 ·rw[ramp7_lo hab]
  exact q0i ha (q0i hb (q0i (h 1 5 (by decide) (by decide)) (q0i (h 2 5 (by decide) (by decide)) (q0i (h 3 5 (by decide) (by decide)) (q0i (h 4 5 (by decide) (by decide)) (q0i (by decide) (q0i (by decide) z)))))))
 ·rw[ramp7_hi hab]
  exact q0i ha (q0i hb (q0i (h 1 7 (by decide) (by decide)) (q0i (h 2 7 (by decide) (by decide)) (q0i (h 3 7 (by decide) (by decide)) (q0i (h 4 7 (by decide) (by decide)) (q0i (h 5 7 (by decide) (by decide)) (q0i (h 6 7 (by decide) (by decide)) z)))))))
theorem z0p{b:List Int}(hb:Bytes b):Rg 255 (qtx b):=q7c (N:=16) (by decide) fun j _=>rg_ramp7 (hb.getD 0) (hb.getD 1) _
theorem rg_fours(b:List Int):Rg 255 (zfm b):=q7c (N:=16) (by decide) fun j _=>q0n (by decide) _
theorem zn3(b:List Int):Rg 255 (qgf b):=by
 have hl:(qgf b).length=64:=by
  unfold qgf
  split
  ·rw[zm6,q0j]
  ·rw[q0j]
 intro j
 by_cases hj:j<64
 ·exact zjb b hj
 ·rw[z4q (by omega)]
  decide
theorem rg_tex10(d f:Bool)(A B T W:List Int)(i:Nat):Rg 255 (zdr (q1b d A B) T W f i):=
 q0i (q1g _) (q0i (q1g _) (q0i (q1g _) (q0i (qdi d A B _) (qok (by decide)))))
theorem zn4{l:List Int}{j:Nat}:((l.drop (j/4*4)).take 4).getD (j%4) 0=l.getD j 0:=by
 simp only[ye,List.getElem?_take,List.getElem?_drop]
 rw[if_pos (by omega)]
 congr 2
 omega
theorem z7v(d f:Bool)(A B T W:List Int):Rg 255 (qct d f A B T W):=by
 intro j
 by_cases hj:j<64
 ·rw[←zn4,show((qct d f A B T W).drop (j/4*4)).take 4=zdr (q1b d A B) T W f (j/4)from qoc _ (fun _ _=>rfl) (by omega)]
  exact rg_tex10 d f A B T W _ _
 ·rw[z4q (by rw[qrw];omega)]
  decide
theorem qc9(x y z:Int):Rg 255 (q7s x y z):=q0i (q0n (by decide) _) (q0i (q0n (by decide) _) (q0i (q0n (by decide) _) (q0i (by decide) (qok (by decide)))))
theorem qwz{l:List Int}(h:Rg 255 l)(n:Int):Rg 255 (addV l n):=q0i (q1g _) (q0i (q1g _) (q0i (q1g _) (q0i (h 3) (qok (by decide)))))
theorem rg_fourT(b:List Int):Rg 255 (zg1 b):=q38 (qc9 _ _ _) (q38 (qwz (qc9 _ _ _) _) (q38 (qc9 _ _ _) (qwz (qc9 _ _ _) _)))
theorem rg_fourH(b:List Int):Rg 255 (zaj b):=q38 (qwz (qc9 _ _ _) _) (q38 (qwz (qc9 _ _ _) _) (q38 (qwz (qc9 _ _ _) _) (qwz (qc9 _ _ _) _)))
theorem qrz(b:List Int)(p:Bool)(j:Nat):0≤qpu b p j∧qpu b p j≤255:=by
 unfold qpu zF
 split
 ·decide
 ·unfold baseF
  split
  ·unfold zg3 zal
   split
   ·exact qdi _ _ _ _
   ·exact z7v _ _ _ _ _ _ j
  ·split
   ·exact rg_fourT b _
   ·split
    ·exact rg_fourH b _
    ·unfold qww q40
     split
     ·decide
     ·exact q1g _
def eacL(b:List Int)(wide:Bool):List Int:=match q5r 600 (hv b 12 4)with
 |some (l,_)=>eacD (hv b 0 8) (hv b 8 4) l (eacW b) wide
 |none=>[]
theorem zn5{b:List Int}(hb:Bytes b)(hl:b.length=8)(wide:Bool):qdu 600 b wide=some (eacL b wide,(0,())):=by
 obtain⟨tbl,h1,_,h3⟩:=Table_is 600 (n:=hv b 12 4) (by have:=q0t b 12 4;omega)
 rw[zg9 (by decide) hb hl wide h1 h3]
 unfold eacL
 rw[h1]
theorem zat(b:List Int)(wide:Bool):Rg (if wide then 2047 else 255) (eacL b wide):=by
 have hm:(0:Int)≤if wide then 2047 else 255:=by cases wide<;>decide
 cases hT:q5r 600 (hv b 12 4)with
 |none=>simp only[eacL,hT];exact qok hm
 |some p=>simp only[eacL,hT];exact q7c (N:=16) hm fun j _=>ze4 _ _ _ _
def wT(c:Nat)(l t:List Int):List Int:=tab 64 fun j=>if j%4=c then l.getD (j/4) 0 else t.getD j 0
theorem wT_len(c:Nat)(l t:List Int):(wT c l t).length=64:=q0j _ _
theorem zau{m:Int}(hm:0≤m){c:Nat}{l t:List Int}(hl:Rg m l)(ht:Rg m t):Rg m (wT c l t):=q7c hm fun j _=>by
 split
 ·exact hl _
 ·exact ht _
def upW(c i:Nat)(l t:List Int)(j:Nat):Int:=if j%4=c∧j/4<i then l.getD (j/4) 0 else t.getD j 0
theorem upW_set{c i:Nat}(hc:c<4)(hi:i<16)(l t:List Int):(tab 64 (upW c i l t)).set (i*4+c) (l.getD i 0)=tab 64 (upW c (i+1) l t):=by
 rw[qb6]
 refine q02 fun j hj=> ?_
 unfold upW
 by_cases h:j=i*4+c
 ·subst h
  rw[if_pos rfl,if_pos (by omega),show(i*4+c)/4=i by omega]
 ·rw[if_neg h]
  by_cases h2:j%4=c∧j/4<i
  ·rw[if_pos h2,if_pos (by omega)]
  ·rw[if_neg h2,if_neg (by omega)]
theorem zgb{c:Nat}(hc:c<4)(l t T:List Int):∀(d i k:Nat),i+d=16→d<k→q64 600 k c (tab 64 (upW c i l t)) T l (i:Int)=some (tab 64 (upW c 16 l t),(T,())):=by
 intro d
 induction d with
 |zero=>
  intro i k h1 h2
  obtain⟨k,rfl⟩:∃k',k=k' +1:=⟨k-1,by omega⟩
  obtain rfl:i=16:=by omega
  rfl
 |succ d ih=>
  intro i k h1 h2
  obtain⟨k,rfl⟩:∃k',k=k' +1:=⟨k-1,by omega⟩
  show q9j 600 (q64 600 k) c (tab 64 (upW c i l t)) T l i=_
  unfold q9j
  have h3:(i:Int)<16:=by omega
  have h4:(c:Int)<4:=by omega
  simp only[h3,h4,decide_true,cond_true,yc,yd,yb,upW_set hc (show i<16 by omega),q0o (show i<1000000000000 by omega)]
  exact ih (i+1) k (by omega) (by omega)
theorem zav{c:Nat}(hc:c<4){l t:List Int}(ht:t.length=64)(e:Int):qat 600 t c l e=some (wT c l t,()):=by
 have h:=zgb hc l t q28 16 0 600 (by omega) (by omega)
 have e0:tab 64 (upW c 0 l t)=t:=by
  conv=>rhs;rw[qf1 ht]
  exact q02 fun j hj=>by unfold upW;rw[if_neg (by omega)]
 have e1:tab 64 (upW c 16 l t)=wT c l t:=q02 fun j hj=>by
  unfold upW
  by_cases h2:j%4=c
  ·rw[if_pos h2,if_pos (by omega)]
  ·rw[if_neg h2,if_neg (by omega)]
 rw[e0,e1]at h
 unfold qat
 rw[show((0:Nat):Int)=0 from rfl]at h
 rw[h]
 rfl
def qf6(a:Int):List Int:=tab 64 fun j=>if j%4=3 then a else 0
theorem qp8(a:Int):(qf6 a).length=64:=q0j _ _
theorem blank_is:q6u 600 false=some (qf6 255,())∧q6u 600 true=some (qf6 2047,()):=by constructor<;>kernel_rfl
theorem qu9{m a:Int}(h:0≤a∧a≤m):Rg m (qf6 a):=q7c (by omega) fun j _=>by
 split<;>omega
end Go.AE.Gn
set_option linter.unusedSimpArgs false
set_option linter.unusedVariables false
namespace Go.AE.Gn
open Go Go.AE
def q7f(k:Nat):Nat:=match k with|1|4|7|8|9|11=>8|_=>16
def z7w(k:Nat):Int:=match k with|1|7|8=>7|2|3|6|9|10=>15|4|11=>1|_=>3
def qy2(k:Nat):Bool:=match k with|11|12=>true|_=>false
def qy3(k:Nat):Int:=if qy2 k then 2047 else 255
def Fmt(k:Nat):Prop:=1≤k∧k≤12
theorem qik{p:Nat→Prop}(h1:p 1)(h2:p 2)(h3:p 3)(h4:p 4)(h5:p 5)(h6:p 6)(h7:p 7)(h8:p 8)(h9:p 9)(h10:p 10)(h11:p 11)(h12:p 12){k:Nat}(h:Fmt k):p k:=by
 obtain⟨a,b⟩:=h
 have:k=1∨k=2∨k=3∨k=4∨k=5∨k=6∨k=7∨k=8∨k=9∨k=10∨k=11∨k=12:=by omega
 rcases this with rfl|rfl|rfl|rfl|rfl|rfl|rfl|rfl|rfl|rfl|rfl|rfl<;>assumption
theorem zn6(F:Nat){k:Nat}(h:Fmt k):q9i F (k:Int)=some (((q7f k:Int),(z7w k,(qy2 k,()))),(0,())):=by
 refine qik (p:=fun k=>q9i F (k:Int)=some (((q7f k:Int),(z7w k,(qy2 k,()))),(0,()))) ?_ ?_ ?_ ?_ ?_ ?_ ?_ ?_ ?_ ?_ ?_ ?_ h<;>rfl
theorem Of_bad(F:Nat){f:Int}(h:¬(1≤f∧f≤12)):q9i F f=some ((0,(0,(false,()))),(5,())):=by
 have hn:∀c:Int,1≤c→c≤12→(f==c)=false:=fun c h1 h2=>beqF (by omega)
 unfold q9i
 rw[hn 1 (by decide) (by decide),hn 7 (by decide) (by decide),hn 8 (by decide) (by decide),hn 2 (by decide) (by decide),hn 3 (by decide) (by decide),hn 6 (by decide) (by decide),hn 10 (by decide) (by decide),hn 9 (by decide) (by decide),hn 4 (by decide) (by decide),hn 11 (by decide) (by decide),hn 5 (by decide) (by decide),hn 12 (by decide) (by decide)]
 rfl
theorem fmt_of{f:Int}(h:1≤f∧f≤12):∃k,Fmt k∧f=(k:Int):=⟨f.toNat,⟨by omega,by omega⟩,by omega⟩
def lo13(b:List Int):List Int:=b.take 8
def hi13(b:List Int):List Int:=(b.drop (b.length-8)).take 8
theorem q96{b:List Int}(hb:Bytes b):Bytes (lo13 b):=fun x hx=>hb x (List.mem_of_mem_take hx)
theorem qdx{b:List Int}(hb:Bytes b):Bytes (hi13 b):=fun x hx=>hb x (List.mem_of_mem_drop (List.mem_of_mem_take hx))
theorem qkd{b:List Int}(h:8≤b.length):(lo13 b).length=8:=by simp[lo13];omega
theorem qua{b:List Int}(h:8≤b.length):(hi13 b).length=8:=by simp[hi13];omega
theorem lo13_8{b:List Int}(h:b.length=8):lo13 b=b:=List.take_of_length_le (by omega)
theorem zjw(k:Nat):8≤q7f k∧q7f k≤16:=by
 unfold q7f
 split<;>decide
def z4s(b:List Int)(four:Bool):List Int:=za9 (palV (lv b 0 16) (lv b 16 16) four) (oneW b)
theorem ze6(b:List Int)(four:Bool):(z4s b four).length=64:=z4r (qty _ _ _) (qwo b)
theorem zaw(b:List Int)(four:Bool):Rg 255 (z4s b four):=rg_tileV (qty _ _ _) (qwo b) (rg_palV _ _ _)
def qil(k:Nat)(b:List Int):List Int:=match k with
 |1=>z4s b false
 |2=>wT 3 (zfm (lo13 b)) (z4s (hi13 b) true)
 |3=>wT 3 (qtx (lo13 b)) (z4s (hi13 b) true)
 |4=>wT 0 (qtx (lo13 b)) (qf6 255)
 |5=>wT 1 (qtx (hi13 b)) (wT 0 (qtx (lo13 b)) (qf6 255))
 |6=>qgf b
 |7=>zji b
 |8=>tab 64 (qpu b false)
 |9=>tab 64 (qpu b true)
 |10=>wT 3 (eacL (lo13 b) false) (tab 64 (qpu (hi13 b) false))
 |11=>wT 0 (eacL (lo13 b) true) (qf6 2047)
 |_=>wT 1 (eacL (hi13 b) true) (wT 0 (eacL (lo13 b) true) (qf6 2047))
theorem zi5{b:List Int}(hb:Bytes b){k:Nat}(h:Fmt k):Rg (qy3 k) (qil k b):=by
 have hlo:=q96 hb
 have hhi:=qdx hb
 refine qik (p:=fun k=>Rg (qy3 k) (qil k b)) ?_ ?_ ?_ ?_ ?_ ?_ ?_ ?_ ?_ ?_ ?_ ?_ h
 ·exact zaw _ _
 ·exact zau (by decide) (rg_fours _) (zaw _ _)
 ·exact zau (by decide) (z0p hlo) (zaw _ _)
 ·exact zau (by decide) (z0p hlo) (qu9 (by decide))
 ·exact zau (by decide) (z0p hhi) (zau (by decide) (z0p hlo) (qu9 (by decide)))
 ·exact zn3 b
 ·exact z7v _ _ _ _ _ _
 ·exact q7c (by decide) fun j _=>qrz _ _ _
 ·exact q7c (by decide) fun j _=>qrz _ _ _
 ·exact zau (by decide) (zat _ false) (q7c (by decide) fun j _=>qrz _ _ _)
 ·exact zau (by decide) (zat _ true) (qu9 (by decide))
 ·exact zau (by decide) (zat _ true) (zau (by decide) (zat _ true) (qu9 (by decide)))
theorem qbp{b t:List Int}(hb:Bytes b)(hl:b.length=8)(ht:t.length=64){c:Nat}(hc:c<4)(x y:Int):q0p 600 t c b x y false=some (wT c (qtx b) t,()):=by
 unfold q0p q86
 simp only[cond_false,zj4 (F:=600) (by decide) hb hl,y5,zav hc ht]
theorem qgw{b t:List Int}(hb:Bytes b)(hl:b.length=8)(ht:t.length=64){c:Nat}(hc:c<4)(x y:Int):q0p 600 t c b x y true=some (wT c (eacL b true) t,()):=by
 unfold q0p q86
 simp only[cond_true,zn5 hb hl,y5,zav hc ht]
section
variable {b:List Int}
theorem d13_1(hb:Bytes b)(hl:b.length=8)(x):q03 600 1 x (lo13 b) (hi13 b) b=some (qil 1 b,(0,())):=by
 have h:=qwp (F:=600) (by decide) hb hl false
 unfold q03
 simp only[Int.reduceBEq,cond_true,cond_false,h,y5]
 rfl
theorem d13_2(hb:Bytes b)(hl:b.length=16)(x):q03 600 2 x (lo13 b) (hi13 b) b=some (qil 2 b,(0,())):=by
 have h1:=Fours_is (F:=600) (by decide) (q96 hb) (qkd (b:=b) (by omega))
 have h2:q57 600 (hi13 b) true=some (z4s (hi13 b) true,(0,())):=qwp (F:=600) (by decide) (qdx hb) (qua (by omega)) true
 have h3:=fun e=>zav (c:=3) (by decide) (l:=zfm (lo13 b)) (ze6 (hi13 b) true) e
 simp only[yp]at h3
 unfold q03
 simp only[Int.reduceBEq,cond_true,cond_false,h1,h2,h3,q6t,y5]
 rfl
theorem d13_3(hb:Bytes b)(hl:b.length=16):q03 600 3 (16,(15,(false,()))) (lo13 b) (hi13 b) b=some (qil 3 b,(0,())):=by
 have h2:q57 600 (hi13 b) true=some (z4s (hi13 b) true,(0,())):=qwp (F:=600) (by decide) (qdx hb) (qua (by omega)) true
 have h3:=fun x y=>qbp (q96 hb) (qkd (by omega)) (ze6 (hi13 b) true) (c:=3) (by decide) x y
 simp only[yp]at h3
 unfold q03
 simp only[Int.reduceBEq,cond_true,cond_false,h2,h3,q6t,y5]
 rfl
theorem d13_4(hb:Bytes b)(hl:b.length=8):q03 600 4 (8,(1,(false,()))) (lo13 b) (hi13 b) b=some (qil 4 b,(0,())):=by
 have h3:=fun x y=>qbp (q96 hb) (qkd (by omega)) (qp8 255) (c:=0) (by decide) x y
 simp only[yq]at h3
 unfold q03
 simp only[Int.reduceBEq,cond_true,cond_false,blank_is.1,h3,y5]
 rfl
theorem d13_5(hb:Bytes b)(hl:b.length=16):q03 600 5 (16,(3,(false,()))) (lo13 b) (hi13 b) b=some (qil 5 b,(0,())):=by
 have h3:=fun x y=>qbp (q96 hb) (qkd (by omega)) (qp8 255) (c:=0) (by decide) x y
 have h4:=fun x y=>qbp (qdx hb) (qua (by omega)) (wT_len 0 (qtx (lo13 b)) (qf6 255)) (c:=1) (by decide) x y
 simp only[yq,yp]at h3 h4
 unfold q03
 simp only[Int.reduceBEq,cond_true,cond_false,blank_is.1,h3,h4,y5]
 rfl
theorem d13_6(hb:Bytes b)(hl:b.length=16)(x):q03 600 6 x (lo13 b) (hi13 b) b=some (qil 6 b,(0,())):=by
 have h:=qws hb hl
 unfold q03
 simp only[Int.reduceBEq,cond_true,cond_false,h,y5]
 rfl
theorem d13_7(hb:Bytes b)(hl:b.length=8)(x):q03 600 7 x (lo13 b) (hi13 b) b=some (qil 7 b,(0,())):=by
 have h:=(zfz (F:=600) (by decide) hb hl).1
 unfold q03
 simp only[Int.reduceBEq,cond_true,cond_false,h,y5]
 rfl
theorem d13_8(hb:Bytes b)(hl:b.length=8)(x):q03 600 8 x (lo13 b) (hi13 b) b=some (qil 8 b,(0,())):=by
 have h:=qrx hb hl false
 unfold q03
 simp only[Int.reduceBEq,cond_true,cond_false,h,y5]
 rfl
theorem d13_9(hb:Bytes b)(hl:b.length=8)(x):q03 600 9 x (lo13 b) (hi13 b) b=some (qil 9 b,(0,())):=by
 have h:=qrx hb hl true
 unfold q03
 simp only[Int.reduceBEq,cond_true,cond_false,h,y5]
 rfl
theorem d13_10(hb:Bytes b)(hl:b.length=16)(x):q03 600 10 x (lo13 b) (hi13 b) b=some (qil 10 b,(0,())):=by
 have h1:=zn5 (q96 hb) (qkd (b:=b) (by omega)) false
 have h2:=qrx (qdx hb) (qua (b:=b) (by omega)) false
 have h3:=fun e=>zav (c:=3) (by decide) (l:=eacL (lo13 b) false) (q0j 64 (qpu (hi13 b) false)) e
 simp only[yp]at h3
 unfold q03
 simp only[Int.reduceBEq,cond_true,cond_false,h1,h2,h3,q6t,y5]
 rfl
theorem d13_11(hb:Bytes b)(hl:b.length=8):q03 600 11 (8,(1,(true,()))) (lo13 b) (hi13 b) b=some (qil 11 b,(0,())):=by
 have h3:=fun x y=>qgw (q96 hb) (qkd (by omega)) (qp8 2047) (c:=0) (by decide) x y
 simp only[yq]at h3
 unfold q03
 simp only[Int.reduceBEq,cond_true,cond_false,blank_is.2,h3,y5]
 rfl
theorem d13_12(hb:Bytes b)(hl:b.length=16):q03 600 12 (16,(3,(true,()))) (lo13 b) (hi13 b) b=some (qil 12 b,(0,())):=by
 have h3:=fun x y=>qgw (q96 hb) (qkd (by omega)) (qp8 2047) (c:=0) (by decide) x y
 have h4:=fun x y=>qgw (qdx hb) (qua (by omega)) (wT_len 0 (eacL (lo13 b) true) (qf6 2047)) (c:=1) (by decide) x y
 simp only[yq,yp]at h3 h4
 unfold q03
 simp only[Int.reduceBEq,cond_true,cond_false,blank_is.2,h3,h4,y5]
 rfl
theorem decode13(hb:Bytes b){k:Nat}(h:Fmt k):b.length=q7f k→q03 600 (k:Int) ((q7f k:Int),(z7w k,(qy2 k,()))) (lo13 b) (hi13 b) b=some (qil k b,(0,())):=
 qik (p:=fun k=>b.length=q7f k→q03 600 (k:Int) ((q7f k:Int),(z7w k,(qy2 k,()))) (lo13 b) (hi13 b) b=some (qil k b,(0,())))
  (fun hl=>d13_1 hb hl _) (fun hl=>d13_2 hb hl _) (fun hl=>d13_3 hb hl) (fun hl=>d13_4 hb hl) (fun hl=>d13_5 hb hl) (fun hl=>d13_6 hb hl _) (fun hl=>d13_7 hb hl _) (fun hl=>d13_8 hb hl _) (fun hl=>d13_9 hb hl _) (fun hl=>d13_10 hb hl _) (fun hl=>d13_11 hb hl) (fun hl=>d13_12 hb hl) h
theorem qs0(hb:Bytes b){k:Nat}(h:Fmt k)(hl:b.length=q7f k):q4f 600 (k:Int) b=some (qil k b,(0,())):=by
 have g:=zjw k
 unfold q4f
 rw[zn6 600 h]
 have e1:y0 .i64 ((b.length:Int)-8)=((b.length-8:Nat):Int):=by rw[w64 (by omega) (by omega)];omega
 have e2:(((b.length:Nat):Int) !=(q7f k:Int))=false:=by rw[hl];simp
 have e3:psub b.length (b.length-8)=8:=by rw[zki];omega
 simp only[y5,bne_self_eq_false,cond_false,e2,show 8≤b.length by omega,decide_true,cond_true,e1,yc,yb,show b.length-8≤b.length by omega,yd,e3]
 have h3:=decode13 hb h hl
 unfold lo13 hi13 at h3
 rw[h3]
 rfl
end
end Go.AE.Gn
set_option linter.unusedSimpArgs false
set_option linter.unusedVariables false
namespace Go.AE.Gn
open Go Go.AE
def scV(x:Int):Int:=8*x+x/32
def upS(n:Nat)(t:List Int)(j:Nat):Int:=if j<n then scV (t.getD j 0)else t.getD j 0
theorem upS_set{t:List Int}{n:Nat}(hn:n<64):(tab 64 (upS n t)).set n (scV (t.getD n 0))=tab 64 (upS (n+1) t):=by
 rw[qb6]
 refine q02 fun j hj=> ?_
 unfold upS
 by_cases h:j=n
 ·subst h;rw[if_pos rfl,if_pos (by omega)]
 ·rw[if_neg h]
  by_cases h2:j<n
  ·rw[if_pos h2,if_pos (by omega)]
  ·rw[if_neg h2,if_neg (by omega)]
theorem ze7{t:List Int}(ht:Rg 255 t)(T:List Int){i:Nat}(hi:i<16)(y:Int):∀(d c k:Nat),c+d=4→d<k→
  q53 600 k (tab 64 (upS (i*4+c) t)) T (i:Int) y (tab 4 fun c=>t.getD (i*4+c) 0) (c:Int)=some (tab 64 (upS (i*4+4) t),(T,(y,()))):=by
 intro d
 induction d with
 |zero=>
  intro c k h1 h2
  obtain⟨k,rfl⟩:∃k',k=k' +1:=⟨k-1,by omega⟩
  obtain rfl:c=4:=by omega
  rfl
 |succ d ih=>
  intro c k h1 h2
  obtain⟨k,rfl⟩:∃k',k=k' +1:=⟨k-1,by omega⟩
  show q87 600 (q53 600 k) (tab 64 (upS (i*4+c) t)) T i y (tab 4 fun c=>t.getD (i*4+c) 0) c=_
  unfold q87
  have h3:(i:Int)<16:=by omega
  have h4:(c:Int)<4:=by omega
  have hv:=ht (i*4+c)
  have e:y0 .i64 (y0 .i64 (8*t.getD (i*4+c) 0)+y0 .i64 (yw (t.getD (i*4+c) 0) 32))=scV (t.getD (i*4+c) 0):=by
   rw[q1p hv.1,w64 (x:=8*t.getD (i*4+c) 0) (by omega) (by omega),w64 (x:=t.getD (i*4+c) 0/32) (by omega) (by omega),w64 (by omega) (by omega)]
   rfl
  simp only[h3,h4,decide_true,cond_true,yc,yd,yb,q2b (show c<4 by omega),e,upS_set (t:=t) (show i*4+c<64 by omega),q0o (show c<1000000000000 by omega)]
  exact ih (c+1) k (by omega) (by omega)
theorem ze8{t:List Int}(ht:Rg 255 t)(T:List Int):∀(d i k:Nat),i+d=16→d<k→q54 600 k (tab 64 (upS (i*4) t)) T (i:Int)=some (tab 64 (upS 64 t),(T,())):=by
 intro d
 induction d with
 |zero=>
  intro i k h1 h2
  obtain⟨k,rfl⟩:∃k',k=k' +1:=⟨k-1,by omega⟩
  obtain rfl:i=16:=by omega
  rfl
 |succ d ih=>
  intro i k h1 h2
  obtain⟨k,rfl⟩:∃k',k=k' +1:=⟨k-1,by omega⟩
  show q88 600 (q54 600 k) (tab 64 (upS (i*4) t)) T i=_
  unfold q88
  have h3:(i:Int)<16:=by omega
  have e:y8 4 (y9 (i*4) (tab 64 (upS (i*4) t)))=tab 4 fun c=>t.getD (i*4+c) 0:=by
   rw[qp4 (by omega)]
   exact q02 fun c hc=>by unfold upS;rw[if_neg (by omega)]
  have h:=ze7 ht T (i:=i) (by omega) i 4 0 600 (by omega) (by omega)
  simp only[Nat.add_zero,yq]at h
  simp only[h3,decide_true,cond_true,yc,yd,yb,e,h,y5,q0o (show i<1000000000000 by omega)]
  rw[show i*4+4=(i+1)*4 by omega]
  exact ih (i+1) k (by omega) (by omega)
def scT(k:Nat)(t:List Int):List Int:=if qy2 k then tab 64 fun j=>scV (t.getD j 0)else t
theorem zn7{k:Nat}{t:List Int}(ht:t.length=64):(scT k t).length=64:=by
 unfold scT
 split
 ·exact q0j _ _
 ·exact ht
theorem zi6{k:Nat}{t:List Int}(ht:Rg 255 t):Rg (qy3 k) (scT k t):=by
 unfold scT qy3
 cases qy2 k
 ·exact ht
 ·exact q7c (by decide) fun j _=>by
   have:=ht j
   unfold scV
   simp only[if_true]
   omega
theorem zax{k:Nat}(h:Fmt k){t:List Int}(hl:t.length=64)(ht:Rg 255 t):qby 600 (k:Int) t=some (scT k t,()):=by
 unfold qby scT
 rw[zn6 600 h]
 simp only[y5]
 cases qy2 k
 ·rfl
 ·have h:=ze8 ht q28 16 0 600 (by omega) (by omega)
  have e0:tab 64 (upS (0*4) t)=t:=by
   conv=>rhs;rw[qf1 hl]
   exact q02 fun j hj=>by unfold upS;rw[if_neg (by omega)]
  have e1:tab 64 (upS 64 t)=tab 64 fun j=>scV (t.getD j 0):=q02 fun j hj=>by unfold upS;rw[if_pos hj]
  rw[e0,e1,show((0:Nat):Int)=0 from rfl]at h
  simp only[Bool.not_true,cond_false,h,y5,if_true]
def bitM(mask:Int)(c:Nat):Bool:=mask/2^c%2==1
def errT(mask:Int)(s u:List Int)(j:Nat):Int:=if bitM mask (j%4)then(s.getD j 0-u.getD j 0)*(s.getD j 0-u.getD j 0)else 0
def sumN(f:Nat→Int):Nat→Int
 |0=>0
 |n+1=>sumN f n+f n
theorem qp9{f:Nat→Int}{m:Int}:∀{n:Nat},(∀i,i<n→0≤f i∧f i≤m)→0≤sumN f n∧sumN f n≤m*n
 |0,_=>by simp[sumN]
 |n+1,h=>by
  have h1:=qp9 (n:=n) fun i hi=>h i (by omega)
  have h2:=h n (by omega)
  have e:m*((n+1:Nat):Int)=m*(n:Int)+m:=by
   rw[show((n+1:Nat):Int)=(n:Int)+1 by omega,Int.mul_add,Int.mul_one]
  unfold sumN
  rw[e]
  omega
theorem z4t{f:Nat→Int}:∀{n:Nat},(∀i,i<n→0≤f i)→(sumN f n=0↔∀i,i<n→f i=0)
 |0,_=>by simp[sumN]
 |n+1,h=>by
  have h1:=z4t (n:=n) fun i hi=>h i (by omega)
  have h0:0≤sumN f n:=by
   have:∀m,m≤n→0≤sumN f m:=by
    intro m
    induction m with
    |zero=>intro _;exact Int.le_refl 0
    |succ m ih=>intro hm;unfold sumN;have:=ih (by omega);have:=h m (by omega);omega
   exact this n (w9 _)
  have h2:=h n (by omega)
  unfold sumN
  constructor
  ·intro e i hi
   by_cases hin:i=n
   ·subst hin;omega
   ·exact h1.1 (by omega) i (by omega)
  ·intro e
   have:=h1.2 fun i hi=>e i (by omega)
   have:=e n (by omega)
   omega
theorem qub{x m:Int}(h: -m≤x∧x≤m):0≤x*x∧x*x≤m*m:=by
 have hm:0≤m:=by omega
 constructor
 ·rcases Int.le_total 0 x with h1|h1
  ·exact Int.mul_nonneg h1 h1
  ·have:=Int.mul_nonneg (a:= -x) (b:= -x) (by omega) (by omega)
   rwa [Int.neg_mul_neg]at this
 ·rcases Int.le_total 0 x with h1|h1
  ·exact Int.mul_le_mul h.2 h.2 h1 hm
  ·have:=Int.mul_le_mul (a:= -x) (b:= -x) (c:=m) (d:=m) (by omega) (by omega) (by omega) hm
   rwa [Int.neg_mul_neg]at this
theorem zgc{x:Int}:x*x=0↔x=0:=by
 rw[Int.mul_eq_zero]
 simp
theorem qx0{mask:Int}{s u:List Int}(hs:Rg 2047 s)(hu:Rg 2047 u)(j:Nat):0≤errT mask s u j∧errT mask s u j≤2047*2047:=by
 unfold errT
 split
 ·have h1:=hs j
  have h2:=hu j
  exact qub (m:=2047) (by omega)
 ·decide
def errS(mask:Int)(s u:List Int):Int:=sumN (errT mask s u) 64
theorem zgd{mask:Int}{s u:List Int}(hs:Rg 2047 s)(hu:Rg 2047 u):0≤errS mask s u:=(qp9 (n:=64) fun i _=>qx0 hs hu i).1
theorem ze9{mask:Int}{s u:List Int}(hs:Rg 2047 s)(hu:Rg 2047 u):errS mask s u=0↔∀j,j<64→bitM mask (j%4)=true→s.getD j 0=u.getD j 0:=by
 unfold errS
 rw[z4t fun i _=>(qx0 hs hu i).1]
 constructor
 ·intro h j hj hb
  have:=h j hj
  unfold errT at this
  rw[if_pos hb,zgc]at this
  omega
 ·intro h j hj
  unfold errT
  split
  ·rename_i hb
   rw[zgc,h j hj hb]
   omega
  ·rfl
theorem zi7{mask:Int}{c:Nat}(hc:c≤62):(iand .i64 (ishr .i64 mask (c:Int)) 1==1)=bitM mask c:=by
 have h:=qf0 (b:=1) (by decide) (x:=ishr .i64 mask (c:Int))
 rw[show((2:Int)^1-1)=1 from rfl]at h
 rw[h,z46 (by omega)]
 rfl
theorem zea{mask:Int}{s u:List Int}(hs:Rg 2047 s)(hu:Rg 2047 u){i:Nat}(hi:i<16)(y:Int):∀(d c k:Nat),c+d=4→d<k→
  q65 600 k mask s u (sumN (errT mask s u) (i*4+c)) (i:Int) y (c:Int)=some (mask,(s,(u,(sumN (errT mask s u) (i*4+4),(y,()))))):=by
 intro d
 induction d with
 |zero=>
  intro c k h1 h2
  obtain⟨k,rfl⟩:∃k',k=k' +1:=⟨k-1,by omega⟩
  obtain rfl:c=4:=by omega
  rfl
 |succ d ih=>
  intro c k h1 h2
  obtain⟨k,rfl⟩:∃k',k=k' +1:=⟨k-1,by omega⟩
  show q9l 600 (q65 600 k) mask s u (sumN (errT mask s u) (i*4+c)) i y c=_
  unfold q9l
  have h3:(i:Int)<16:=by omega
  have h4:(c:Int)<4:=by omega
  have b1:=hs (i*4+c)
  have b2:=hu (i*4+c)
  have b3:=qp9 (n:=i*4+c) (f:=errT mask s u) fun j _=>qx0 hs hu j
  have b5:(2047*2047:Int)*((i*4+c:Nat):Int)≤2047*2047*64:=Int.mul_le_mul_of_nonneg_left (by omega) (by decide)
  have nx:=ih (c+1) k (by omega) (by omega)
  rw[show i*4+(c+1)=(i*4+c)+1 by omega]at nx
  rw[show sumN (errT mask s u) (i*4+c+1)=sumN (errT mask s u) (i*4+c)+errT mask s u (i*4+c)from rfl]at nx
  cases hb:bitM mask c with
  |true=>
   have e:errT mask s u (i*4+c)=(s.getD (i*4+c) 0-u.getD (i*4+c) 0)*(s.getD (i*4+c) 0-u.getD (i*4+c) 0):=by
    unfold errT
    rw[if_pos (by rw[show(i*4+c)%4=c by omega];exact hb)]
   have b4:=qub (x:=s.getD (i*4+c) 0-u.getD (i*4+c) 0) (m:=2047) (by omega)
   have sq:q6n 600 (y0 .i64 (s.getD (i*4+c) 0-u.getD (i*4+c) 0))=some ((s.getD (i*4+c) 0-u.getD (i*4+c) 0)*(s.getD (i*4+c) 0-u.getD (i*4+c) 0),()):=by
    unfold q6n
    rw[w64 (x:=s.getD (i*4+c) 0-u.getD (i*4+c) 0) (by omega) (by omega),w64 (by omega) (by omega)]
   rw[e]at nx
   simp only[h3,h4,decide_true,cond_true,yc,yd,yb,zi7 (mask:=mask) (show c≤62 by omega),hb,sq,y5,q0o (show c<1000000000000 by omega)]
   rw[w64 (by omega) (by omega)]
   exact nx
  |false=>
   have e:errT mask s u (i*4+c)=0:=by
    unfold errT
    rw[if_neg (by rw[show(i*4+c)%4=c by omega,hb];simp)]
   rw[e,Int.add_zero]at nx
   simp only[h3,h4,decide_true,cond_true,cond_false,yc,yd,yb,zi7 (mask:=mask) (show c≤62 by omega),hb,q0o (show c<1000000000000 by omega)]
   exact nx
theorem zeb{mask:Int}{s u:List Int}(hs:Rg 2047 s)(hu:Rg 2047 u):∀(d i k:Nat),i+d=16→d<k→q66 600 k mask s u (sumN (errT mask s u) (i*4)) (i:Int)=some (errS mask s u,()):=by
 intro d
 induction d with
 |zero=>
  intro i k h1 h2
  obtain⟨k,rfl⟩:∃k',k=k' +1:=⟨k-1,by omega⟩
  obtain rfl:i=16:=by omega
  rfl
 |succ d ih=>
  intro i k h1 h2
  obtain⟨k,rfl⟩:∃k',k=k' +1:=⟨k-1,by omega⟩
  show q9m 600 (q66 600 k) mask s u (sumN (errT mask s u) (i*4)) i=_
  unfold q9m
  have h3:(i:Int)<16:=by omega
  have h:=zea hs hu (i:=i) (by omega) (i:Int) 4 0 600 (by omega) (by omega) (mask:=mask)
  simp only[Nat.add_zero,yq]at h
  simp only[h3,decide_true,cond_true,h,y5,q0o (show i<1000000000000 by omega)]
  rw[show i*4+4=(i+1)*4 by omega]
  exact ih (i+1) k (by omega) (by omega)
theorem zn8(mask:Int){s u:List Int}(hs:Rg 2047 s)(hu:Rg 2047 u):qjh 600 s u mask=some (errS mask s u,()):=by
 have h:=zeb hs hu 16 0 600 (by omega) (by omega) (mask:=mask)
 unfold qjh
 simp only[Nat.zero_mul,yq,sumN]at h
 rw[h]
 rfl
theorem quc(k:Nat):qy3 k≤2047:=by
 unfold qy3
 split<;>decide
def qfa(k:Nat)(b t:List Int):Int:=errS (z7w k) (scT k t) (qil k b)
theorem qx1{b t:List Int}(hb:Bytes b){k:Nat}(h:Fmt k)(hl:b.length=q7f k)(htl:t.length=64)(ht:Rg 255 t):q8v 600 (k:Int) b t=some (qfa k b t,(0,())):=by
 unfold q8v
 rw[qs0 hb h hl,zn6 600 h,zax h htl ht]
 simp only[y5,bne_self_eq_false,cond_false,zn8 (z7w k) (q2j (zi6 (k:=k) ht) (quc k)) (q2j (zi5 hb h) (quc k))]
 rfl
end Go.AE.Gn
set_option linter.unusedSimpArgs false
set_option linter.unusedVariables false
namespace Go.AE.Gn
open Go Go.AE
def qol(g:Nat→Int):Nat→Nat
 |0=>0
 |n+1=>if n=0 then 0 else if g n<g (qol g n)then n else qol g n
theorem zec(g:Nat→Int):∀{n:Nat},0<n→qol g n<n
 |0,h=>by omega
 |n+1,_=>by
  unfold qol
  split
  ·omega
  ·split
   ·omega
   ·have:=zec g (n:=n) (by omega)
    omega
theorem z4u(g:Nat→Int):∀{n:Nat} {i:Nat},i<n→g (qol g n)≤g i
 |0,i,h=>by omega
 |n+1,i,h=>by
  unfold qol
  split
  ·have:i=0:=by omega
   subst this
   exact Int.le_refl _
  ·split
   ·by_cases hi:i=n
    ·subst hi;exact Int.le_refl _
    ·have:=z4u g (n:=n) (i:=i) (by omega)
     omega
   ·by_cases hi:i=n
    ·subst hi;omega
    ·exact z4u g (n:=n) (i:=i) (by omega)
def qpv(l:List Int)(v:Int):Int:=sumN (fun i=>(l.getD i 0-v)*(l.getD i 0-v)) l.length
theorem z6u{l L:List Int}(hl:Rg 2047 l)(hn:l.length≤64){p:Nat}(hp:p<L.length)(hv:0≤L.getD p 0∧L.getD p 0≤2047):∀(d i k:Nat),i+d=l.length→d<k→
  q35 600 k (p:Int) L (sumN (fun i=>(l.getD i 0-L.getD p 0)*(l.getD i 0-L.getD p 0)) i) l (l.length:Int) (i:Int)=some (qpv l (L.getD p 0),()):=by
 intro d
 induction d with
 |zero=>
  intro i k h1 h2
  obtain⟨k,rfl⟩:∃k',k=k' +1:=⟨k-1,by omega⟩
  obtain rfl:i=l.length:=by omega
  show q3l 600 (q35 600 k) _ _ _ _ _ _=_
  unfold q3l
  simp only[Int.lt_irrefl,decide_false,cond_false]
  rfl
 |succ d ih=>
  intro i k h1 h2
  obtain⟨k,rfl⟩:∃k',k=k' +1:=⟨k-1,by omega⟩
  show q3l 600 (q35 600 k) _ _ _ _ _ _=_
  unfold q3l
  have h3:(i:Int)<(l.length:Int):=by omega
  have h4:(p:Int)<(L.length:Int):=by omega
  have b1:=hl i
  have b2:=qub (x:=l.getD i 0-L.getD p 0) (m:=2047) (by omega)
  have b3:=qp9 (n:=i) (f:=fun i=>(l.getD i 0-L.getD p 0)*(l.getD i 0-L.getD p 0)) (m:=2047*2047) fun j _=>qub (m:=2047) (by have:=hl j;omega)
  have b4:(2047*2047:Int)*(i:Int)≤2047*2047*64:=Int.mul_le_mul_of_nonneg_left (by omega) (by decide)
  have sq:q6n 600 (y0 .i64 (l.getD i 0-L.getD p 0))=some ((l.getD i 0-L.getD p 0)*(l.getD i 0-L.getD p 0),()):=by
   unfold q6n
   rw[w64 (x:=l.getD i 0-L.getD p 0) (by omega) (by omega),w64 (by omega) (by omega)]
  simp only[h3,h4,decide_true,cond_true,yc,yd,yb,sq,y5,q0o (show i<1000000000000 by omega)]
  rw[w64 (by omega) (by omega)]
  exact ih (i+1) k (by omega) (by omega)
theorem z7x{l L:List Int}(hl:Rg 2047 l)(hn:l.length≤64){p:Nat}(hp:p<L.length)(hv:0≤L.getD p 0∧L.getD p 0≤2047):qde 600 (p:Int) l L=some (qpv l (L.getD p 0),()):=by
 have h:=z6u hl hn hp hv l.length 0 600 (by omega) (by omega)
 unfold qde
 simp only[yq,sumN]at h
 rw[h]
 rfl
def qom(L l:List Int):Nat:=qol (fun i=>qpv l (L.getD i 0)) L.length
theorem qx2{l L:List Int}(hl:Rg 2047 l)(hn:l.length≤64)(hL:Rg 2047 L)(hm:L.length≤300):∀(d i k:Nat),1≤i→i+d=L.length→d<k→
  q0k 600 k l L (qol (fun i=>qpv l (L.getD i 0)) i:Int) (qpv l (L.getD (qol (fun i=>qpv l (L.getD i 0)) i) 0)) (L.length:Int) (i:Int)=some ((qom L l:Int),()):=by
 intro d
 induction d with
 |zero=>
  intro i k h0 h1 h2
  obtain⟨k,rfl⟩:∃k',k=k' +1:=⟨k-1,by omega⟩
  obtain rfl:i=L.length:=by omega
  show q0m 600 (q0k 600 k) _ _ _ _ _ _=_
  unfold q0m
  simp only[Int.lt_irrefl,decide_false,cond_false]
  rfl
 |succ d ih=>
  intro i k h0 h1 h2
  obtain⟨k,rfl⟩:∃k',k=k' +1:=⟨k-1,by omega⟩
  show q0m 600 (q0k 600 k) _ _ _ _ _ _=_
  unfold q0m
  have h3:(i:Int)<(L.length:Int):=by omega
  have nx:=ih (i+1) k (by omega) (by omega) (by omega)
  unfold qol at nx
  rw[if_neg (by omega)]at nx
  simp only[h3,decide_true,cond_true,z7x hl hn (show i<L.length by omega) (hL i),y5,beqF (show(i:Int)≠0 by omega),cond_false,q0o (show i<1000000000000 by omega)]
  by_cases hc:qpv l (L.getD i 0)<qpv l (L.getD (qol (fun i=>qpv l (L.getD i 0)) i) 0)
  ·rw[if_pos hc]at nx
   simp only[hc,decide_true,cond_true]
   exact nx
  ·rw[if_neg hc]at nx
   simp only[hc,decide_false,cond_false]
   exact nx
theorem z4v{l L:List Int}(hl:Rg 2047 l)(hn:l.length≤64)(hL:Rg 2047 L)(hm:1≤L.length∧L.length≤300):q8w 600 L l=some ((qom L l:Int),()):=by
 have h:=qx2 hl hn hL hm.2 (L.length-1) 1 599 (by omega) (by omega) (by omega)
 have e:q0k 600 600 l L 0 0 (L.length:Int) 0=some ((qom L l:Int),()):=by
  show q0m 600 (q0k 600 599) _ _ _ _ _ _=_
  unfold q0m
  have h3:(0:Int)<(L.length:Int):=by omega
  have b0:=z7x hl hn (p:=0) (show 0<L.length by omega) (hL 0)
  simp only[yq]at b0
  simp only[h3,decide_true,cond_true,b0,y5,beq_self_eq_true]
  exact h
 unfold q8w q8h
 rw[e]
 rfl
theorem zay{L l:List Int}(h:0<L.length):qom L l<L.length:=zec _ h
theorem bestV_le(L l:List Int){i:Nat}(h:i<L.length):qpv l (L.getD (qom L l) 0)≤qpv l (L.getD i 0):=z4u (fun i=>qpv l (L.getD i 0)) h
def colT(t:List Int)(c:Nat):List Int:=tab 16 fun i=>t.getD (i*4+c) 0
theorem qud(t:List Int)(c:Nat):(colT t c).length=16:=q0j _ _
theorem z4w{m:Int}{t:List Int}(h:Rg m t)(c:Nat):Rg m (colT t c):=q7c (by have:=h 0;omega) fun i _=>h _
theorem qpa(N:Nat)(g:Nat→Int):tab N g++[g N]=tab (N+1) g:=by
 unfold tab
 rw[List.range_succ,List.map_append]
 rfl
theorem z4x{t:List Int}(hl:t.length=64){i:Nat}(hi:i<16){c:Nat}(hc:c<4):(y8 4 (y9 (i*4) t)).getD c 0=t.getD (i*4+c) 0:=by
 rw[qwm hl (by omega),q2b hc]
section
variable {t:List Int} (hl:t.length=64) {c:Nat} (hc:c<4)
include hl hc
theorem zge(x1 x2:Int):∀(d i k:Nat),i+d=16→d<k→q20 600 k (c:Int) x1 x2 (tab i fun i=>t.getD (i*4+c) 0) t (i:Int)=some (x1,(x2,(colT t c,()))):=by
 intro d
 induction d with
 |zero=>
  intro i k h1 h2
  obtain⟨k,rfl⟩:∃k',k=k' +1:=⟨k-1,by omega⟩
  obtain rfl:i=16:=by omega
  rfl
 |succ d ih=>
  intro i k h1 h2
  obtain⟨k,rfl⟩:∃k',k=k' +1:=⟨k-1,by omega⟩
  show q4i 600 (q20 600 k) _ _ _ _ _ _=_
  unfold q4i
  have h3:(i:Int)<16:=by omega
  have h4:(c:Int)<4:=by omega
  simp only[h3,h4,decide_true,cond_true,yc,yd,yb,q0j,show i+1≤1099511627776 by omega,z4x hl (show i<16 by omega) hc,q0o (show i<1000000000000 by omega)]
  rw[qpa i fun i=>t.getD (i*4+c) 0]
  exact ih (i+1) k (by omega) (by omega)
theorem zed(x1:Int):∀(d i k:Nat),i+d=16→d<k→q1r 600 k (c:Int) x1 (tab i fun i=>t.getD (i*4+c) 0) t (i:Int)=some (x1,(colT t c,())):=by
 intro d
 induction d with
 |zero=>
  intro i k h1 h2
  obtain⟨k,rfl⟩:∃k',k=k' +1:=⟨k-1,by omega⟩
  obtain rfl:i=16:=by omega
  rfl
 |succ d ih=>
  intro i k h1 h2
  obtain⟨k,rfl⟩:∃k',k=k' +1:=⟨k-1,by omega⟩
  show q3x 600 (q1r 600 k) _ _ _ _ _=_
  unfold q3x
  have h3:(i:Int)<16:=by omega
  have h4:(c:Int)<4:=by omega
  simp only[h3,h4,decide_true,cond_true,yc,yd,yb,q0j,show i+1≤1099511627776 by omega,z4x hl (show i<16 by omega) hc,q0o (show i<1000000000000 by omega)]
  rw[qpa i fun i=>t.getD (i*4+c) 0]
  exact ih (i+1) k (by omega) (by omega)
theorem zaz(x1:Int):∀(d i k:Nat),i+d=16→d<k→q1j 600 k (c:Int) x1 (tab i fun i=>t.getD (i*4+c) 0) t (i:Int)=some (x1,(colT t c,())):=by
 intro d
 induction d with
 |zero=>
  intro i k h1 h2
  obtain⟨k,rfl⟩:∃k',k=k' +1:=⟨k-1,by omega⟩
  obtain rfl:i=16:=by omega
  rfl
 |succ d ih=>
  intro i k h1 h2
  obtain⟨k,rfl⟩:∃k',k=k' +1:=⟨k-1,by omega⟩
  show q3c 600 (q1j 600 k) _ _ _ _ _=_
  unfold q3c
  have h3:(i:Int)<16:=by omega
  have h4:(c:Int)<4:=by omega
  simp only[h3,h4,decide_true,cond_true,yc,yd,yb,q0j,show i+1≤1099511627776 by omega,z4x hl (show i<16 by omega) hc,q0o (show i<1000000000000 by omega)]
  rw[qpa i fun i=>t.getD (i*4+c) 0]
  exact ih (i+1) k (by omega) (by omega)
theorem zee(x1:Int):∀(d i k:Nat),i+d=16→d<k→q1s 600 k (c:Int) x1 (tab i fun i=>t.getD (i*4+c) 0) t (i:Int)=some (x1,(colT t c,())):=by
 intro d
 induction d with
 |zero=>
  intro i k h1 h2
  obtain⟨k,rfl⟩:∃k',k=k' +1:=⟨k-1,by omega⟩
  obtain rfl:i=16:=by omega
  rfl
 |succ d ih=>
  intro i k h1 h2
  obtain⟨k,rfl⟩:∃k',k=k' +1:=⟨k-1,by omega⟩
  show q3y 600 (q1s 600 k) _ _ _ _ _=_
  unfold q3y
  have h3:(i:Int)<16:=by omega
  have h4:(c:Int)<4:=by omega
  simp only[h3,h4,decide_true,cond_true,yc,yd,yb,q0j,show i+1≤1099511627776 by omega,z4x hl (show i<16 by omega) hc,q0o (show i<1000000000000 by omega)]
  rw[qpa i fun i=>t.getD (i*4+c) 0]
  exact ih (i+1) k (by omega) (by omega)
theorem zgf(x1 x2:Int):∀(d i k:Nat),i+d=16→d<k→q1i 600 k (c:Int) x1 x2 (tab i fun i=>t.getD (i*4+c) 0) t (i:Int)=some (x1,(x2,(colT t c,()))):=by
 intro d
 induction d with
 |zero=>
  intro i k h1 h2
  obtain⟨k,rfl⟩:∃k',k=k' +1:=⟨k-1,by omega⟩
  obtain rfl:i=16:=by omega
  rfl
 |succ d ih=>
  intro i k h1 h2
  obtain⟨k,rfl⟩:∃k',k=k' +1:=⟨k-1,by omega⟩
  show q3b 600 (q1i 600 k) _ _ _ _ _ _=_
  unfold q3b
  have h3:(i:Int)<16:=by omega
  have h4:(c:Int)<4:=by omega
  simp only[h3,h4,decide_true,cond_true,yc,yd,yb,q0j,show i+1≤1099511627776 by omega,z4x hl (show i<16 by omega) hc,q0o (show i<1000000000000 by omega)]
  rw[qpa i fun i=>t.getD (i*4+c) 0]
  exact ih (i+1) k (by omega) (by omega)
end
end Go.AE.Gn
set_option linter.unusedSimpArgs false
set_option linter.unusedVariables false
namespace Go.AE.Gn
open Go Go.AE
theorem qon{α:Type}{m:Nat}(hm:m≤300)(g:Nat→Int)(L:Nat→List Int→Int→Option α)(res:List Int→Option α)
  (step:∀(k i:Nat),i<m→L (k+1) (tab i g) i=L k (tab i g++[g i]) ((i+1:Nat):Int)) (stop:∀k,L (k+1) (tab m g) m=res (tab m g)):L 600 [] 0=res (tab m g):=by
 have key:∀(d i k:Nat),i+d=m→d<k→L k (tab i g) i=res (tab m g):=by
  intro d
  induction d with
  |zero=>
   intro i k h1 h2
   obtain⟨k,rfl⟩:∃k',k=k' +1:=⟨k-1,by omega⟩
   obtain rfl:i=m:=by omega
   exact stop k
  |succ d ih=>
   intro i k h1 h2
   obtain⟨k,rfl⟩:∃k',k=k' +1:=⟨k-1,by omega⟩
   rw[step k i (by omega),qpa]
   exact ih (i+1) k (by omega) (by omega)
 exact key m 0 600 (by omega) (by omega)
def lvW(b:Nat):List Int:=tab (2^b) fun i=>q1f b i
def lvP:List Int:=tab 256 fun i=>(i:Int)
def lvS(bit:Int):List Int:=tab 128 fun i=>2*(i:Int)+bit
def lvL:List Int:=tab 32 fun i=>q33 (q1f 5 i+2)
def lvF:List Int:=tab 256 fun i=>8*(i:Int)+4
theorem pow_b{b:Nat}(hb:1≤b∧b≤8):1≤2^b∧2^b≤256:=by
 have h:(2:Nat)^b≤2^8:=Nat.pow_le_pow_right (by decide) hb.2
 have:=Nat.pow_pos (n:=b) (show 0<2 by decide)
 omega
theorem rg_lvW{b:Nat}(hb:1≤b∧b≤8):Rg 255 (lvW b):=q7c (by decide) fun i _=>q0n hb _
theorem rg_lvP:Rg 255 lvP:=q7c (by decide) fun i hi=>by omega
theorem rg_lvS{bit:Int}(h:0≤bit∧bit≤1):Rg 255 (lvS bit):=q7c (by decide) fun i hi=>by omega
theorem rg_lvL:Rg 255 lvL:=q7c (by decide) fun i _=>q1g _
theorem rg_lvF:Rg 2047 lvF:=q7c (by decide) fun i hi=>by omega
section
variable {t:List Int} (hl:t.length=64) (ht:Rg 2047 t) {c:Nat} (hc:c<4)
include hl ht hc
theorem zef{b:Nat}(hb:1≤b∧b≤8):q76 600 t c ((2^b:Nat):Int) b=some ((qom (lvW b) (colT t c):Int),()):=by
 have hp:=pow_b hb
 have h1:=zge hl hc ((2^b:Nat):Int) (b:Int) 16 0 600 (by omega) (by omega)
 rw[show tab 0 (fun i=>t.getD (i*4+c) 0)=[]from rfl,show((0:Nat):Int)=0 from rfl]at h1
 have h2:=qon (m:=2^b) (by omega) (fun i=>q1f b i) (fun k w i=>q1e 600 k (b:Int) (colT t c) w ((2^b:Nat):Int) i) (fun w=>some (colT t c,(w,()))) (fun k i hi=>by
   show q1q 600 (q1e 600 k) _ _ _ _ _=_
   unfold q1q qmv
   have h3:(i:Int)<((2^b:Nat):Int):=by omega
   simp only[h3,decide_true,cond_true,qb5 (F:=600) (by decide) hb,y5,q0j,show i+1≤1099511627776 by omega,yd,q0o (show i<1000000000000 by omega)]) (fun k=>by
   show q1q 600 (q1e 600 k) _ _ _ _ _=_
   unfold q1q
   simp only[Int.lt_irrefl,decide_false,cond_false])
 have h3:=z4v (l:=colT t c) (L:=lvW b) (z4w ht c) (by rw[qud];decide) (q2j (rg_lvW hb) (by decide)) (by unfold lvW;rw[q0j];omega)
 unfold q76
 rw[h1]
 simp only[y5]
 rw[h2]
 simp only[y5]
 unfold lvW at h3⊢
 rw[h3]
 rfl
theorem qf7{b:Nat}(hb:1≤b∧b≤8):q7k 600 t c b=some ((qom (lvW b) (colT t c):Int),()):=by
 have h:=zef hl ht hc hb
 have e:ishl .i64 1 (b:Int)=((2^b:Nat):Int):=by
  rw[za3 (by omega)]
  exact(we 2 b).symm
 unfold q7k
 simp only[yc,decide_true,cond_true,e,h,y5]
theorem z7y:qhe 600 t c=some ((qom lvP (colT t c):Int),()):=by
 have h1:=zed hl hc (256:Int) 16 0 600 (by omega) (by omega)
 rw[show tab 0 (fun i=>t.getD (i*4+c) 0)=[]from rfl,show((0:Nat):Int)=0 from rfl]at h1
 have h2:=qon (m:=256) (by omega) (fun i=>(i:Int)) (fun k w i=>q14 600 k (colT t c) w 256 i) (fun w=>some (colT t c,(w,()))) (fun k i hi=>by
   show q1h 600 (q14 600 k) _ _ _ _=_
   unfold q1h qji
   have h3:(i:Int)<256:=by omega
   simp only[h3,decide_true,cond_true,y5,q0j,show i+1≤1099511627776 by omega,yd,q0o (show i<1000000000000 by omega)]) (fun k=>by
   show q1h 600 (q14 600 k) _ _ _ _=_
   unfold q1h
   rfl)
 have h3:=z4v (l:=colT t c) (L:=lvP) (z4w ht c) (by rw[qud];decide) (q2j rg_lvP (by decide)) (by unfold lvP;rw[q0j];decide)
 unfold qhe q9n
 rw[h1]
 simp only[y5]
 rw[h2]
 simp only[y5]
 unfold lvP at h3⊢
 rw[h3]
 rfl
theorem sixb_is{bit:Int}(hb:0≤bit∧bit≤1):q5h 600 t c 128 bit=some ((qom (lvS bit) (colT t c):Int),()):=by
 have h1:=zgf hl hc (128:Int) bit 16 0 600 (by omega) (by omega)
 rw[show tab 0 (fun i=>t.getD (i*4+c) 0)=[]from rfl,show((0:Nat):Int)=0 from rfl]at h1
 have h2:=qon (m:=128) (by omega) (fun i=>2*(i:Int)+bit) (fun k w i=>q0w 600 k bit (colT t c) w 128 i) (fun w=>some (colT t c,(w,()))) (fun k i hi=>by
   show q19 600 (q0w 600 k) _ _ _ _ _=_
   unfold q19 qgl
   have h3:(i:Int)<128:=by omega
   have e:y0 .i64 (y0 .i64 (2*(i:Int))+bit)=2*(i:Int)+bit:=by rw[w64 (x:=2*(i:Int)) (by omega) (by omega),w64 (by omega) (by omega)]
   simp only[h3,decide_true,cond_true,y5,e,q0j,show i+1≤1099511627776 by omega,yd,q0o (show i<1000000000000 by omega)]) (fun k=>by
   show q19 600 (q0w 600 k) _ _ _ _ _=_
   unfold q19
   rfl)
 have h3:=z4v (l:=colT t c) (L:=lvS bit) (z4w ht c) (by rw[qud];decide) (q2j (rg_lvS hb) (by decide)) (by unfold lvS;rw[q0j];decide)
 unfold q5h
 rw[h1]
 simp only[y5]
 rw[h2]
 simp only[y5]
 unfold lvS at h3⊢
 rw[h3]
 rfl
theorem zjx:q5i 600 t c 32=some ((qom lvL (colT t c):Int),()):=by
 have h1:=zaz hl hc (32:Int) 16 0 600 (by omega) (by omega)
 rw[show tab 0 (fun i=>t.getD (i*4+c) 0)=[]from rfl,show((0:Nat):Int)=0 from rfl]at h1
 have h2:=qon (m:=32) (by omega) (fun i=>q33 (q1f 5 i+2)) (fun k w i=>q0x 600 k (colT t c) w 32 i) (fun w=>some (colT t c,(w,()))) (fun k i hi=>by
   show q1a 600 (q0x 600 k) _ _ _ _=_
   unfold q1a qgm
   have h3:(i:Int)<32:=by omega
   have wb:=q0n (b:=5) (by decide) (i:Int)
   have wd:=qb5 (F:=600) (by decide) (b:=5) (by decide) (i:Int)
   simp only[yp]at wd
   have e:y0 .i64 (q1f 5 (i:Int)+2)=q1f 5 (i:Int)+2:=w64 (by omega) (by omega)
   simp only[h3,decide_true,cond_true,wd,y5,e,qdw,q0j,show i+1≤1099511627776 by omega,yd,q0o (show i<1000000000000 by omega)]) (fun k=>by
   show q1a 600 (q0x 600 k) _ _ _ _=_
   unfold q1a
   rfl)
 have h3:=z4v (l:=colT t c) (L:=lvL) (z4w ht c) (by rw[qud];decide) (q2j rg_lvL (by decide)) (by unfold lvL;rw[q0j];decide)
 unfold q5i
 rw[h1]
 simp only[y5]
 rw[h2]
 simp only[y5]
 unfold lvL at h3⊢
 rw[h3]
 rfl
theorem zn9:q6h 600 t c 256=some ((qom lvF (colT t c):Int),()):=by
 have h1:=zee hl hc (256:Int) 16 0 600 (by omega) (by omega)
 rw[show tab 0 (fun i=>t.getD (i*4+c) 0)=[]from rfl,show((0:Nat):Int)=0 from rfl]at h1
 have h2:=qon (m:=256) (by omega) (fun i=>8*(i:Int)+4) (fun k w i=>q15 600 k (colT t c) w 256 i) (fun w=>some (colT t c,(w,()))) (fun k i hi=>by
   show q1k 600 (q15 600 k) _ _ _ _=_
   unfold q1k qjk
   have h3:(i:Int)<256:=by omega
   have e:=zi4 600 (base:=(i:Int)) (times:=1) (number:=0) (by omega) (by decide) (by decide) true
   have e2:qoj (i:Int) 1 0 true=8*(i:Int)+4:=by
    unfold qoj
    simp only[if_true,show¬(1:Int)=0 by decide,if_false]
    omega
   simp only[h3,decide_true,cond_true,y5,e,e2,q0j,show i+1≤1099511627776 by omega,yd,q0o (show i<1000000000000 by omega)]) (fun k=>by
   show q1k 600 (q15 600 k) _ _ _ _=_
   unfold q1k
   rfl)
 have h3:=z4v (l:=colT t c) (L:=lvF) (z4w ht c) (by rw[qud];decide) rg_lvF (by unfold lvF;rw[q0j];decide)
 unfold q6h
 rw[h1]
 simp only[y5]
 rw[h2]
 simp only[y5]
 unfold lvF at h3⊢
 rw[h3]
 rfl
end
theorem qdy(n:Int):q4j 600 n=some (tab 16 fun _=>n,()):=by
 have key:∀T w:List Int,w.length=16→q3u 600 600 n T w 0=some (T,(tab 16 (fun _=>n),())):=by
  intro T w hw
  refine qa5 16 (fun _=>n) (fun k w i=>q3u 600 k n T w i) (fun w=>some (T,(w,()))) ?_ ?_ w hw 600 (by omega)
  ·intro k i w hi hw
   show q8a 600 (q3u 600 k) n T w i=_
   unfold q8a
   have h3:(i:Int)<16:=by omega
   simp only[h3,decide_true,cond_true,yc,yd,yb,q0o (show i<1000000000000 by omega)]
  ·intro k w hw
   rfl
 unfold q4j
 rw[key _ _ rfl]
 rfl
end Go.AE.Gn
set_option linter.unusedSimpArgs false
set_option linter.unusedVariables false
namespace Go.AE.Gn
open Go Go.AE
def oneT(v:Nat→Int):List Int:=tab 64 fun j=>v (j%4)
def q0z(n:Int):List Int:=tab 16 fun _=>n
theorem q4l(n:Int){j:Nat}(hj:j<16):(q0z n).getD j 0=n:=q2b hj
theorem que(n:Int):(q0z n).length=16:=q0j _ _
theorem zb0{n:Int}(h: -9223372036854775808≤n∧n≤9223372036854775807)(j:Nat): -9223372036854775808≤(q0z n).getD j 0∧(q0z n).getD j 0≤9223372036854775807:=by
 by_cases hj:j<16
 ·rw[q4l n hj]
  exact h
 ·rw[z4q (by rw[que];omega)]
  decide
theorem zb1{e:Nat}{n:Int}(h:0≤n∧n<2^e):∀j,j<16→okW e (q0z n) j:=fun j hj=>by
 unfold okW
 rw[q4l n hj]
 exact h
theorem qim(e:Nat):∀j,j<16→okW e (q0z 0) j:=zb1 ⟨Int.le_refl 0,Int.pow_pos (by decide)⟩
theorem zeg{low:Int}{from_ each:Nat}{w:List Int}(hl:0≤low∧low<2^from_)(he:1≤each)(hfe:from_+each*16=64)(hw:∀j,j<16→okW each w j){a n:Nat}(h:a+n≤from_){v:Int}(hv' :0≤v∧v<2^n)
  (e:∀i,i<n→low/2^(a+i)%2=v/2^i%2):lv (qgc low from_ each w) a n=v:=by
 refine qwh hv' fun q h1 h2=> ?_
 rw[z7l hl he hfe hw (by omega),if_pos (by omega)]
 have:=e (q-a) (by omega)
 rwa [show a+(q-a)=q by omega]at this
theorem z4y{low:Int}{from_ each:Nat}{w:List Int}(hl:0≤low∧low<2^from_)(he:1≤each)(hfe:from_+each*16=64)(hw:∀j,j<16→okW each w j){i:Nat}(hi:i<16):lv (qgc low from_ each w) (from_+each*i) each=w.getD i 0:=by
 refine qwh (hw i hi) fun q h1 h2=> ?_
 have hm:each*i+each≤each*16:=by
  rw[←Nat.mul_succ]
  exact Nat.mul_le_mul_left _ (by omega)
 obtain⟨r,rfl⟩:∃r,q=from_+each*i+r:=⟨q-(from_+each*i),by omega⟩
 rw[z7l hl he hfe hw (by omega),if_neg (by omega),show from_+each*i+r-from_=each*i+r by omega,Nat.mul_add_div (by omega),Nat.mul_add_mod,Nat.div_eq_of_lt (show r<each by omega),Nat.mod_eq_of_lt (show r<each by omega),Nat.add_zero,show from_+each*i+r-(from_+each*i)=r by omega]
theorem lv_byte{b:List Int}(hb:Bytes b)(i:Nat):lv b (8*i) 8=b.getD i 0:=by
 have h:=hb.getD i
 unfold lv
 rw[qk5 (g:=fun j=>b.getD i 0/2^j%2) fun j hj=>by unfold q3w bitL;rw[show(8*i+j)/8=i by omega,show(8*i+j)%8=j by omega],qic _ h.1,wa h.1 (by omega)]
def hexB(n:Int):List Int:=qgc (n+n*2^16) 32 2 (q0z 0)
theorem qx3{n:Int}(hn:0≤n∧n≤65535)(four:Bool):z4s (hexB n) four=oneT fun c=>(colV n).getD c 0:=by
 have hl:0≤n+n*2^16∧n+n*2^16<2^32:=by omega
 have e0:lv (hexB n) 0 16=n:=zeg hl (by decide) (by decide) (qim 2) (by decide) (by omega) fun i hi=>by
  rw[qk8 (by omega),if_pos (by omega),Nat.zero_add]
 unfold z4s oneT
 rw[e0,qf1 (z4r (qty n (lv (hexB n) 16 16) four) (qwo (hexB n)))]
 refine q02 fun j hj=> ?_
 have e1:lv (hexB n) (32+2*(j/4)) 2=(q0z 0).getD (j/4) 0:=z4y hl (by decide) (by decide) (qim 2) (by omega)
 rw[ze5 (qty _ _ _) (qwo _) hj,zhn _ (by omega),e1,q4l 0 (by omega),show y6 0*4+j%4=j%4 by simp]
 unfold palV
 split
 ·simp only[ye]
  rw[yg (by show j%4<4;omega)]
 ·simp only[ye]
  rw[yg (by show j%4<4;omega)]
theorem hexB_is{n:Int}(hn:0≤n∧n≤65535):qhb 600 n n (q0z 0)=some (hexB n,(0,())):=
 Join6_ok (by decide) hn hn (zb0 (by decide)) (qim 2)
def qy4(n:Int):List Int:=qgc 0 0 4 (q0z n)
theorem zeh{n:Int}(hn:0≤n∧n<16):zfm (qy4 n)=q0z (q1f 4 n):=by
 show tab 16 _=tab 16 _
 refine q02 fun i hi=> ?_
 have e1:lv (qy4 n) (0+4*i) 4=(q0z n).getD i 0:=z4y (low:=0) (by decide) (by decide) (by decide) (zb1 hn) hi
 rw[Nat.zero_add,q4l n hi]at e1
 rw[e1]
theorem zna{n:Int}(hn:0≤n∧n<16):q7t 600 (q0z n)=some (qy4 n,(0,())):=by
 have j1:=(zdf (F:=600) (by decide) (low:=0) (from_:=0) (each:=4) (w:=q0z n) (by decide) (by decide) (by decide) (zb0 (by omega))).1 (zb1 hn)
 simp only[yp,yq]at j1
 unfold q7t
 simp only[and_self,if_true,j1,y5,qy4]
def qfb(n:Int):List Int:=qgc (n+n*2^8) 16 3 (q0z 0)
theorem zgg(a b:Int):(qrr a b).getD 0 0=a:=by
 unfold qrr zlo zln
 split<;>rfl
theorem qke{n:Int}(hn:0≤n∧n≤255):qtx (qfb n)=q0z n:=by
 have hl:0≤n+n*2^8∧n+n*2^8<2^16:=by omega
 have e0:(qfb n).getD 0 0=n:=by
  rw[←lv_byte (b:=qfb n) (qgd _ _ _ _) 0]
  exact zeg hl (by decide) (by decide) (qim 3) (by decide) (by omega) fun i hi=>by
   rw[qk8 (by omega),if_pos (by omega),Nat.mul_zero,Nat.zero_add]
 show tab 16 _=tab 16 _
 refine q02 fun i hi=> ?_
 have e1:lv (qfb n) (16+3*i) 3=(q0z 0).getD i 0:=z4y hl (by decide) (by decide) (qim 3) hi
 have e2:(qig (qfb n)).getD i 0=0:=by
  unfold qig
  rw[q69 _ hi,e1,q4l 0 hi]
 rw[e0,e2]
 exact zgg _ _
theorem rampB_is{n:Int}(hn:0≤n∧n≤255):qj3 600 n n (q0z 0)=some (qfb n,(0,())):=by
 obtain⟨t1,t2,t3,t4⟩:=lowTwo (a:=n) (b:=n) (by omega) (by omega)
 have j1:=(zdf (F:=600) (by decide) (low:=n+n*2^8) (from_:=16) (each:=3) (w:=q0z 0) ⟨t2,t3⟩ (by decide) (by decide) (zb0 (by decide))).1 (qim 3)
 simp only[yp]at j1
 have c1:¬n<0:=by omega
 have c2:¬255<n:=by omega
 unfold qj3
 simp only[c1,c2,decide_false,cond_false,and_self,if_true,t1,j1,y5,qfb]
def sixB(w:List Int)(bit:Int):List Int:=sL (w++w) [bit,bit] (q0z 0) 26
theorem dbl_get{w:List Int}(hl:w.length=4){c:Nat}(hc:c<4):(w++w).getD c 0=w.getD c 0∧(w++w).getD (4+c) 0=w.getD c 0:=by
 simp only[ye]
 rw[yg (by omega),w7 (by omega),hl,show 4+c-4=c by omega]
 exact⟨rfl,rfl⟩
theorem znb{w:List Int}(hl:w.length=4)(hw:Rg 127 w){bit:Int}(hb:0≤bit∧bit≤1):okU (w++w) [bit,bit] (q0z 0) 26=true:=by
 unfold okU
 rw[List.all_eq_true]
 intro t ht
 have ht:=List.mem_range.1 ht
 have key:0≤sV (w++w) [bit,bit] (q0z 0) t∧sV (w++w) [bit,bit] (q0z 0) t<2^sN t:=by
  unfold sV sN
  by_cases h8:t<8
  ·rw[if_pos h8,if_pos h8]
   have hr:=q38 hw hw (t%2*4+t/2)
   omega
  rw[if_neg h8,if_neg h8]
  by_cases h10:t<10
  ·rw[if_pos h10,if_pos h10]
   have:t=8∨t=9:=by omega
   rcases this with rfl|rfl
   ·show 0≤bit∧bit<2^1
    omega
   ·show 0≤bit∧bit<2^1
    omega
  rw[if_neg h10,if_neg h10,q4l 0 (by omega)]
  split<;>decide
 simpa[okS,okV]using key
theorem z7z{w:List Int}(hl:w.length=4)(hw:Rg 127 w){bit:Int}(hb:0≤bit∧bit≤1):qgf (sixB w bit)=oneT fun c=>2*w.getD c 0+bit:=by
 have h1:=six_dec (znb hl hw hb)
 have h2:=qws (b:=sixB w bit) (q8k _ _ _ qf3 26) (zht _ _ _)
 unfold sixB at h2
 rw[h1]at h2
 have h3:=(Prod.mk.inj (Option.some.inj h2)).1
 unfold sixB
 rw[←h3]
 unfold oneT
 refine q02 fun j hj=> ?_
 have hc:j%4<4:=by omega
 have hg:=hw (j%4)
 have e1:endV (w++w) [bit,bit] (j%4)=2*w.getD (j%4) 0+bit:=by
  unfold endV
  rw[(dbl_get hl hc).1,show j%4/4=0 by omega,wa (by omega) (by omega)]
  show 2*w.getD (j%4) 0+bit%2=_
  omega
 rw[e1,q4l 0 (by omega),mx_first]
theorem zi8{x:Int}(h: -9223372036854775808≤x∧x≤9223372036854775807):IntKind.i64.has x:=has_iff.2 h
theorem sixB_is{w:List Int}(hl:w.length=4)(hw:Rg 127 w){bit:Int}(hb:0≤bit∧bit≤1):qap 600 (w++w) [bit,bit] (q0z 0)=some (sixB w bit,(0,())):=by
 have hok:=znb hl hw hb
 have h1:=Six_both (ends:=w++w) (more:=[bit,bit]) (which:=q0z 0) (fun x hx=> ?_) (fun x hx=> ?_) (fun x hx=> ?_)
 ·rw[h1,if_pos hok]
  rfl
 ·obtain⟨i,hi,rfl⟩:=List.getElem_of_mem hx
  have hr:=q38 hw hw i
  rw[ye,yj hi]at hr
  simp only[Option.getD_some]at hr
  exact zi8 (by omega)
 ·simp only[yr,List.not_mem_nil,or_false,or_self]at hx
  exact zi8 (by omega)
 ·obtain⟨i,_,rfl⟩:=List.mem_map.1 hx
  exact zi8 (by omega)
def zgh(A:List Int):List Int:=qii true false A [0,0,0] [0,0] (q0z 0)
theorem zi9{A:List Int}(hA:Rg 31 A):Ok10 true A [0,0,0] [0,0] (q0z 0):=by
 refine⟨fun c hc=> ?_,fun i hi=> ?_,by decide,by decide⟩
 ·have:=hA c
  have:c=0∨c=1∨c=2:=by omega
  rcases this with rfl|rfl|rfl<;>exact⟨hA _,by decide⟩
 ·rw[q4l 0 hi]
  decide
theorem zgi{A:List Int}(hl:A.length=3)(hA:Rg 31 A):zji (zgh A)=oneT fun c=>if c=3 then 255 else q33 (q1f 5 (A.getD c 0)+2):=by
 have h:=eP_join (f:=false) (zi9 hA) hl rfl rfl (que 0)
 have e:zji (zgh A)=qct true false A [0,0,0] [0,0] (q0z 0):=by
  unfold eP at h
  simp only[ym]at h
  obtain⟨h1,h2,h3,h4,h5,h6,_⟩:=h
  unfold zji zgh
  rw[h5,h6,h3,h4,h1,h2]
 rw[e,qf1 (qrw true false A [0,0,0] [0,0] (q0z 0))]
 unfold oneT
 refine q02 fun j hj=> ?_
 rw[←zn4,show((qct true false A [0,0,0] [0,0] (q0z 0)).drop (j/4*4)).take 4=zdr (q1b true A [0,0,0]) [0,0] (q0z 0) false (j/4)from qoc _ (fun _ _=>rfl) (by omega)]
 have hh:=qu1 false ((j/4:Nat):Int)
 have ha:zfw [0,0] (q0z 0) false (j/4)=2:=by
  unfold zfw
  rw[q4l 0 (by omega)]
  have:q3g false ((j/4:Nat):Int)=0∨q3g false ((j/4:Nat):Int)=1:=by omega
  rcases this with h0|h0<;>rw[h0]<;>rfl
 have hz:∀x:Int,x+0=x:=Int.add_zero
 unfold zdr
 rw[ha]
 have hc:j%4=0∨j%4=1∨j%4=2∨j%4=3:=by omega
 have hs:q3g false ((j/4:Nat):Int)=0∨q3g false ((j/4:Nat):Int)=1:=by omega
 rcases hs with h0|h0
 ·rcases hc with h4|h4|h4|h4<;>rw[h4,h0]<;>rfl
 ·have b0:n10 true A [0,0,0] 0=A.getD 0 0:=hz _
  have b1:n10 true A [0,0,0] 1=A.getD 1 0:=hz _
  have b2:n10 true A [0,0,0] 2=A.getD 2 0:=hz _
  unfold q1b
  rw[b0,b1,b2]
  rcases hc with h4|h4|h4|h4<;>rw[h4,h0]<;>rfl
theorem liftB_is{A:List Int}(hA:Rg 31 A):qe9 600 (true,(false,(A,([0,0,0],([0,0],(q0z 0,()))))))=some (zgh A,(0,())):=by
 have h0:∀l:List Int,Rg 31 l→Is64 l:=fun l hl i=>zi8 (by have:=hl i;omega)
 have h1:Rg 31 [0,0,0]:=q0i (by decide) (q0i (by decide) (q0i (by decide) (qok (by decide))))
 have h2:Rg 31 [0,0]:=q0i (by decide) (q0i (by decide) (qok (by decide)))
 have h3:Rg 31 (q0z 0):=q7c (by decide) fun _ _=>by decide
 have h4:=zmf (F:=600) (by decide) true false (h0 _ hA) (h0 _ h1) (h0 _ h2) (h0 _ h3)
 rw[h4,if_pos (zi9 hA)]
 rfl
end Go.AE.Gn
set_option linter.unusedSimpArgs false
set_option linter.unusedVariables false
namespace Go.AE.Gn
open Go Go.AE
theorem znc{x:Int}(h:0≤x∧x≤255):q33 x=x:=by unfold q33;omega
theorem zjy(x y z:Int)(c:Nat):0≤(qa7 x y z).getD c 0∧(qa7 x y z).getD c 0≤255:=
 (q0i (q0n (by decide) _) (q0i (q0n (by decide) _) (q0i (q0n (by decide) _) (q0i (by decide) (qok (by decide)))))) c
theorem zjz{o:List Int}(ho:∀c,0≤o.getD c 0∧o.getD c 0≤255)(h3:o.getD 3 0=255)(j:Nat):q40 o o o j=o.getD (j%4) 0:=by
 unfold q40 qls
 split
 ·rename_i h
  rw[h,h3]
 ·rw[Int.sub_self,Int.mul_zero,Int.mul_zero,Int.add_zero,Int.zero_add]
  have:=ho (j%4)
  rw[show(4*o.getD (j%4) 0+2)/4=o.getD (j%4) 0 by omega,znc this]
theorem znd{n:List Int}(h:ok3 n)(p:Bool):tab 64 (qpu (layV n n n) p)=oneT fun c=>(qa7 (n.getD 0 0) (n.getD 1 0) (n.getD 2 0)).getD c 0:=by
 unfold oneT
 refine q02 fun j hj=> ?_
 rw[lay_dec]
 unfold qww
 obtain⟨h1,h2,h3⟩:=zg8 (o:=n) (h:=n) (v:=n) ⟨h,h,h⟩
 rw[h1,h2,h3,zjz (zjy _ _ _) rfl]
theorem layB_is{x y z:Int}(h:ok3 [x,y,z]):qhd 600 [x,y,z] [x,y,z] [x,y,z]=some (layV [x,y,z] [x,y,z] [x,y,z],(0,())):=by
 obtain⟨⟨a1,a2⟩,⟨b1,b2⟩,⟨c1,c2⟩⟩:=h
 simp only[yt,yu]at a1 a2 b1 b2 c1 c2
 have r:Rg 127 [x,y,z]:=q0i (by omega) (q0i (by omega) (q0i (by omega) (qok (by decide))))
 have h64:∀i,I64 (([x,y,z]++([x,y,z]++[x,y,z])).getD i 0):=fun i=>by
  have:=q38 r (q38 r r) i
  unfold I64
  omega
 have hk:ok3 [x,y,z]:=⟨⟨a1,a2⟩,⟨b1,b2⟩,⟨c1,c2⟩⟩
 rw[(lay_is rfl rfl rfl h64).1,if_pos ⟨hk,hk,hk⟩]
theorem table0:q5r 600 0=some ([-3,-6,-9,-15,2,5,8,14],()):=by kernel_rfl
theorem table13:q5r 600 13=some ([-1,-2,-3,-10,0,1,2,9],()):=by kernel_rfl
theorem qoo{base times table n:Int}(h1:0≤base∧base≤255)(h2:0≤times∧times≤15)(h3:0≤table∧table≤15)(h4:0≤n∧n≤7):EacFit base times table (q0z n):=
 ⟨h1,h2,h3,que n,fun i hi=>by rw[q4l n hi];exact h4⟩
theorem z80{base times table n:Int}(h1:0≤base∧base≤255)(h2:0≤times∧times≤15)(h3:0≤table∧table≤15)(h4:0≤n∧n≤7):
  hv (eacJ base times table (q0z n) 19) 0 8=base∧hv (eacJ base times table (q0z n) 19) 8 4=times∧hv (eacJ base times table (q0z n) 19) 12 4=table∧∀i,i<16→(eacW (eacJ base times table (q0z n) 19)).getD i 0=n:=by
 have hf:=qoo h1 h2 h3 h4
 refine⟨zas hf (j:=0) (by decide),zas hf (j:=1) (by decide),zas hf (j:=2) (by decide),fun i hi=> ?_⟩
 rw[zi3 _ hi]
 have:=zas hf (j:=i+3) (by omega)
 rw[show eacV base times table (q0z n) (i+3)=(q0z n).getD i 0 from rfl,q4l n hi]at this
 exact this
theorem zk0{n:Int}(h:0≤n∧n≤255):eacL (eacJ n 0 0 (q0z 0) 19) false=q0z n:=by
 obtain⟨p1,p2,p3,p4⟩:=z80 (base:=n) (times:=0) (table:=0) (n:=0) h (by decide) (by decide) (by decide)
 unfold eacL
 rw[p1,p2,p3,table0]
 show tab 16 _=tab 16 _
 refine q02 fun i hi=> ?_
 rw[p4 i hi]
 unfold qoj
 simp only[yn,if_false,Int.mul_zero,Int.add_zero]
 omega
theorem z4z{n:Int}(h:0≤n∧n≤255):eacL (eacJ n 1 13 (q0z 4) 19) true=q0z (8*n+4):=by
 obtain⟨p1,p2,p3,p4⟩:=z80 (base:=n) (times:=1) (table:=13) (n:=4) h (by decide) (by decide) (by decide)
 unfold eacL
 rw[p1,p2,p3,table13]
 show tab 16 _=tab 16 _
 refine q02 fun i hi=> ?_
 rw[p4 i hi,show([-1,-2,-3,-10,0,1,2,9]:List Int).getD (y6 4) 0=0 from rfl]
 unfold qoj
 rw[if_pos rfl,if_neg (by decide),Int.zero_mul,Int.add_zero]
 omega
def zb2:List Int:=[0,0,0,0,255,255,0,0]
theorem z50:Bytes zb2:=fun x hx=>by
 unfold zb2 at hx
 simp only[yr,List.not_mem_nil,or_false]at hx
 omega
theorem zb3:q4f 600 9 zb2=some (tab 64 fun _=>0,(0,())):=by kernel_rfl
theorem zgj:tab 64 (qpu zb2 true)=oneT fun _=>0:=by
 have h:=qs0 z50 (k:=9) ⟨by decide,by decide⟩ rfl
 simp only[yp]at h
 rw[zb3]at h
 exact(Prod.mk.inj (Option.some.inj h)).1.symm
def bN(L s:List Int)(c:Nat):Int:=(qom L (colT s c):Int)
theorem quf{L:List Int}(h:0<L.length)(s:List Int)(c:Nat):0≤bN L s c∧bN L s c<(L.length:Int):=by
 have:=zay (L:=L) (l:=colT s c) h
 unfold bN
 omega
theorem zne(b:Nat):(lvW b).length=2^b:=q0j _ _
theorem z51:lvP.length=256:=q0j _ _
theorem z52(bit:Int):(lvS bit).length=128:=q0j _ _
theorem znf:lvL.length=32:=q0j _ _
theorem zng:lvF.length=256:=q0j _ _
theorem bN_W{b:Nat}(hb:1≤b∧b≤8)(s:List Int)(c:Nat):0≤bN (lvW b) s c∧bN (lvW b) s c<((2^b:Nat):Int):=by
 have:=quf (L:=lvW b) (by rw[zne];have:=pow_b hb;omega) s c
 rwa [zne]at this
theorem bN_P(s:List Int)(c:Nat):0≤bN lvP s c∧bN lvP s c≤255:=by
 have:=quf (L:=lvP) (by rw[z51];decide) s c
 rw[z51]at this
 omega
theorem bN_S(bit:Int)(s:List Int)(c:Nat):0≤bN (lvS bit) s c∧bN (lvS bit) s c≤127:=by
 have:=quf (L:=lvS bit) (by rw[z52];decide) s c
 rw[z52]at this
 omega
theorem bN_L(s:List Int)(c:Nat):0≤bN lvL s c∧bN lvL s c≤31:=by
 have:=quf (L:=lvL) (by rw[znf];decide) s c
 rw[znf]at this
 omega
theorem bN_F(s:List Int)(c:Nat):0≤bN lvF s c∧bN lvF s c≤255:=by
 have:=quf (L:=lvF) (by rw[zng];decide) s c
 rw[zng]at this
 omega
def hexN(s:List Int):Int:=bN (lvW 5) s 0*2048+bN (lvW 6) s 1*32+bN (lvW 5) s 2
theorem qpb(s:List Int):0≤hexN s∧hexN s≤65535:=by
 have h0:=bN_W (b:=5) (by decide) s 0
 have h1:=bN_W (b:=6) (by decide) s 1
 have h2:=bN_W (b:=5) (by decide) s 2
 unfold hexN
 omega
theorem hex_or{a b c:Int}(ha:0≤a∧a<32)(hb:0≤b∧b<64)(hc:0≤c∧c<32):ior .i64 (ior .i64 (ishl .i64 a 11) (ishl .i64 b 5)) c=a*2048+b*32+c:=by
 obtain⟨a,rfl⟩:=yh ha.1
 obtain⟨b,rfl⟩:=yh hb.1
 obtain⟨c,rfl⟩:=yh hc.1
 have s1:=ishl64 (a:=a) (k:=11) (by decide) (by omega)
 have s2:=ishl64 (a:=b) (k:=5) (by decide) (by omega)
 have o1:=ior64 (a:=a) (b:=b*2^5) (k:=11) (by omega) (by omega)
 have o2:=ior64 (a:=a*2^6+b) (b:=c) (k:=5) (by omega) (by omega)
 simp only[yp]at s1 s2
 rw[s1,s2,o1,show a*2^11+b*2^5=(a*2^6+b)*2^5 by omega,o2]
 omega
section
variable {t:List Int} (hl:t.length=64) (ht:Rg 2047 t)
include hl ht
theorem zb4:qp2 600 t=some (hexB (hexN t),()):=by
 have h0:=qf7 hl ht (c:=0) (by decide) (b:=5) (by decide)
 have h1:=qf7 hl ht (c:=1) (by decide) (b:=6) (by decide)
 have h2:=qf7 hl ht (c:=2) (by decide) (b:=5) (by decide)
 simp only[yp,yq,Int.natCast_one]at h0 h1 h2
 have b0:=bN_W (b:=5) (by decide) t 0
 have b1:=bN_W (b:=6) (by decide) t 1
 have b2:=bN_W (b:=5) (by decide) t 2
 have e:=hex_or (a:=bN (lvW 5) t 0) (b:=bN (lvW 6) t 1) (c:=bN (lvW 5) t 2) ⟨b0.1,b0.2⟩ ⟨b1.1,b1.2⟩ ⟨b2.1,b2.2⟩
 have hj:=hexB_is (qpb t)
 have hs:=qdy 0
 unfold bN at e
 unfold q0z at hj
 unfold qp2
 simp only[h0,h1,h2,y5,e,hs]
 have en:(qom (lvW 5) (colT t 0):Int)*2048+(qom (lvW 6) (colT t 1):Int)*32+(qom (lvW 5) (colT t 2):Int)=hexN t:=rfl
 rw[en,hj]
 simp only[y5]
theorem qug{c:Nat}(hc:c<4):qeh 600 t c=some (qfb (bN lvP t c),()):=by
 have h0:=z7y hl ht hc
 have hs:=qdy 0
 have hj:=rampB_is (bN_P t c)
 unfold q0z bN at hj
 unfold qeh
 simp only[h0,y5,hs,hj]
 rfl
theorem z53{c:Nat}(hc:c<4):qdv 600 t c=some (eacJ (bN lvF t c) 1 13 (q0z 4) 19,()):=by
 have h0:=zn9 hl ht hc
 have hs:=qdy 4
 have hj:=zn2 (F:=600) (by decide) (qoo (base:=bN lvF t c) (times:=1) (table:=13) (n:=4) (by have:=bN_F t c;omega) (by decide) (by decide) (by decide))
 unfold q0z bN at hj
 unfold qdv
 simp only[h0,y5,hs,hj]
 rfl
def plN(s:List Int):List Int:=[bN (lvW 6) s 0,bN (lvW 7) s 1,bN (lvW 6) s 2]
omit hl ht in
theorem plN_ok(s:List Int):ok3 (plN s):=by
 have b0:=bN_W (b:=6) (by decide) s 0
 have b1:=bN_W (b:=7) (by decide) s 1
 have b2:=bN_W (b:=6) (by decide) s 2
 exact⟨⟨b0.1,b0.2⟩,⟨b1.1,b1.2⟩,⟨b2.1,b2.2⟩⟩
def plB(s:List Int):List Int:=layV (plN s) (plN s) (plN s)
theorem qs1:qau 600 t=some (plB t,()):=by
 have h0:=qf7 hl ht (c:=0) (by decide) (b:=6) (by decide)
 have h1:=qf7 hl ht (c:=1) (by decide) (b:=7) (by decide)
 have h2:=qf7 hl ht (c:=2) (by decide) (b:=6) (by decide)
 simp only[yp,yq,Int.natCast_one]at h0 h1 h2
 have hj:=layB_is (plN_ok t)
 unfold bN at hj
 unfold qau
 simp only[h0,h1,h2,y5,hj]
 rfl
theorem zei(A T S U:List Int)(hA:A.length=3):q4r 600 600 t A T S U 0=some (tab 3 fun c=>bN lvL t c,(T,(S,(U,())))):=by
 refine qa5 3 (fun c=>bN lvL t c) (fun k w i=>q4r 600 k t w T S U i) (fun w=>some (w,(T,(S,(U,()))))) ?_ ?_ A hA 600 (by omega)
 ·intro k i w hi hw
  show q9p 600 (q4r 600 k) _ _ _ _ _ _=_
  unfold q9p
  have h3:(i:Int)<3:=by omega
  simp only[h3,decide_true,cond_true,zjx hl ht (show i<4 by omega),y5,yc,yd,yb,q0o (show i<1000000000000 by omega)]
  rfl
 ·intro k w hw
  rfl
def liN(s:List Int):List Int:=tab 3 fun c=>bN lvL s c
theorem zgk:qjj 600 t=some (zgh (liN t),()):=by
 have hj:=liftB_is (A:=liN t) (q7c (by decide) fun c _=>bN_L t c)
 unfold qjj
 rw[zei hl ht _ _ _ _ rfl]
 simp only[y5]
 rw[show q89=q0z 0 from rfl,show(tab 3 fun c=>bN lvL t c)=liN t from rfl,hj]
 simp only[y5]
theorem znh(bit:Int)(hb:0≤bit∧bit≤1)(A:List Int)(hA:A.length=4):q4q 600 600 t bit A 0=some (bit,(tab 4 fun c=>bN (lvS bit) t c,())):=by
 refine qa5 4 (fun c=>bN (lvS bit) t c) (fun k w i=>q4q 600 k t bit w i) (fun w=>some (bit,(w,()))) ?_ ?_ A hA 600 (by omega)
 ·intro k i w hi hw
  show q9o 600 (q4q 600 k) _ _ _ _=_
  unfold q9o
  have h3:(i:Int)<4:=by omega
  simp only[h3,decide_true,cond_true,sixb_is hl ht (show i<4 by omega) hb,y5,yc,yd,yb,q0o (show i<1000000000000 by omega)]
  rfl
 ·intro k w hw
  rfl
def siN(bit:Int)(s:List Int):List Int:=tab 4 fun c=>bN (lvS bit) s c
theorem zia{bit:Int}(hb:0≤bit∧bit≤1):qei 600 bit t=some (sixB (siN bit t) bit,()):=by
 have hj:=sixB_is (w:=siN bit t) (q0j _ _) (q7c (by decide) fun c _=>bN_S bit t c) hb
 have hs:=qdy 0
 unfold qei
 rw[znh hl ht bit hb _ rfl]
 simp only[y5]
 rw[hs]
 simp only[y5]
 rw[show(tab 16 fun _=>(0:Int))=q0z 0 from rfl,show(tab 4 fun c=>bN (lvS bit) t c)=siN bit t from rfl,hj]
 simp only[y5]
end
end Go.AE.Gn
set_option linter.unusedSimpArgs false
set_option linter.unusedVariables false
namespace Go.AE.Gn
open Go Go.AE
theorem zej{t:List Int}(hl:t.length=64){i:Nat}(hi:i<16):∀(d c k:Nat),c+d=4→d<k→
  q4g 600 k t (i:Int) (y8 4 (y9 (i*4) t)) (c:Int)=some (.inl ())∨(q4g 600 k t (i:Int) (y8 4 (y9 (i*4) t)) (c:Int)=some (.inr (t,((i:Int),())))∧∀c',c≤c' →c' <4→0≤t.getD (i*4+c') 0∧t.getD (i*4+c') 0≤255):=by
 intro d
 induction d with
 |zero=>
  intro c k h1 h2
  obtain⟨k,rfl⟩:∃k',k=k' +1:=⟨k-1,by omega⟩
  obtain rfl:c=4:=by omega
  exact .inr ⟨rfl,fun c' h h' =>by omega⟩
 |succ d ih=>
  intro c k h1 h2
  obtain⟨k,rfl⟩:∃k',k=k' +1:=⟨k-1,by omega⟩
  have e:q4g 600 (k+1) t (i:Int) (y8 4 (y9 (i*4) t)) (c:Int)=qbh 600 (q4g 600 k) t i (y8 4 (y9 (i*4) t)) c:=rfl
  rw[e]
  unfold qbh
  have h4:(c:Int)<4:=by omega
  simp only[h4,decide_true,cond_true,yc,yd,yb,q0o (show c<1000000000000 by omega),z4x hl hi (show c<4 by omega)]
  by_cases v1:t.getD (i*4+c) 0<0
  ·left
   simp only[v1,decide_true,cond_true]
  ·simp only[v1,decide_false,cond_false]
   by_cases v2:255<t.getD (i*4+c) 0
   ·left
    simp only[v2,decide_true,cond_true]
   ·simp only[v2,decide_false,cond_false]
    rcases ih (c+1) k (by omega) (by omega)with h|⟨h,h'⟩
    ·exact .inl h
    ·refine .inr ⟨h,fun c' g1 g2=> ?_⟩
     by_cases hc:c' =c
     ·subst hc;omega
     ·exact h' c' (by omega) g2
theorem zek{t:List Int}(hl:t.length=64):∀(d i k:Nat),i+d=16→d<k→
  q4h 600 k t (i:Int)=some (.inl ())∨(q4h 600 k t (i:Int)=some (.inr ())∧∀j,i*4≤j→j<64→0≤t.getD j 0∧t.getD j 0≤255):=by
 intro d
 induction d with
 |zero=>
  intro i k h1 h2
  obtain⟨k,rfl⟩:∃k',k=k' +1:=⟨k-1,by omega⟩
  obtain rfl:i=16:=by omega
  exact .inr ⟨rfl,fun j h h' =>by omega⟩
 |succ d ih=>
  intro i k h1 h2
  obtain⟨k,rfl⟩:∃k',k=k' +1:=⟨k-1,by omega⟩
  have e:q4h 600 (k+1) t (i:Int)=qbi 600 (q4h 600 k) t i:=rfl
  rw[e]
  unfold qbi
  have h3:(i:Int)<16:=by omega
  simp only[h3,decide_true,cond_true,yc,yd,yb]
  rcases zej hl (i:=i) (by omega) 4 0 600 (by omega) (by omega)with h|⟨h,h'⟩
  ·left
   rw[show((0:Nat):Int)=0 from rfl]at h
   rw[h]
   rfl
  ·rw[show((0:Nat):Int)=0 from rfl]at h
   rw[h]
   simp only[y5,q0o (show i<1000000000000 by omega)]
   rcases ih (i+1) k (by omega) (by omega)with g|⟨g,g'⟩
   ·exact .inl g
   ·refine .inr ⟨g,fun j h1 h2=> ?_⟩
    by_cases hj:j<(i+1)*4
    ·have:=h' (j-i*4) (by omega) (by omega)
     rwa [show i*4+(j-i*4)=j by omega]at this
    ·exact g' j (by omega) h2
theorem zb5{t:List Int}(hl:t.length=64):(q67 600 t=some (true,())∧Rg 255 t)∨q67 600 t=some (false,()):=by
 unfold q67
 rcases zek hl 16 0 600 (by omega) (by omega)with h|⟨h,h'⟩
 ·right
  rw[show((0:Nat):Int)=0 from rfl]at h
  rw[h]
  rfl
 ·left
  rw[show((0:Nat):Int)=0 from rfl]at h
  rw[h]
  refine⟨rfl,fun j=> ?_⟩
  by_cases hj:j<64
  ·exact h' j (by omega) hj
  ·rw[z4q (by omega)]
   decide
def z6v(k:Nat)(s a b:List Int):List Int:=if qfa k b s<qfa k a s then b else a
theorem zni{k:Nat}(h:Fmt k){s a b:List Int}(hl:s.length=64)(hs:Rg 255 s)(ha:Bytes a)(hb:Bytes b)(la:a.length=q7f k)(lb:b.length=q7f k):qej 600 k s a b=some (z6v k s a b,()):=by
 unfold qej z6v
 rw[qx1 ha h la hl hs,qx1 hb h lb hl hs]
 simp only[y5]
 by_cases hlt:qfa k b s<qfa k a s
 ·simp only[hlt,decide_true,cond_true,if_true]
 ·simp only[hlt,decide_false,cond_false,if_false]
def qcu(k:Nat)(s:List Int):List Int:=match k with
 |1=>hexB (hexN s)
 |2=>qy4 (bN (lvW 4) s 3)++hexB (hexN s)
 |3=>qfb (bN lvP s 3)++hexB (hexN s)
 |4=>qfb (bN lvP s 0)
 |5=>qfb (bN lvP s 0)++qfb (bN lvP s 1)
 |6=>z6v 6 s (sixB (siN 0 s) 0) (sixB (siN 1 s) 1)
 |7=>zgh (liN s)
 |8=>plB s
 |9=>z6v 9 s (plB s) zb2
 |10=>eacJ (bN lvP s 3) 0 0 (q0z 0) 19++plB s
 |11=>eacJ (bN lvF s 0) 1 13 (q0z 4) 19
 |_=>eacJ (bN lvF s 0) 1 13 (q0z 4) 19++eacJ (bN lvF s 1) 1 13 (q0z 4) 19
def Okb(n:Nat)(b:List Int):Prop:=Bytes b∧b.length=n
theorem z54{n m:Nat}{a b:List Int}(ha:Okb n a)(hb:Okb m b):Okb (n+m) (a++b):=
 ⟨fun x hx=>(yk.1 hx).elim (ha.1 x) (hb.1 x),by rw[yo,ha.2,hb.2]⟩
theorem zib{n k:Nat}{s a b:List Int}(ha:Okb n a)(hb:Okb n b):Okb n (z6v k s a b):=by
 unfold z6v
 split
 ·exact hb
 ·exact ha
theorem qs2(n:Int):Okb 8 (hexB n):=⟨qgd _ _ _ _,qwl _ _ _ _⟩
theorem quh(n:Int):Okb 8 (qy4 n):=⟨qgd _ _ _ _,qwl _ _ _ _⟩
theorem q8c(n:Int):Okb 8 (qfb n):=⟨qgd _ _ _ _,qwl _ _ _ _⟩
theorem qgg(w:List Int)(bit:Int):Okb 16 (sixB w bit):=⟨q8k _ _ _ qf3 26,zht _ _ _⟩
theorem znj(A:List Int):Okb 8 (zgh A):=⟨zdu _ _ _ _ _ _,zjk _ _ _ _ _ _⟩
theorem z55(s:List Int):Okb 8 (plB s):=zg6 _ _ _
theorem z0q(a b c:Int)(w:List Int):Okb 8 (eacJ a b c w 19):=⟨zjv _ _ _ _,qdk _ _ _ _⟩
theorem bareB_ok:Okb 8 zb2:=⟨z50,rfl⟩
theorem z0r(s:List Int){k:Nat}(h:Fmt k):Okb (q7f k) (qcu k s):=
 qik (p:=fun k=>Okb (q7f k) (qcu k s)) (qs2 _) (z54 (quh _) (qs2 _)) (z54 (q8c _) (qs2 _)) (q8c _) (z54 (q8c _) (q8c _)) (zib (qgg _ _) (qgg _ _)) (znj _) (z55 _)
  (zib (z55 _) bareB_ok) (z54 (z0q _ _ _ _) (z55 _)) (z0q _ _ _ _) (z54 (z0q _ _ _ _) (z0q _ _ _ _)) h
section
variable {t:List Int} (hl:t.length=64)
include hl
theorem blk_1(ht:Rg 255 t):q0g 600 1 t=some (qcu 1 t,()):=by
 have h:=zb4 hl (q2j ht (by decide))
 unfold q0g
 simp only[Int.reduceBEq,cond_false,h,y5]
 rfl
theorem blk_2(ht:Rg 255 t):q0g 600 2 t=some (qcu 2 t,()):=by
 have h:=zb4 hl (q2j ht (by decide))
 have h1:=qf7 hl (q2j ht (by decide)) (c:=3) (by decide) (b:=4) (by decide)
 have h2:=zna (n:=bN (lvW 4) t 3) (bN_W (b:=4) (by decide) t 3)
 simp only[yp]at h1
 unfold q0z bN at h2
 unfold q0g
 simp only[Int.reduceBEq,cond_true,h1,qdy,h2,h,y5,(quh _).2,(qs2 _).2,show(8+8≤1099511627776)=True by simp,decide_true,yd]
 rfl
theorem blk_3(ht:Rg 255 t):q0g 600 3 t=some (qcu 3 t,()):=by
 have h:=zb4 hl (q2j ht (by decide))
 have h1:=qug hl (q2j ht (by decide)) (c:=3) (by decide)
 simp only[yp]at h1
 unfold q0g
 simp only[Int.reduceBEq,cond_true,cond_false,h1,h,y5,(q8c _).2,(qs2 _).2,show(8+8≤1099511627776)=True by simp,decide_true,yd]
 rfl
theorem blk_4(ht:Rg 255 t):q0g 600 4 t=some (qcu 4 t,()):=by
 have h1:=qug hl (q2j ht (by decide)) (c:=0) (by decide)
 simp only[yq]at h1
 unfold q0g
 simp only[Int.reduceBEq,cond_true,cond_false,h1,y5]
 rfl
theorem blk_5(ht:Rg 255 t):q0g 600 5 t=some (qcu 5 t,()):=by
 have h1:=qug hl (q2j ht (by decide)) (c:=0) (by decide)
 have h2:=qug hl (q2j ht (by decide)) (c:=1) (by decide)
 simp only[yq,Int.natCast_one]at h1 h2
 unfold q0g
 simp only[Int.reduceBEq,cond_true,cond_false,h1,h2,y5,(q8c _).2,show(8+8≤1099511627776)=True by simp,decide_true,yd]
 rfl
theorem blk_6(ht:Rg 255 t):q0g 600 6 t=some (qcu 6 t,()):=by
 have h1:=zia hl (q2j ht (by decide)) (bit:=0) (by decide)
 have h2:=zia hl (q2j ht (by decide)) (bit:=1) (by decide)
 have h3:=zni (k:=6) ⟨by decide,by decide⟩ hl ht (qgg (siN 0 t) 0).1 (qgg (siN 1 t) 1).1 (qgg (siN 0 t) 0).2 (qgg (siN 1 t) 1).2
 simp only[yp]at h3
 unfold q0g z8t
 simp only[Int.reduceBEq,cond_true,cond_false,h1,h2,h3,y5]
 rfl
theorem blk_7(ht:Rg 255 t):q0g 600 7 t=some (qcu 7 t,()):=by
 have h:=zgk hl (q2j ht (by decide))
 unfold q0g
 simp only[Int.reduceBEq,cond_true,cond_false,h,y5]
 rfl
theorem blk_8(ht:Rg 255 t):q0g 600 8 t=some (qcu 8 t,()):=by
 have h:=qs1 hl (q2j ht (by decide))
 unfold q0g
 simp only[Int.reduceBEq,cond_true,cond_false,h,y5]
 rfl
theorem blk_9(ht:Rg 255 t):q0g 600 9 t=some (qcu 9 t,()):=by
 have h:=qs1 hl (q2j ht (by decide))
 have h3:=zni (k:=9) ⟨by decide,by decide⟩ hl ht (z55 t).1 bareB_ok.1 (z55 t).2 bareB_ok.2
 simp only[yp]at h3
 unfold q0g
 rw[show qmw=zb2 from rfl]
 simp only[Int.reduceBEq,cond_true,cond_false,h,h3,y5]
 rfl
theorem blk_10(ht:Rg 255 t):q0g 600 10 t=some (qcu 10 t,()):=by
 have h:=qs1 hl (q2j ht (by decide))
 have h1:=z7y hl (q2j ht (by decide)) (c:=3) (by decide)
 have h2:=zn2 (F:=600) (by decide) (qoo (base:=bN lvP t 3) (times:=0) (table:=0) (n:=0) (bN_P t 3) (by decide) (by decide) (by decide))
 simp only[yp]at h1
 unfold q0z bN at h2
 unfold q0g
 simp only[Int.reduceBEq,cond_true,cond_false,h1,qdy,h2,h,y5,(z55 _).2,qdk,show(8+8≤1099511627776)=True by simp,decide_true,yd]
 rfl
theorem blk_11(ht:Rg 2047 t):q0g 600 11 t=some (qcu 11 t,()):=by
 have h1:=z53 hl ht (c:=0) (by decide)
 simp only[yq]at h1
 unfold q0g
 simp only[Int.reduceBEq,cond_true,cond_false,h1,y5]
 rfl
theorem blk_12(ht:Rg 2047 t):q0g 600 12 t=some (qcu 12 t,()):=by
 have h1:=z53 hl ht (c:=0) (by decide)
 have h2:=z53 hl ht (c:=1) (by decide)
 simp only[yq,Int.natCast_one]at h1 h2
 unfold q0g
 simp only[Int.reduceBEq,cond_true,cond_false,h1,h2,y5,qdk,show(8+8≤1099511627776)=True by simp,decide_true,yd]
 rfl
theorem blk_is{k:Nat}(h:Fmt k):Rg (qy3 k) t→q0g 600 k t=some (qcu k t,()):=
 qik (p:=fun k=>Rg (qy3 k) t→q0g 600 (k:Int) t=some (qcu k t,())) (fun h=>blk_1 hl h) (fun h=>blk_2 hl h) (fun h=>blk_3 hl h) (fun h=>blk_4 hl h) (fun h=>blk_5 hl h) (fun h=>blk_6 hl h) (fun h=>blk_7 hl h) (fun h=>blk_8 hl h) (fun h=>blk_9 hl h) (fun h=>blk_10 hl h) (fun h=>blk_11 hl h) (fun h=>blk_12 hl h) h
end
theorem zb6(f:Int){t:List Int}(hl:t.length=64):(∃e,e≠0∧q2i 600 f t=some ([],(e,())))∨(∃k,Fmt k∧f=(k:Int)∧Rg 255 t∧q2i 600 f t=some (qcu k (scT k t),(0,()))):=by
 by_cases h:1≤f∧f≤12
 ·obtain⟨k,hk,rfl⟩:=fmt_of h
  unfold q2i
  rw[zn6 600 hk]
  simp only[y5,bne_self_eq_false,cond_false]
  rcases zb5 hl with⟨h1,ht⟩|h1
  ·right
   refine⟨k,hk,rfl,ht, ?_⟩
   rw[h1]
   simp only[y5,Bool.not_true,cond_false,zax hk hl ht,blk_is (zn7 hl) hk (zi6 ht)]
  ·left
   refine⟨1,by decide, ?_⟩
   rw[h1]
   simp only[y5,Bool.not_false,cond_true]
 ·left
  refine⟨5,by decide, ?_⟩
  unfold q2i
  rw[Of_bad 600 h]
  rfl
end Go.AE.Gn
set_option linter.unusedSimpArgs false
set_option linter.unusedVariables false
namespace Go.AE.Gn
open Go Go.AE
theorem sqN(x:Int):0≤x*x:=(qub (m:=(x.natAbs:Int)) (by omega)).1
theorem costL_alike{n v:Int}:qpv (q0z n) v=0↔v=n:=by
 unfold qpv
 rw[z4t fun i _=>sqN _,que]
 constructor
 ·intro h
  have:=h 0 (by decide)
  rw[q4l n (by decide),zgc]at this
  omega
 ·intro h i hi
  rw[q4l n hi,h,Int.sub_self]
  rfl
theorem zel(l:List Int)(v:Int):0≤qpv l v:=by
 unfold qpv
 have key:∀n,0≤sumN (fun i=>(l.getD i 0-v)*(l.getD i 0-v)) n:=by
  intro n
  induction n with
  |zero=>exact Int.le_refl 0
  |succ n ih=>
   unfold sumN
   have:=sqN (l.getD n 0-v)
   omega
 exact key _
theorem z81{L:List Int}{n:Int}{i:Nat}(hi:i<L.length)(h:L.getD i 0=n):L.getD (qom L (q0z n)) 0=n:=by
 have h1:=bestV_le L (q0z n) hi
 rw[h,costL_alike.2 rfl]at h1
 have h2:=zel (q0z n) (L.getD (qom L (q0z n)) 0)
 exact costL_alike.1 (by omega)
theorem zic(v:Nat→Int){c:Nat}(hc:c<4):colT (oneT v) c=q0z (v c):=by
 unfold colT
 show tab 16 _=tab 16 _
 refine q02 fun i hi=> ?_
 rw[show oneT v=tab 64 fun j=>v (j%4)from rfl,q2b (show i*4+c<64 by omega),show(i*4+c)%4=c by omega]
theorem qx4{m:Int}(hm:0≤m){v:Nat→Int}(h:∀c,c<4→0≤v c∧v c≤m):Rg m (oneT v):=q7c hm fun j _=>h _ (by omega)
theorem six_is{bit:Int}(hb:0≤bit∧bit≤1)(s:List Int):qfa 6 (sixB (siN bit s) bit) s=errS 15 s (oneT fun c=>2*(siN bit s).getD c 0+bit):=by
 have h:=z7z (w:=siN bit s) (q0j _ _) (q7c (by decide) fun c _=>bN_S bit s c) hb
 show errS 15 s (qgf (sixB (siN bit s) bit))=_
 rw[h]
theorem zgl(bit:Int)(s:List Int){c:Nat}(hc:c<4):(siN bit s).getD c 0=bN (lvS bit) s c:=q2b hc
theorem znk{v:Nat→Int}(hv:∀c,c<4→0≤v c∧v c≤255){bit:Int}(hb:0≤bit∧bit≤1)(h:∀c,c<4→v c%2=bit):qfa 6 (sixB (siN bit (oneT v)) bit) (oneT v)=0:=by
 rw[six_is hb,ze9 (q2j (qx4 (by decide) hv) (by decide)) (q2j (qx4 (m:=255) (by decide) fun c hc=>by rw[zgl _ _ hc];have:=bN_S bit (oneT v) c;omega) (by decide))]
 intro j hj _
 have hc:j%4<4:=by omega
 rw[show(oneT v).getD j 0=v (j%4)from q2b hj,show(oneT fun c=>2*(siN bit (oneT v)).getD c 0+bit).getD j 0=2*(siN bit (oneT v)).getD (j%4) 0+bit from q2b hj,zgl _ _ hc]
 unfold bN
 rw[zic v hc]
 have h1:=hv _ hc
 have h2:=h _ hc
 have h3:=z81 (L:=lvS bit) (n:=v (j%4)) (i:=(v (j%4)/2).toNat) (by rw[z52];omega) (by
  unfold lvS
  rw[q2b (by omega)]
  omega)
 have h4:=zay (L:=lvS bit) (l:=q0z (v (j%4))) (by rw[z52];decide)
 rw[z52]at h4
 unfold lvS at h3⊢
 unfold lvS at h4
 rw[q2b h4]at h3
 exact h3.symm
theorem znl{k:Nat}{s a b:List Int}(h:qfa k a s=0∨qfa k b s=0)(ha:0≤qfa k a s)(hb:0≤qfa k b s):qfa k (z6v k s a b) s=0:=by
 unfold z6v
 split<;>omega
theorem qy5{k:Nat}(h:Fmt k){b s:List Int}(hb:Bytes b)(hs:Rg 255 s):0≤qfa k b s:=
 zgd (q2j (zi6 hs) (quc k)) (q2j (zi5 hb h) (quc k))
def z6w:List Int:=oneT fun c=>[7,1,2,3].getD c 0
def zb7:List Int:=oneT fun c=>[1,3,255,7].getD c 0
def mix14:List Int:=oneT fun c=>[1,2,255,7].getD c 0
theorem qin{p:Nat→Prop}(h0:p 0)(h1:p 1)(h2:p 2)(h3:p 3):∀c,c<4→p c:=fun c hc=>by
 have:c=0∨c=1∨c=2∨c=3:=by omega
 rcases this with rfl|rfl|rfl|rfl<;>assumption
theorem rg_red:Rg 255 z6w:=qx4 (by decide) (qin (by decide) (by decide) (by decide) (by decide))
theorem znm:Rg 255 zb7:=qx4 (by decide) (qin (by decide) (by decide) (by decide) (by decide))
theorem rg_mix:Rg 255 mix14:=qx4 (by decide) (qin (by decide) (by decide) (by decide) (by decide))
theorem fmt6:Fmt 6:=⟨by decide,by decide⟩
theorem alone14:qr9 600 [7,1,2,3]=some (z6w,()):=by kernel_rfl
theorem exl14:q5j 600 600 6 [1,3,255,7] q2q 0=some (6,(zb7,()))∧q5j 600 600 6 [1,2,255,7] q2q 0=some (6,(mix14,())):=by constructor<;>kernel_rfl
theorem byt14:q67 600 z6w=some (true,())∧q67 600 zb7=some (true,())∧q67 600 mix14=some (true,()):=by refine⟨?_, ?_, ?_⟩<;>kernel_rfl
theorem col14_0:qav 600 7 q2q=some ([2,2,2,255],(0,())):=by kernel_rfl
theorem z82{k:Nat}(hk:Fmt k){t:List Int}(hl:t.length=64)(ht:Rg 255 t)(hb:q67 600 t=some (true,())):q2i 600 k t=some (qcu k (scT k t),(0,())):=by
 unfold q2i
 rw[zn6 600 hk,hb]
 simp only[y5,bne_self_eq_false,cond_false,Bool.not_true,zax hk hl ht,blk_is (zn7 hl) hk (zi6 ht)]
theorem znn:q2i 600 4 z6w=some ([7,7,0,0,0,0,0,0],(0,())):=by
 have h:=z82 (k:=4) ⟨by decide,by decide⟩ (t:=z6w) (q0j _ _) rg_red byt14.1
 simp only[yp]at h
 rw[h]
 have e:scT 4 z6w=z6w:=rfl
 have e2:bN lvP z6w 0=7:=by
  unfold bN z6w
  rw[zic _ (by decide)]
  have h3:=z81 (L:=lvP) (n:=([7,1,2,3]:List Int).getD 0 0) (i:=7) (by rw[z51];decide) (by unfold lvP;rw[q2b (by decide)];rfl)
  have h4:=zay (L:=lvP) (l:=q0z (([7,1,2,3]:List Int).getD 0 0)) (by rw[z51];decide)
  rw[z51]at h4
  unfold lvP at h3 h4⊢
  rw[q2b h4]at h3
  exact h3
 rw[e]
 show some (qfb (bN lvP z6w 0),(0,()))=_
 rw[e2]
 have:qfb 7=[7,7,0,0,0,0,0,0]:=by decide+kernel
 rw[this]
theorem exact6{t x:List Int}(hl:t.length=64)(ht:Rg 255 t)(hb:q67 600 t=some (true,()))(hx:q5j 600 600 6 x q2q 0=some (6,(t,()))):qaw 600 6 x=some (qfa 6 (qcu 6 t) t==0,()):=by
 have h:=z82 fmt6 hl ht hb
 have h2:=qx1 (z0r t fmt6).1 fmt6 (z0r t fmt6).2 hl ht
 have e:scT 6 t=t:=rfl
 simp only[yp,e]at h h2
 unfold qaw
 rw[hx]
 simp only[y5,h,bne_self_eq_false,cond_false,h2]
theorem zno:qaw 600 6 [1,3,255,7]=some (true,()):=by
 rw[exact6 (t:=zb7) (q0j _ _) znm byt14.2.1 exl14.1]
 have h:=znl (k:=6) (s:=zb7) (a:=sixB (siN 0 zb7) 0) (b:=sixB (siN 1 zb7) 1) (.inr (znk (v:=fun c=>[1,3,255,7].getD c 0) (qin (by decide) (by decide) (by decide) (by decide)) (by decide) (qin rfl rfl rfl rfl))) (qy5 fmt6 (qgg _ _).1 znm) (qy5 fmt6 (qgg _ _).1 znm)
 have h2:qfa 6 (qcu 6 zb7) zb7=0:=h
 rw[h2]
 rfl
theorem zid{bit:Int}(hb:0≤bit∧bit≤1):qfa 6 (sixB (siN bit mix14) bit) mix14≠0:=by
 rw[six_is hb]
 intro h
 rw[ze9 (q2j rg_mix (by decide)) (q2j (qx4 (m:=255) (by decide) fun c hc=>by rw[zgl _ _ hc];have:=bN_S bit mix14 c;omega) (by decide))]at h
 have h0:=h 0 (by decide) rfl
 have h1:=h 1 (by decide) rfl
 rw[show(oneT fun c=>2*(siN bit mix14).getD c 0+bit).getD 0 0=2*(siN bit mix14).getD 0 0+bit from q2b (by decide),show mix14.getD 0 0=1 from rfl]at h0
 rw[show(oneT fun c=>2*(siN bit mix14).getD c 0+bit).getD 1 0=2*(siN bit mix14).getD 1 0+bit from q2b (by decide),show mix14.getD 1 0=2 from rfl]at h1
 omega
theorem znp:qaw 600 6 [1,2,255,7]=some (false,()):=by
 rw[exact6 (t:=mix14) (q0j _ _) rg_mix byt14.2.2 exl14.2]
 have h2:qfa 6 (qcu 6 mix14) mix14≠0:=by
  show qfa 6 (z6v 6 mix14 (sixB (siN 0 mix14) 0) (sixB (siN 1 mix14) 1)) mix14≠0
  unfold z6v
  split
  ·exact zid (by decide)
  ·exact zid (by decide)
 rw[beqF h2]
theorem awake14:qjl 600=some (true,()):=by
 have h0:q2i 600 0 q2q=some ([],(5,())):=by kernel_rfl
 unfold qjl
 rw[alone14]
 simp only[y5,znn,col14_0,h0,zno,znp]
 rfl
end Go.AE.Gn
set_option linter.unusedSimpArgs false
set_option linter.unusedVariables false
namespace Go.AE.Gn
open Go Go.AE
theorem zem{a b:List Int}(la:a.length=8):lo13 (a++b)=a:=by
 unfold lo13
 rw[←la,List.take_left]
theorem zen{a b:List Int}(la:a.length=8)(lb:b.length=8):hi13 (a++b)=b:=by
 unfold hi13
 rw[yo,la,lb,show 8+8-8=8 from rfl]
 conv=>lhs;rw[←la]
 rw[List.drop_left,List.take_of_length_le (by omega)]
theorem zie(v:Nat→Int){j:Nat}(hj:j<64):(oneT v).getD j 0=v (j%4):=q2b hj
theorem qui(c:Nat)(n:Int)(v:Nat→Int):wT c (q0z n) (oneT v)=oneT fun q=>if q=c then n else v q:=by
 unfold wT
 show tab 64 _=tab 64 _
 refine q02 fun j hj=> ?_
 rw[q4l n (show j/4<16 by omega),zie v hj]
theorem quj(a:Int):qf6 a=oneT fun q=>if q=3 then a else 0:=rfl
def hxC(s:List Int)(c:Nat):Int:=(colV (hexN s)).getD c 0
def plC(s:List Int)(c:Nat):Int:=(qa7 (bN (lvW 6) s 0) (bN (lvW 7) s 1) (bN (lvW 6) s 2)).getD c 0
def siC(bit:Int)(s:List Int)(c:Nat):Int:=2*(siN bit s).getD c 0+bit
def liC(s:List Int)(c:Nat):Int:=if c=3 then 255 else q33 (q1f 5 ((liN s).getD c 0)+2)
def b6(s:List Int):Prop:=qfa 6 (sixB (siN 1 s) 1) s<qfa 6 (sixB (siN 0 s) 0) s
def b9(s:List Int):Prop:=qfa 9 zb2 s<qfa 9 (plB s) s
instance (s:List Int):Decidable (b6 s):=by unfold b6;exact inferInstance
instance (s:List Int):Decidable (b9 s):=by unfold b9;exact inferInstance
def zk1(k:Nat)(s:List Int):Nat→Int:=match k with
 |1=>hxC s
 |2=>fun q=>if q=3 then q1f 4 (bN (lvW 4) s 3)else hxC s q
 |3=>fun q=>if q=3 then bN lvP s 3 else hxC s q
 |4=>fun q=>if q=0 then bN lvP s 0 else if q=3 then 255 else 0
 |5=>fun q=>if q=1 then bN lvP s 1 else if q=0 then bN lvP s 0 else if q=3 then 255 else 0
 |6=>if b6 s then siC 1 s else siC 0 s
 |7=>liC s
 |8=>plC s
 |9=>if b9 s then fun _=>0 else plC s
 |10=>fun q=>if q=3 then bN lvP s 3 else plC s q
 |11=>fun q=>if q=0 then 8*bN lvF s 0+4 else if q=3 then 2047 else 0
 |_=>fun q=>if q=1 then 8*bN lvF s 1+4 else if q=0 then 8*bN lvF s 0+4 else if q=3 then 2047 else 0
theorem znq(s:List Int)(p:Bool):tab 64 (qpu (plB s) p)=oneT (plC s):=znd (plN_ok s) p
theorem si_dec{bit:Int}(hb:0≤bit∧bit≤1)(s:List Int):qgf (sixB (siN bit s) bit)=oneT (siC bit s):=z7z (q0j _ _) (q7c (by decide) fun c _=>bN_S bit s c) hb
theorem dec_blk(s:List Int){k:Nat}(h:Fmt k):qil k (qcu k s)=oneT (zk1 k s):=by
 refine qik (p:=fun k=>qil k (qcu k s)=oneT (zk1 k s)) ?_ ?_ ?_ ?_ ?_ ?_ ?_ ?_ ?_ ?_ ?_ ?_ h
 ·exact qx3 (qpb s) false
 ·show wT 3 (zfm (lo13 (qy4 (bN (lvW 4) s 3)++hexB (hexN s)))) (z4s (hi13 (qy4 (bN (lvW 4) s 3)++hexB (hexN s))) true)=_
  rw[zem (quh _).2,zen (quh _).2 (qs2 _).2,zeh (bN_W (b:=4) (by decide) s 3),qx3 (qpb s) true,qui]
  rfl
 ·show wT 3 (qtx (lo13 (qfb (bN lvP s 3)++hexB (hexN s)))) (z4s (hi13 (qfb (bN lvP s 3)++hexB (hexN s))) true)=_
  rw[zem (q8c _).2,zen (q8c _).2 (qs2 _).2,qke (bN_P s 3),qx3 (qpb s) true,qui]
  rfl
 ·show wT 0 (qtx (lo13 (qfb (bN lvP s 0)))) (qf6 255)=_
  rw[lo13_8 (q8c _).2,qke (bN_P s 0),quj,qui]
  rfl
 ·show wT 1 (qtx (hi13 (qfb (bN lvP s 0)++qfb (bN lvP s 1)))) (wT 0 (qtx (lo13 (qfb (bN lvP s 0)++qfb (bN lvP s 1)))) (qf6 255))=_
  rw[zem (q8c _).2,zen (q8c _).2 (q8c _).2,qke (bN_P s 0),qke (bN_P s 1),quj,qui,qui]
  rfl
 ·show qgf (if b6 s then sixB (siN 1 s) 1 else sixB (siN 0 s) 0)=oneT (if b6 s then siC 1 s else siC 0 s)
  split
  ·exact si_dec (by decide) s
  ·exact si_dec (by decide) s
 ·exact zgi (q0j _ _) (q7c (by decide) fun c _=>bN_L s c)
 ·exact znq s false
 ·show tab 64 (qpu (if b9 s then zb2 else plB s) true)=oneT (if b9 s then fun _=>0 else plC s)
  split
  ·exact zgj
  ·exact znq s true
 ·show wT 3 (eacL (lo13 (eacJ (bN lvP s 3) 0 0 (q0z 0) 19++plB s)) false) (tab 64 (qpu (hi13 (eacJ (bN lvP s 3) 0 0 (q0z 0) 19++plB s)) false))=_
  rw[zem (qdk _ _ _ _),zen (qdk _ _ _ _) (z55 s).2,zk0 (bN_P s 3),znq,qui]
  rfl
 ·show wT 0 (eacL (lo13 (eacJ (bN lvF s 0) 1 13 (q0z 4) 19)) true) (qf6 2047)=_
  rw[lo13_8 (qdk _ _ _ _),z4z (bN_F s 0),quj,qui]
  rfl
 ·show wT 1 (eacL (hi13 (eacJ (bN lvF s 0) 1 13 (q0z 4) 19++eacJ (bN lvF s 1) 1 13 (q0z 4) 19)) true) (wT 0 (eacL (lo13 (eacJ (bN lvF s 0) 1 13 (q0z 4) 19++eacJ (bN lvF s 1) 1 13 (q0z 4) 19)) true) (qf6 2047))=_
  rw[zem (qdk _ _ _ _),zen (qdk _ _ _ _) (qdk _ _ _ _),z4z (bN_F s 0),z4z (bN_F s 1),quj,qui,qui]
  rfl
theorem z83(s:List Int){k:Nat}(h:Fmt k):q4f 600 (k:Int) (qcu k s)=some (oneT (zk1 k s),(0,())):=by
 rw[qs0 (z0r s h).1 h (z0r s h).2,dec_blk s h]
theorem znr(v:Nat→Int){i:Nat}(hi:i<16):y8 4 (y9 (i*4) (oneT v))=tab 4 v:=by
 have hl:(oneT v).length=64:=q0j _ _
 have h4:(y8 4 (y9 (i*4) (oneT v))).length=4:=by
  rw[List.length_take,List.length_drop,hl]
  omega
 rw[qf1 h4]
 refine q02 fun c hc=> ?_
 rw[z4x hl hi hc,zie v (by omega),show(i*4+c)%4=c by omega]
theorem zk2(v:Nat→Int):∀(d i k:Nat),i+d=16→d<k→q48 600 k true (oneT v) 0 (tab 4 v) 0 (i:Int)=some (.inr (true,(0,(0,())))):=by
 intro d
 induction d with
 |zero=>
  intro i k h1 h2
  obtain⟨k,rfl⟩:∃k',k=k' +1:=⟨k-1,by omega⟩
  obtain rfl:i=16:=by omega
  rfl
 |succ d ih=>
  intro i k h1 h2
  obtain⟨k,rfl⟩:∃k',k=k' +1:=⟨k-1,by omega⟩
  show q77 600 (q48 600 k) _ _ _ _ _ _=_
  unfold q77
  have h3:(i:Int)<16:=by omega
  simp only[h3,decide_true,cond_true,yc,yd,yb,znr v (show i<16 by omega),beq_self_eq_true,Bool.not_true,cond_false,q0o (show i<1000000000000 by omega)]
  exact ih (i+1) k (by omega) (by omega)
theorem zgm{t:List Int}{k:Nat}(h:Fmt k)(hB:q2i 600 (k:Int) t=some (qcu k (scT k t),(0,()))):qav 600 (k:Int) t=some (tab 4 (zk1 k (scT k t)),(0,())):=by
 have h1:=znr (zk1 k (scT k t)) (i:=0) (by decide)
 rw[Nat.zero_mul,List.drop_zero]at h1
 unfold qav
 rw[hB]
 simp only[y5,bne_self_eq_false,cond_false,z83 _ h,h1]
theorem law14_FlatOne_true(f:Int)(t:List Int)(_:IntKind.i64.has f)(ht:t.length=64∧∀x∈t,IntKind.i64.has x):∃F,qjm F f t=some (true,()):=by
 refine⟨600, ?_⟩
 unfold qjm
 rw[awake14]
 simp only[y5]
 rcases zb6 f ht.1 with⟨e,he,hB⟩|⟨k,hk,rfl,hr,hB⟩
 ·rw[hB]
  simp only[y5,bneT he,cond_true]
  rfl
 ·rw[hB]
  simp only[y5,bne_self_eq_false,cond_false,z83 _ hk,zgm hk hB]
  have h:=zk2 (zk1 k (scT k t)) 16 0 600 (by omega) (by omega)
  rw[show((0:Nat):Int)=0 from rfl]at h
  rw[h]
  rfl
end Go.AE.Gn

/- A part of the proof, put together of my texts: Pure11j, Pure12, Pure13b, Pure13c, Pure13d, Pure14a, Pure14b, Pure14c, Pure14d, Pure14e, Pure14g, Pure14f, Pure14h, Pure14i, Pure14j. -/
import Derived.Test.YtaogfbhifeobmaaGreatRowFlatAgainP6
set_option linter.unusedVariables false
set_option linter.unusedSimpArgs false
open List renaming mem_cons → yr, range → yz, getD_eq_getElem?_getD → ye, getElem?_eq_getElem → yj, length_append → yo, getD_cons_zero → yt, getD_cons_succ → yu, getElem?_eq_none → w8, take → y8, drop → y9, getElem?_append_left → yg, getElem?_append_right → w7, mem_append → yk
open Nat renaming le_refl → w9, add_assoc → wc
open Option renaming bind_some → y5
open Int renaming cast_ofNat_Int → yp, natCast_nonneg → yc, toNat_natCast → yb, natCast_zero → yq, eq_ofNat_of_zero_le → yh, tdiv → yw, natCast_pow → we, emod_eq_of_lt → wa, toNat → y6
open Bool renaming and_self → yd, and_eq_true → yl, false_eq_true → yn
open Go.IntKind renaming wrap → y0
open Prod.mk renaming injEq → ym
namespace Go.AE.Gn
open Go Go.AE
def Apart(K L:List Nat):Prop:=∀i,i<K.length→∀j,j<L.length→K.getD i 0≠L.getD j 0
instance:DecidableRel Apart:=fun K L=>by unfold Apart;exact inferInstance
theorem zb1{q:Nat}:∀(fs:List (List Nat×Int)) {c:List Int},Bytes c→c.length=8→(∀f∈fs,Pl f.1∧∀i,i<f.1.length→f.1.getD i 0≠q)→q09 (seqB c fs) q=q09 c q
 |[],c,_,_,_=>rfl
 |f::fs,c,hc,hl,h=>by
  have h1:=h f (List.mem_cons_self ..)
  exact(zb1 fs (q7f hc f.1 f.2) (by rw[qdq,hl]) fun g hg=>h g (List.mem_cons_of_mem _ hg)).trans (qai hc hl h1.1 f.2 h1.2)
theorem znk:∀(fs:List (List Nat×Int)) {c:List Int},Bytes c→c.length=8→(∀f∈fs,Pl f.1)→(fs.map (·.1)).Pairwise Apart→∀f∈fs,∀j,j<f.1.length→q09 (seqB c fs) (f.1.getD j 0)=f.2/2^(f.1.length-1-j)%2
 |[],_,_,_,_,_,f,hf,_,_=>by cases hf
 |g::fs,c,hc,hl,hp,hd,f,hf,j,hj=>by
  rw[List.map_cons,List.pairwise_cons]at hd
  have hg:=hp g (List.mem_cons_self ..)
  rcases yr.1 hf with rfl|hf
  ·refine(zb1 fs (q7f hc _ _) (by rw[qdq,hl]) fun k hk=>⟨hp k (List.mem_cons_of_mem _ hk),fun i hi he=> ?_⟩).trans (qsa hc hl hg _ hj)
   exact hd.1 k.1 (List.mem_map_of_mem hk) j hj i hi he.symm
  ·exact znk fs (q7f hc _ _) (by rw[qdq,hl]) (fun k hk=>hp k (List.mem_cons_of_mem _ hk)) hd.2 f hf j hj
def FL:List (List Nat):=[F1,F2,F3,F4,F5,F6,F7,F8,F9,[30]]
theorem FL_pl:∀L∈FL,Pl L:=by
 intro L hL
 simp only[FL,yr,List.not_mem_nil,or_false]at hL
 rcases hL with rfl|rfl|rfl|rfl|rfl|rfl|rfl|rfl|rfl|rfl
 ·exact P1
 ·exact P2
 ·exact P3
 ·exact P4
 ·exact P5
 ·exact P6
 ·exact P7
 ·exact P8
 ·exact P9
 ·exact P30
theorem FL_apart:FL.Pairwise Apart:=by decide+kernel
theorem FL_of(o h v:List Int):(fieldsOf o h v).map (·.1)=FL:=rfl
theorem z56(o h v:List Int):∀f∈fieldsOf o h v,Pl f.1:=fun f hf=>FL_pl f.1 (by rw[←FL_of o h v];exact List.mem_map_of_mem hf)
theorem znl(o h v:List Int){L:List Nat}{n:Int}(hf:(L,n)∈fieldsOf o h v){j:Nat}(hj:j<L.length):q09 (zAll o h v) (L.getD j 0)=n/2^(L.length-1-j)%2:=
 znk _ z13 rfl (z56 o h v) (by rw[FL_of];exact FL_apart) (L,n) hf j hj
theorem zAll_out(o h v:List Int){q:Nat}(hq:FL.all (fun L=>(yz L.length).all fun i=>L.getD i 0 !=q)=true):q09 (zAll o h v) q=q09 z8 q:=by
 refine zb1 _ z13 rfl fun f hf=>⟨z56 o h v f hf,fun i hi he=> ?_⟩
 have h1:=List.all_eq_true.1 hq f.1 (by rw[←FL_of o h v];exact List.mem_map_of_mem hf)
 have h2:=List.all_eq_true.1 h1 i (List.mem_range.2 hi)
 rw[he]at h2
 simp at h2
def touched:List Nat:=[0,8,16,17,18,21]
theorem fix_out{b:List Int}(hb:Bytes b)(hl:b.length=8){q:Nat}(hq:q∉touched):q09 (fix2 b) q=q09 b q:=by
 simp only[touched,yr,List.not_mem_nil,or_false,not_or]at hq
 obtain⟨g0,g8,g16,g17,g18,g21⟩:=hq
 obtain⟨a1,a2⟩:=z54 hb hl
 obtain⟨b1,b2⟩:=zb0 hb hl
 have one:∀{a:Nat},q≠a→∀i,i<[a].length→[a].getD i 0≠q:=fun{a} hqa i hi=>by
  have:i=0:=by
   have:i<1:=hi
   omega
  subst this
  exact fun h=>hqa h.symm
 have e0:q09 (fix0 b) q=q09 b q:=by
  unfold fix0
  split
  ·exact qai hb hl P00 1 (one g0)
  ·rfl
 have e1:q09 (fix1 b) q=q09 (fix0 b) q:=by
  unfold fix1
  split
  ·exact qai a1 a2 P08 1 (one g8)
  ·rfl
 have e2:q09 (fix2 b) q=q09 (fix1 b) q:=by
  unfold fix2
  split
  ·refine qai b1 b2 P16 7 fun i hi=> ?_
   have:i<3:=hi
   rcases(by omega:i=0∨i=1∨i=2)with rfl|rfl|rfl
   ·exact fun h=>g16 h.symm
   ·exact fun h=>g17 h.symm
   ·exact fun h=>g18 h.symm
  ·exact qai b1 b2 P21 1 (one g21)
 rw[e2,e1,e0]
theorem znm(o h v:List Int){L:List Nat}{n:Int}(hf:(L,n)∈fieldsOf o h v)(hL:L.all (fun q=> !touched.contains q)=true){j:Nat}(hj:j<L.length):q09 (layV o h v) (L.getD j 0)=n/2^(L.length-1-j)%2:=by
 rw[←znl o h v hf hj]
 refine fix_out (z55 o h v).1 (z55 o h v).2 fun hm=> ?_
 have h1:=List.all_eq_true.1 hL (L.getD j 0) (by rw[ye,yj hj];exact List.getElem_mem hj)
 rw[List.contains_iff_mem.2 hm]at h1
 cases h1
theorem qaj(b:List Int)(q:Nat):hv b q 1=q09 b q:=by
 have h:=zi4 b (a:=q) (n:=1) (q:=q) (w9 _) (by omega)
 have h1:=q0u b q 1
 rw[show q+1-1-q=0 by omega]at h
 omega
theorem pk_val{b:List Int}{L:List Nat}{v:Int}(hv' :0≤v∧v<2^L.length)(h:∀j,j<L.length→q09 b (L.getD j 0)=v/2^(L.length-1-j)%2):pk b L L.length=v:=by
 have key:∀i,i≤L.length→pk b L i=v/2^(L.length-i):=by
  intro i
  induction i with
  |zero=>
   intro _
   rw[Nat.sub_zero]
   exact(Int.ediv_eq_zero_of_lt hv'.1 hv'.2).symm
  |succ i ih=>
   intro hi
   show 2*pk b L i+hv b (L.getD i 0) 1=_
   rw[ih (by omega),qaj,h i (by omega),show L.length-i=(L.length-1-i)+1 by omega,Int.pow_succ,←Int.ediv_ediv_of_nonneg (by have:=q6p (L.length-1-i);omega),show L.length-(i+1)=L.length-1-i by omega]
   omega
 rw[key _ (w9 _),Nat.sub_self]
 simp
theorem zgt(b:List Int)(a:Nat)(L:List Nat):∀n,(∀i,i<n→L.getD i 0=a+i)→hv b a n=pk b L n
 |0,_=>zn7 b a
 |n+1,h=>by
  rw[q59,zgt b a L n fun i hi=>h i (by omega)]
  show _=2*pk b L n+hv b (L.getD n 0) 1
  rw[h n (by omega)]
theorem z8b(b:List Int)(a m:Nat):∀n,hv b a (m+n)=2^n*hv b a m+hv b (a+m) n
 |0=>by
  rw[zn7]
  simp
 |n+1=>by
  rw[←wc,q59,z8b b a m n,q59 b (a+m) n,Int.pow_succ,wc,Int.mul_add,←Int.mul_assoc,Int.mul_comm 2 (2^n)]
  omega
theorem zgu{o h v:List Int}(hok:ok3 o∧ok3 h∧ok3 v):plO (layV o h v)=qag (o.getD 0 0) (o.getD 1 0) (o.getD 2 0)∧plH (layV o h v)=qag (h.getD 0 0) (h.getD 1 0) (h.getD 2 0)∧plV (layV o h v)=qag (v.getD 0 0) (v.getD 1 0) (v.getD 2 0):=by
 obtain⟨⟨o0,o1,o2⟩,⟨h0,h1,h2⟩,⟨v0,v1,v2⟩⟩:=hok
 have m:∀{L:List Nat} {n:Int},(L,n)∈fieldsOf o h v→L.all (fun q=> !touched.contains q)=true→0≤n∧n<2^L.length→pk (layV o h v) L L.length=n:=fun hf ht hn=>pk_val hn fun j hj=>znm o h v hf ht hj
 have a1:pk (layV o h v) F1 6=o.getD 0 0:=m (L:=F1) (by simp[fieldsOf]) (by decide) o0
 have a2:pk (layV o h v) F2 7=o.getD 1 0:=m (L:=F2) (by simp[fieldsOf]) (by decide) o1
 have a3:pk (layV o h v) F3 6=o.getD 2 0:=m (L:=F3) (by simp[fieldsOf]) (by decide) o2
 have a4:pk (layV o h v) F4 6=h.getD 0 0:=m (L:=F4) (by simp[fieldsOf]) (by decide) h0
 have a5:pk (layV o h v) F5 7=h.getD 1 0:=m (L:=F5) (by simp[fieldsOf]) (by decide) h1
 have a6:pk (layV o h v) F6 6=h.getD 2 0:=m (L:=F6) (by simp[fieldsOf]) (by decide) h2
 have a7:pk (layV o h v) F7 6=v.getD 0 0:=m (L:=F7) (by simp[fieldsOf]) (by decide) v0
 have a8:pk (layV o h v) F8 7=v.getD 1 0:=m (L:=F8) (by simp[fieldsOf]) (by decide) v1
 have a9:pk (layV o h v) F9 6=v.getD 2 0:=m (L:=F9) (by simp[fieldsOf]) (by decide) v2
 have b1:=zgt (layV o h v) 1 F1 6 (by decide)
 have b5:=zgt (layV o h v) 32 F5 7 (by decide)
 have b6:=zgt (layV o h v) 39 F6 6 (by decide)
 have b7:=zgt (layV o h v) 45 F7 6 (by decide)
 have b8:=zgt (layV o h v) 51 F8 7 (by decide)
 have b9:=zgt (layV o h v) 58 F9 6 (by decide)
 unfold plO plH plV
 rw[show[7,9,10,11,12,13,14]=F2 from rfl,show[15,19,20,22,23,24]=F3 from rfl,show[25,26,27,28,29,31]=F4 from rfl,b1,b5,b6,b7,b8,b9,a1,a2,a3,a4,a5,a6,a7,a8,a9]
 exact⟨rfl,rfl,rfl⟩
def nn(b:List Int)(c:Nat):Int:=hv b (8*c) 5+sg3 (hv b (8*c+5) 3)
theorem wV_nn{b:List Int}(h:q8s b=true){c:Nat}(hc:c<3):wV b c=nn b c:=by
 unfold wV nn eAs eBs
 rw[h]
 rcases(by omega:c=0∨c=1∨c=2)with rfl|rfl|rfl<;>rfl
theorem znn{x:Int}(h:0≤x∧x<8): -4≤sg3 x∧sg3 x≤3:=by
 unfold sg3
 split<;>omega
theorem zBit(o h v:List Int){q:Nat}(hq:FL.all (fun L=>(yz L.length).all fun i=>L.getD i 0 !=q)=true)(hz:q09 z8 q=0):hv (zAll o h v) q 1=0:=by
 rw[qaj,zAll_out o h v hq,hz]
theorem hi_bit(b:List Int)(a:Nat):hv b a 5=16*hv b a 1+hv b (a+1) 4:=z8b b a 1 4
theorem mend{z:List Int}(hz:Bytes z)(hl:z.length=8){c:Nat}{L:List Nat}(hL:Pl L)(hLc:L=[8*c])(h0:hv z (8*c) 1=0)(hc:c<3):
  ¬badW (nn (if badW (nn z c)then layB z L 1 else z) c):=by
 have s:=znn (q0u z (8*c+5) 3)
 have g:=q0u z (8*c+1) 4
 have e:=hi_bit z (8*c)
 have p4:(2:Int)^4=16:=by decide
 have n0:nn z c=hv z (8*c+1) 4+sg3 (hv z (8*c+5) 3):=by
  unfold nn
  omega
 by_cases hb:badW (nn z c)
 ·rw[if_pos hb]
  have out:∀{q:Nat},q≠8*c→∀i,i<L.length→L.getD i 0≠q:=fun hq i hi=>by
   subst hLc
   have:i=0:=by
    have:i<1:=hi
    omega
   subst this
   exact fun h=>hq h.symm
  have f1:hv (layB z L 1) (8*c+1) 4=hv z (8*c+1) 4:=qor hz hl hL 1 fun q h1 h2=>out (by omega)
  have f2:hv (layB z L 1) (8*c+5) 3=hv z (8*c+5) 3:=qor hz hl hL 1 fun q h1 h2=>out (by omega)
  have f3:hv (layB z L 1) (8*c) 1=1:=by
   rw[qaj]
   have:=qsa hz hl hL 1 (j:=0) (by subst hLc;exact Nat.zero_lt_one)
   subst hLc
   simpa using this
  have e1:=hi_bit (layB z L 1) (8*c)
  have n1:nn (layB z L 1) c=16+nn z c:=by
   unfold nn
   rw[f2]
   omega
  unfold badW at hb⊢
  omega
 ·rw[if_neg hb]
  exact hb
theorem eDiff_z(o h v:List Int):q8s (zAll o h v)=true:=by
 have:=znl o h v (L:=[30]) (n:=1) (by simp[fieldsOf]) (j:=0) (by decide)
 unfold q8s
 rw[qaj]
 rw[show[30].getD 0 0=30 from rfl]at this
 rw[this]
 rfl
theorem bit30(o h v:List Int):hv (layV o h v) 30 1=1:=by
 have:=znm o h v (L:=[30]) (n:=1) (by simp[fieldsOf]) (by decide) (j:=0) (by decide)
 rw[qaj]
 exact this
theorem zb2{b c:List Int}{k:Nat}(h:∀q,8*k≤q→q<8*k+8→q09 b q=q09 c q):nn b k=nn c k:=by
 unfold nn
 rw[show hv b (8*k) 5=hv c (8*k) 5 from q8q fun i hi=>h _ (by omega) (by omega),show hv b (8*k+5) 3=hv c (8*k+5) 3 from q8q fun i hi=>h _ (by omega) (by omega)]
theorem zkg(o h v:List Int):¬badW (nn (layV o h v) 0)∧¬badW (nn (layV o h v) 1)∧badW (nn (layV o h v) 2):=by
 obtain⟨z1,z2⟩:=z55 o h v
 obtain⟨a1,a2⟩:=z54 z1 z2
 obtain⟨b1,b2⟩:=zb0 z1 z2
 have hd:=eDiff_z o h v
 have hw0:=wV_nn hd (c:=0) (by omega)
 have hw1:=wV_nn hd (c:=1) (by omega)
 have one:∀{a q:Nat},q≠a→∀i,i<[a].length→[a].getD i 0≠q:=fun{a q} hqa i hi=>by
  have:i=0:=by
   have:i<1:=hi
   omega
  subst this
  exact fun h=>hqa h.symm
 have s16:∀{q:Nat},(q<16∨18<q)→∀i,i<[16,17,18].length→[16,17,18].getD i 0≠q:=fun{q} hq i hi=>by
  have:i<3:=hi
  rcases(by omega:i=0∨i=1∨i=2)with rfl|rfl|rfl
  ·show 16≠q
   omega
  ·show 17≠q
   omega
  ·show 18≠q
   omega
 have e2:∀q,q<16→q09 (layV o h v) q=q09 (fix1 (zAll o h v)) q:=fun q hq=>by
  unfold layV fix2
  split
  ·exact qai b1 b2 P16 7 (s16 (Or.inl hq))
  ·exact qai b1 b2 P21 1 (one (by omega))
 have e1:∀q,(q<8∨8<q)→q09 (fix1 (zAll o h v)) q=q09 (fix0 (zAll o h v)) q:=fun q hq=>by
  unfold fix1
  split
  ·exact qai a1 a2 P08 1 (one (by omega))
  ·rfl
 have e0:∀q,0<q→q09 (fix0 (zAll o h v)) q=q09 (zAll o h v) q:=fun q hq=>by
  unfold fix0
  split
  ·exact qai z1 z2 P00 1 (one (by omega))
  ·rfl
 refine⟨?_, ?_, ?_⟩
 ·rw[zb2 (c:=fix0 (zAll o h v)) fun q h1 h2=>(e2 q (by omega)).trans (e1 q (by omega))]
  unfold fix0
  rw[hw0]
  exact mend z1 z2 P00 rfl (zBit o h v (by decide+kernel) (by decide+kernel)) (by omega)
 ·rw[zb2 (c:=fix1 (zAll o h v)) fun q h1 h2=>e2 q (by omega)]
  unfold fix1
  rw[hw1,←zb2 (b:=fix0 (zAll o h v)) (c:=zAll o h v) (k:=1) fun q h1 h2=>e0 q (by omega)]
  exact mend a1 a2 P08 rfl (by rw[qaj,e0 _ (by omega),←qaj];exact zBit o h v (by decide+kernel) (by decide+kernel)) (by omega)
 ·have keep:∀q,15<q→q09 (fix1 (zAll o h v)) q=q09 (zAll o h v) q:=fun q hq=>(e1 q (by omega)).trans (e0 q (by omega))
  have n16:hv (fix1 (zAll o h v)) 16 1=0:=by rw[qaj,keep _ (by omega),←qaj];exact zBit o h v (by decide+kernel) (by decide+kernel)
  have n17:hv (fix1 (zAll o h v)) 17 1=0:=by rw[qaj,keep _ (by omega),←qaj];exact zBit o h v (by decide+kernel) (by decide+kernel)
  have n18:hv (fix1 (zAll o h v)) 18 1=0:=by rw[qaj,keep _ (by omega),←qaj];exact zBit o h v (by decide+kernel) (by decide+kernel)
  have n21:hv (fix1 (zAll o h v)) 21 1=0:=by rw[qaj,keep _ (by omega),←qaj];exact zBit o h v (by decide+kernel) (by decide+kernel)
  have cut:∀b:List Int,hv b 16 5=16*hv b 16 1+8*hv b 17 1+4*hv b 18 1+hv b 19 2∧hv b 21 3=4*hv b 21 1+hv b 22 2:=fun b=>by
   have c1:=z8b b 16 3 2
   have c2:=z8b b 16 2 1
   have c3:=z8b b 16 1 1
   have c4:=z8b b 21 1 2
   simp only[Nat.reduceAdd]at c1 c2 c3 c4
   have:(2:Int)^1=2:=by decide
   have:(2:Int)^2=4:=by decide
   omega
  have g1:=q0u (fix1 (zAll o h v)) 19 2
  have g2:=q0u (fix1 (zAll o h v)) 22 2
  have:(2:Int)^2=4:=by decide
  have b16:(8*2:Nat)=16:=rfl
  unfold layV fix2
  split
  ·rename_i hc
   have k1:hv (layB (fix1 (zAll o h v)) [16,17,18] 7) 19 2=hv (fix1 (zAll o h v)) 19 2:=qor b1 b2 P16 7 fun q h1 h2=>s16 (by omega)
   have k2:hv (layB (fix1 (zAll o h v)) [16,17,18] 7) 22 2=hv (fix1 (zAll o h v)) 22 2:=qor b1 b2 P16 7 fun q h1 h2=>s16 (by omega)
   have k3:hv (layB (fix1 (zAll o h v)) [16,17,18] 7) 21 1=hv (fix1 (zAll o h v)) 21 1:=qor b1 b2 P16 7 fun q h1 h2=>s16 (by omega)
   have k4:hv (layB (fix1 (zAll o h v)) [16,17,18] 7) 16 1=1:=by rw[qaj];exact qsa b1 b2 P16 7 (j:=0) (by decide)
   have k5:hv (layB (fix1 (zAll o h v)) [16,17,18] 7) 17 1=1:=by rw[qaj];exact qsa b1 b2 P16 7 (j:=1) (by decide)
   have k6:hv (layB (fix1 (zAll o h v)) [16,17,18] 7) 18 1=1:=by rw[qaj];exact qsa b1 b2 P16 7 (j:=2) (by decide)
   obtain⟨c1,c2⟩:=cut (layB (fix1 (zAll o h v)) [16,17,18] 7)
   unfold badW nn sg3
   rw[b16]
   simp only[Nat.reduceAdd]
   rw[c2,if_neg (by omega)]
   omega
  ·rename_i hc
   have k1:hv (layB (fix1 (zAll o h v)) [21] 1) 19 2=hv (fix1 (zAll o h v)) 19 2:=qor b1 b2 P21 1 fun q h1 h2=>one (by omega)
   have k2:hv (layB (fix1 (zAll o h v)) [21] 1) 22 2=hv (fix1 (zAll o h v)) 22 2:=qor b1 b2 P21 1 fun q h1 h2=>one (by omega)
   have k3:hv (layB (fix1 (zAll o h v)) [21] 1) 21 1=1:=by rw[qaj];exact qsa b1 b2 P21 1 (j:=0) (by decide)
   have k4:hv (layB (fix1 (zAll o h v)) [21] 1) 16 1=hv (fix1 (zAll o h v)) 16 1:=qor b1 b2 P21 1 fun q h1 h2=>one (by omega)
   have k5:hv (layB (fix1 (zAll o h v)) [21] 1) 17 1=hv (fix1 (zAll o h v)) 17 1:=qor b1 b2 P21 1 fun q h1 h2=>one (by omega)
   have k6:hv (layB (fix1 (zAll o h v)) [21] 1) 18 1=hv (fix1 (zAll o h v)) 18 1:=qor b1 b2 P21 1 fun q h1 h2=>one (by omega)
   obtain⟨c1,c2⟩:=cut (layB (fix1 (zAll o h v)) [21] 1)
   unfold badW nn sg3
   rw[b16]
   simp only[Nat.reduceAdd]
   rw[c2,if_pos (by omega)]
   omega
theorem lay_bb(o h v:List Int)(p:Bool):bb (layV o h v) p=layV o h v:=by
 cases p
 ·unfold bb
  exact if_neg (by decide)
 ·unfold bb
  rw[if_pos rfl]
  exact znd (zgs o h v).1 (zgs o h v).2 (bit30 o h v)
theorem lay_kind(o h v:List Int)(p:Bool):qum (layV o h v) p=3:=by
 have hd:q8s (layV o h v)=true:=by
  unfold q8s
  rw[bit30]
  rfl
 obtain⟨n0,n1,n2⟩:=zkg o h v
 have hbb:=lay_bb o h v p
 have e:∀(b:List Int) (c:Nat),c<3→n10 true (eAs true b) (eBs true b) c=nn b c:=fun b c hc=>by
  unfold n10 nn eAs eBs
  rcases(by omega:c=0∨c=1∨c=2)with rfl|rfl|rfl<;>rfl
 generalize layV o h v=b at*
 have hf:qq5 (xD b p) (xA b p) (xB b p)=2:=by
  unfold xD xA xB
  rw[hbb,hd]
  have m0:¬q8t (eAs true b) (eBs true b) 0:=by
   unfold q8t
   rw[e b 0 (by omega)]
   exact n0
  have m1:¬q8t (eAs true b) (eBs true b) 1:=by
   unfold q8t
   rw[e b 1 (by omega)]
   exact n1
  have m2:q8t (eAs true b) (eBs true b) 2:=by
   unfold q8t
   rw[e b 2 (by omega)]
   exact n2
  unfold qq5
  rw[if_pos (show true=true from rfl),if_neg m0,if_neg m1,if_pos m2]
 unfold qum
 rw[hf]
 rfl
theorem lay_dec(o h v:List Int)(p:Bool):qmf (layV o h v) p=qx8 (layV o h v):=by
 have hk:=lay_kind o h v p
 funext j
 unfold qmf zF baseF
 rw[hk,if_neg (fun h=>h.2.1 rfl),if_neg (by omega),if_neg (by omega),if_neg (by omega)]
end Go.AE.Gn
set_option linter.unusedSimpArgs false
set_option linter.unusedVariables false
namespace Go.AE.Gn
open Go Go.AE
def qx9(i:Nat):Nat:=16+3*(4*(i%4)+i/4)
theorem zb3:((yz 16).all fun i=>z2f 0 i==some ((qx9 i:Int),()))=true:=by kernel_rfl
theorem zei(F:Nat){i:Nat}(h:i<16):z2f F i=some ((qx9 i:Int),()):=by
 have:=List.all_eq_true.1 zb3 i (by simpa using h)
 have e:z2f F i=z2f 0 i:=rfl
 rw[e]
 simpa using this
theorem eacAt_lt{i:Nat}(h:i<16):16≤qx9 i∧qx9 i+3≤64:=by unfold qx9;omega
theorem qkh{F:Nat}(hF:66≤F){b:List Int}(hb:Bytes b)(hl:b.length=8){a n:Nat}(hn:n≤16)(h:a+n≤64):q6y F a n b=some (hv b a n,()):=by
 unfold q6y
 have h1:=q0u b a n
 have h2:(2:Int)^n≤2^16:=q3h hn
 rw[zac hF hb (by omega) (by omega) (by omega)]
 simp only[y5]
 rw[w64 (by omega) (by omega)]
def eacW(b:List Int):List Int:=(yz 16).map fun i=>hv b (qx9 i) 3
theorem Parts_is{F:Nat}(hF:66≤F){b:List Int}(hb:Bytes b)(hl:b.length=8):
  qtb F b=some (hv b 0 8,(hv b 8 4,(hv b 12 4,(eacW b,(0,()))))):=by
 have loop:∀T:List Int,q5c F F T q5j b 0=some (T,(eacW b,(b,()))):=by
  intro T
  refine qae 16 (fun i=>hv b (qx9 i) 3) (fun k w i=>q5c F k T w b i) (fun w=>some (T,(w,(b,())))) ?_ ?_ _ rfl F (by omega)
  ·intro k i w hi hw
   show q7a F (q5c F k) T w b i=_
   unfold q7a
   have:=eacAt_lt hi
   have e:=qkh hF hb hl (a:=qx9 i) (n:=3) (by decide) (by omega)
   simp only[yp]at e
   have h1:(i:Int)<16:=by omega
   simp only[h1,decide_true,cond_true,zei F hi,y5,e,yc,yd,q0n (show i<1000000000000 by omega),yb]
  ·intro k w hw
   show q7a F (q5c F k) T w b 16=_
   unfold q7a
   simp
 unfold qtb
 have e1:=qkh hF hb hl (a:=0) (n:=8) (by decide) (by decide)
 have e2:=qkh hF hb hl (a:=8) (n:=4) (by decide) (by decide)
 have e3:=qkh hF hb hl (a:=12) (n:=4) (by decide) (by decide)
 simp only[yp,yq]at e1 e2 e3
 simp only[hl,loop,y5,e1,e2,e3]
 simp
theorem eacW_len(b:List Int):(eacW b).length=16:=by simp[eacW]
theorem ziq(b:List Int){i:Nat}(h:i<16):(eacW b).getD i 0=hv b (qx9 i) 3:=q6g _ h
def eacA(i:Nat):Nat:=match i with|0=>0|1=>8|2=>12|i+3=>qx9 i
def eacN(i:Nat):Nat:=match i with|0=>8|1=>4|2=>4|_+3=>3
def eacV(base times table:Int)(w:List Int)(i:Nat):Int:=match i with|0=>base|1=>times|2=>table|i+3=>w.getD i 0
def eacF(base times table:Int)(w:List Int)(n:Nat):List Int:=[0,8,base,8,4,times,12,4,table]++(yz n).flatMap fun i=>[(qx9 i:Int),3,w.getD i 0]
theorem zej(base times table:Int)(w:List Int)(n:Nat):eacF base times table w (n+1)=eacF base times table w n++[(qx9 n:Int),3,w.getD n 0]:=by
 simp[eacF,List.range_succ]
theorem zb4(base times table:Int)(w:List Int):∀n,(eacF base times table w n).length=9+3*n:=by
 intro n
 induction n with
 |zero=>rfl
 |succ n ih=>rw[zej,yo,ih];simp;omega
theorem z8c{F:Nat}(base times table:Int)(w:List Int)(T:List Int):∀(k i:Nat),i≤16→16-i<k→
  qb0 F k T (eacF base times table w i) w i=some (T,(eacF base times table w 16,()))
 |0,i,_,h=>by omega
 |k+1,i,hi,hk=>by
  unfold qb0 qn1
  by_cases h:i<16
  ·have h1:(i:Int)<16:=by omega
   have ih:=z8c (F:=F) base times table w T k (i+1) (by omega) (by omega)
   have h2:(eacF base times table w i).length/3+1≤1099511627776:=by rw[zb4];omega
   simp only[h1,decide_true,cond_true,yc,yd,zei F h,y5,h2,q0n (show i<1000000000000 by omega),yb]
   rw[←zej]
   simpa using ih
  ·have:i=16:=by omega
   subst this
   simp
theorem eacF_get(base times table:Int)(w:List Int){i:Nat}(h:i<19):((eacF base times table w 16).drop (i*3)).take 3=[(eacA i:Int),(eacN i:Int),eacV base times table w i]:=by
 have:i=0∨i=1∨i=2∨i=3∨i=4∨i=5∨i=6∨i=7∨i=8∨i=9∨i=10∨i=11∨i=12∨i=13∨i=14∨i=15∨i=16∨i=17∨i=18:=by omega
 rcases this with rfl|rfl|rfl|rfl|rfl|rfl|rfl|rfl|rfl|rfl|rfl|rfl|rfl|rfl|rfl|rfl|rfl|rfl|rfl<;>rfl
def eacZ:List Int:=[0,0,0,0,0,0,0,0]
theorem qxa:Bytes eacZ:=fun x hx=>by simp[eacZ]at hx;omega
def eacJ(base times table:Int)(w:List Int)(i:Nat):List Int:=qfl eacA eacN (eacV base times table w) eacZ i
theorem zno:∀i,i<19→eacA i+eacN i≤64∧eacN i≤8:=by decide
theorem znp:∀i,i<19→∀j,j<19→i≠j→eacA i+eacN i≤eacA j∨eacA j+eacN j≤eacA i:=by decide
def EacFit(base times table:Int)(w:List Int):Prop:=(0≤base∧base≤255)∧(0≤times∧times≤15)∧(0≤table∧table≤15)∧w.length=16∧∀i,i<16→0≤w.getD i 0∧w.getD i 0≤7
theorem EacFit.V{base times table:Int}{w:List Int}(h:EacFit base times table w):∀i,i<19→0≤eacV base times table w i∧eacV base times table w i<2^eacN i:=by
 obtain⟨h1,h2,h3,h4,h5⟩:=h
 intro i hi
 match i with
 |0=>simp only[eacV,eacN];omega
 |1=>simp only[eacV,eacN];omega
 |2=>simp only[eacV,eacN];omega
 |i+3=>
  have:=h5 i (by omega)
  simp only[eacV,eacN]
  omega
theorem z8d{F:Nat}(hF:66≤F){base times table:Int}{w:List Int}(hf:EacFit base times table w):∀(k i:Nat),i≤19→19-i<k→
  qb1 F k (eacJ base times table w i) (eacF base times table w 16) 19 i=some (eacJ base times table w 19,(true,()))
 |0,i,_,h=>by omega
 |k+1,i,hi,hk=>by
  unfold qb1 qn2
  by_cases h:i<19
  ·have h1:(i:Int)<19:=by omega
   have ih:=z8d hF hf k (i+1) (by omega) (by omega)
   have hlen:(eacF base times table w 16).length/3=19:=by rw[zb4]
   have hp:=zno i h
   have hV:=hf.V i h
   have hl:(eacJ base times table w i).length=8:=by unfold eacJ;rw[q5z];rfl
   have hs:=qim hF (b:=eacJ base times table w i) (q4v _ _ _ qxa i) (by omega) (a:=eacA i) (n:=eacN i) (v:=eacV base times table w i) (by omega) (by omega) hV
   have hv64:=pow64 (n:=eacN i) (by omega)
   simp only[h1,decide_true,cond_true,hlen,yc,yp,h1,decide_true,yd,cond_true,yb,eacF_get base times table w h,and_self,if_true,yt,yu]
   rw[wu64 hV.1 (by omega),hs]
   simp only[y5,bne_self_eq_false,cond_false,q0n (show i<1000000000000 by omega)]
   exact ih
  ·have:i=19:=by omega
   subst this
   simp
theorem znq{F:Nat}(hF:66≤F){base times table:Int}{w:List Int}(hf:EacFit base times table w):qta F base times table w=some (eacJ base times table w 19,(0,())):=by
 unfold qta
 have e1:=z8c (F:=F) base times table w qaz F 0 (by omega) (by omega)
 have e2:=z8d hF hf F 0 (by omega) (by omega)
 simp only[and_self,if_true]
 have e0:eacF base times table w 0=[0,8,base,8,4,times,12,4,table]:=rfl
 rw[e0,yq]at e1
 rw[e1]
 have hlen:(eacF base times table w 16).length/3=19:=by rw[zb4]
 simp only[y5,hlen]
 have e3:eacJ base times table w 0=qaz:=rfl
 rw[e3,yq]at e2
 simp only[yp,e2,y5]
 rfl
theorem qdr(base times table:Int)(w:List Int):(eacJ base times table w 19).length=8:=by unfold eacJ;rw[q5z];rfl
theorem zkh(base times table:Int)(w:List Int):Bytes (eacJ base times table w 19):=q4v _ _ _ qxa 19
theorem zb5{base times table:Int}{w:List Int}(hf:EacFit base times table w){j:Nat}(hj:j<19):hv (eacJ base times table w 19) (eacA j) (eacN j)=eacV base times table w j:=
 zi5 qxa (fun i hi=>(zno i hi).1) (fun i j hi hj=>znp i hi j hj) hf.V hj
theorem eacW_fit{b:List Int}:EacFit (hv b 0 8) (hv b 8 4) (hv b 12 4) (eacW b):=by
 have h1:=q0u b 0 8
 have h2:=q0u b 8 4
 have h3:=q0u b 12 4
 refine⟨by omega,by omega,by omega,eacW_len b,fun i hi=> ?_⟩
 rw[ziq b hi]
 have:=q0u b (qx9 i) 3
 omega
theorem zek:((yz 16).all fun n=>match q5v 0 n with|some (l,())=>l.length==8&&l.all fun x=>decide (-15≤x)&&decide (x≤15)|none=>false)=true:=by kernel_rfl
theorem Table_is(F:Nat){n:Int}(h:0≤n∧n≤15):∃l,q5v F n=some (l,())∧l.length=8∧∀i,-15≤l.getD i 0∧l.getD i 0≤15:=by
 obtain⟨m,rfl⟩:=yh h.1
 have:=List.all_eq_true.1 zek m (by simp;omega)
 have e:q5v F m=q5v 0 m:=rfl
 rw[e]
 revert this
 cases q5v 0 m with
 |none=>intro h;simp at h
 |some l=>
  obtain⟨l,⟨⟩⟩:=l
  intro h
  simp only[yl,beq_iff_eq,List.all_eq_true,decide_eq_true_eq]at h
  refine⟨l,rfl,h.1,fun i=> ?_⟩
  rw[ye]
  by_cases hi:i<l.length
  ·rw[yj hi]
   exact h.2 _ (List.getElem_mem hi)
  ·rw[w8 (by omega)]
   simp
theorem mulB{n t c d:Int}(hn: -c≤n∧n≤c)(ht:0≤t∧t≤d)(hc:0≤c): -(c*d)≤n*t∧n*t≤c*d:=by
 have h1:n*t≤c*t:=Int.mul_le_mul_of_nonneg_right hn.2 ht.1
 have h2:c*t≤c*d:=Int.mul_le_mul_of_nonneg_left ht.2 hc
 have h3: -c*t≤n*t:=Int.mul_le_mul_of_nonneg_right hn.1 ht.1
 have h4: -c*t= -(c*t):=Int.neg_mul c t
 omega
def qos(base times number:Int)(wide:Bool):Int:=
 if wide then(if times=0 then max 0 (min (8*base+4+number) 2047)else max 0 (min (8*(base+number*times)+4) 2047))else max 0 (min (base+number*times) 255)
theorem zir(F:Nat){base times number:Int}(hb:0≤base∧base≤255)(ht:0≤times∧times≤15)(hn: -15≤number∧number≤15)(wide:Bool):qn3 F base times number wide=some (qos base times number wide,()):=by
 have hm:=mulB (c:=15) hn ht (by decide)
 unfold qn3 q4q qos
 rw[w64 (x:=number*times) (by omega) (by omega),w64 (x:=base+number*times) (by omega) (by omega),w64 (x:=8*base) (by omega) (by omega),w64 (x:=8*base+4) (by omega) (by omega),
  w64 (x:=8*base+4+number) (by omega) (by omega),w64 (x:=8*(base+number*times)) (by omega) (by omega),w64 (x:=8*(base+number*times)+4) (by omega) (by omega)]
 cases wide
 ·rfl
 ·by_cases h0:times=0
  ·simp[h0]
  ·simp[h0,beqF h0]
def eacD(base times:Int)(tbl w:List Int)(wide:Bool):List Int:=(yz 16).map fun i=>qos base times (tbl.getD (w.getD i 0).toNat 0) wide
theorem zgv{F:Nat}(hF:66≤F){b:List Int}(hb:Bytes b)(hl:b.length=8)(wide:Bool){tbl:List Int}(ht:q5v F (hv b 12 4)=some (tbl,()))(hb15:∀i,-15≤tbl.getD i 0∧tbl.getD i 0≤15):
  qe1 F b wide=some (eacD (hv b 0 8) (hv b 8 4) tbl (eacW b) wide,(0,())):=by
 obtain⟨f1,f2,f3,f4,f5⟩:=eacW_fit (b:=b)
 have loop:∀T:List Int,q4k F F wide T (hv b 0 8) (hv b 8 4) (eacW b) tbl (eacW b) 0=some (T,(eacD (hv b 0 8) (hv b 8 4) tbl (eacW b) wide,())):=by
  intro T
  refine qae 16 (fun i=>qos (hv b 0 8) (hv b 8 4) (tbl.getD ((eacW b).getD i 0).toNat 0) wide) (fun k w i=>q4k F k wide T (hv b 0 8) (hv b 8 4) w tbl (eacW b) i) (fun w=>some (T,(w,()))) ?_ ?_ _ f4 F (by omega)
  ·intro k i w hi hw
   show q67 F (q4k F k) wide T (hv b 0 8) (hv b 8 4) w tbl (eacW b) i=_
   unfold q67
   have h1:(i:Int)<16:=by omega
   have h2:=f5 i hi
   have h3:(eacW b).getD i 0<8:=by omega
   simp only[h1,decide_true,cond_true,yc,yd,yb,h2.1,h3,zir F f1 f2 (hb15 _),y5,q0n (show i<1000000000000 by omega)]
  ·intro k w hw
   show q67 F (q4k F k) wide T (hv b 0 8) (hv b 8 4) w tbl (eacW b) 16=_
   unfold q67
   simp
 unfold qe1
 rw[Parts_is hF hb hl]
 simp only[y5,and_self,if_true,bne_self_eq_false,cond_false,ht,loop]
theorem zel(base times number:Int)(wide:Bool):0≤qos base times number wide∧qos base times number wide≤(if wide then 2047 else 255):=by
 unfold qos
 cases wide<;>simp<;>(try split)<;>omega
end Go.AE.Gn
set_option linter.unusedSimpArgs false
set_option linter.unusedVariables false
namespace Go.AE.Gn
open Go Go.AE
def Rg(m:Int)(l:List Int):Prop:=∀j,0≤l.getD j 0∧l.getD j 0≤m
theorem z57{l:List Int}{j:Nat}(h:l.length≤j):l.getD j 0=0:=by
 rw[ye,w8 h]
 rfl
theorem q7g{m:Int}{N:Nat}{g:Nat→Int}(hm:0≤m)(h:∀j,j<N→0≤g j∧g j≤m):Rg m (tab N g):=by
 intro j
 by_cases hj:j<N
 ·rw[q1o hj]
  exact h j hj
 ·rw[z57 (by rw[q0i];omega)]
  omega
theorem q2l{m m' :Int}{l:List Int}(h:Rg m l)(hm:m≤m'):Rg m' l:=fun j=>⟨(h j).1,Int.le_trans (h j).2 hm⟩
theorem q3b{m:Int}{a b:List Int}(ha:Rg m a)(hb:Rg m b):Rg m (a++b):=by
 intro j
 simp only[ye,List.getElem?_append]
 split
 ·have:=ha j
  simpa[ye]using this
 ·have:=hb (j-a.length)
  simpa[ye]using this
theorem q0j{m x:Int}{a:List Int}(hx:0≤x∧x≤m)(ha:Rg m a):Rg m (x::a):=by
 intro j
 cases j with
 |zero=>simpa using hx
 |succ j=>simpa using ha j
theorem qot{m:Int}(hm:0≤m):Rg m []:=fun j=>by simp[hm]
theorem qh4(n:Int):Rg 255 (colV n):=by
 have h:=qke n
 intro j
 by_cases hj:j<4
 ·exact h.2 j hj
 ·rw[z57 (by rw[h.1];omega)]
  decide
theorem zgw{a b:List Int}(ha:Rg 255 a)(hb:Rg 255 b){k o:Int}(hk:0≤k∧k≤o)(ho:1≤o):Rg 255 (betw a b k o):=by
 have h:∀c,0≤mixV (a.getD c 0) (b.getD c 0) k o 0∧mixV (a.getD c 0) (b.getD c 0) k o 0≤255:=fun c=>by
  have h1:=z4q (a:=a.getD c 0) (b:=b.getD c 0) hk ho
  have h2:=ha c
  have h3:=hb c
  omega
 exact q0j (h 0) (q0j (h 1) (q0j (h 2) (q0j (by decide) (qot (by decide)))))
theorem rg_palV(a b:Int)(four:Bool):Rg 255 (palV a b four):=by
 unfold palV
 split
 ·exact q3b (qh4 a) (q3b (qh4 b) (q3b (zgw (qh4 a) (qh4 b) (by decide) (by decide)) (zgw (qh4 a) (qh4 b) (by decide) (by decide))))
 ·exact q3b (qh4 a) (q3b (qh4 b) (q3b (zgw (qh4 a) (qh4 b) (by decide) (by decide)) (q0j (by decide) (q0j (by decide) (q0j (by decide) (q0j (by decide) (qot (by decide))))))))
theorem z58{p w:List Int}(hp:p.length=16)(hw:∀i,i<16→okW 2 w i):(zam p w).length=64:=
 z4n (m:=4) _ fun i hi=>zg9 hp (by have:=hw i hi;unfold okW at this;omega)
theorem zem{p w:List Int}(hp:p.length=16)(hw:∀i,i<16→okW 2 w i){j:Nat}(hj:j<64):(zam p w).getD j 0=p.getD ((w.getD (j/4) 0).toNat*4+j%4) 0:=by
 have h:=zmi hp hw (i:=j/4) (by omega)
 have e:(((zam p w).drop (j/4*4)).take 4).getD (j%4) 0=(zam p w).getD j 0:=by
  simp only[ye,List.getElem?_take,List.getElem?_drop]
  rw[if_pos (by omega)]
  congr 2
  omega
 rw[←e,h]
 unfold palE
 simp only[ye,List.getElem?_take,List.getElem?_drop]
 rw[if_pos (by omega)]
theorem rg_tileV{p w:List Int}(hp:p.length=16)(hw:∀i,i<16→okW 2 w i)(h:Rg 255 p):Rg 255 (zam p w):=by
 intro j
 by_cases hj:j<64
 ·rw[zem hp hw hj]
  exact h _
 ·rw[z57 (by rw[z58 hp hw];omega)]
  decide
theorem rg_ramp7{a b:Int}(ha:0≤a∧a≤255)(hb:0≤b∧b≤255):Rg 255 (qs3 a b):=by
 have h:∀k o:Int,(0≤k∧k≤o)→1≤o→0≤mixV a b k o 0∧mixV a b k o 0≤255:=fun k o hk ho=>by
  have:=z4q (a:=a) (b:=b) hk ho
  omega
 have z:Rg 255 []:=qot (by decide)
 by_cases hab:a≤b
 ·rw[ramp7_lo hab]
  exact q0j ha (q0j hb (q0j (h 1 5 (by decide) (by decide)) (q0j (h 2 5 (by decide) (by decide)) (q0j (h 3 5 (by decide) (by decide)) (q0j (h 4 5 (by decide) (by decide)) (q0j (by decide) (q0j (by decide) z)))))))
 ·rw[ramp7_hi hab]
  exact q0j ha (q0j hb (q0j (h 1 7 (by decide) (by decide)) (q0j (h 2 7 (by decide) (by decide)) (q0j (h 3 7 (by decide) (by decide)) (q0j (h 4 7 (by decide) (by decide)) (q0j (h 5 7 (by decide) (by decide)) (q0j (h 6 7 (by decide) (by decide)) z)))))))
theorem z14{b:List Int}(hb:Bytes b):Rg 255 (quc b):=q7g (N:=16) (by decide) fun j _=>rg_ramp7 (hb.getD 0) (hb.getD 1) _
theorem rg_fours(b:List Int):Rg 255 (zg8 b):=q7g (N:=16) (by decide) fun j _=>q0p (by decide) _
theorem znr(b:List Int):Rg 255 (qgp b):=by
 have hl:(qgp b).length=64:=by
  unfold qgp
  split
  ·rw[zmu,q0i]
  ·rw[q0i]
 intro j
 by_cases hj:j<64
 ·exact zjx b hj
 ·rw[z57 (by omega)]
  decide
theorem rg_tex10(d f:Bool)(A B T W:List Int)(i:Nat):Rg 255 (ze8 (q1c d A B) T W f i):=
 q0j (q1h _) (q0j (q1h _) (q0j (q1h _) (q0j (qdp d A B _) (qot (by decide)))))
theorem zns{l:List Int}{j:Nat}:((l.drop (j/4*4)).take 4).getD (j%4) 0=l.getD j 0:=by
 simp only[ye,List.getElem?_take,List.getElem?_drop]
 rw[if_pos (by omega)]
 congr 2
 omega
theorem z8e(d f:Bool)(A B T W:List Int):Rg 255 (qd1 d f A B T W):=by
 intro j
 by_cases hj:j<64
 ·rw[←zns,show((qd1 d f A B T W).drop (j/4*4)).take 4=ze8 (q1c d A B) T W f (j/4)from qom _ (fun _ _=>rfl) (by omega)]
  exact rg_tex10 d f A B T W _ _
 ·rw[z57 (by rw[qs8];omega)]
  decide
theorem qci(x y z:Int):Rg 255 (q7x x y z):=q0j (q0p (by decide) _) (q0j (q0p (by decide) _) (q0j (q0p (by decide) _) (q0j (by decide) (qot (by decide)))))
theorem qxb{l:List Int}(h:Rg 255 l)(n:Int):Rg 255 (addV l n):=q0j (q1h _) (q0j (q1h _) (q0j (q1h _) (q0j (h 3) (qot (by decide)))))
theorem rg_fourT(b:List Int):Rg 255 (zgn b):=q3b (qci _ _ _) (q3b (qxb (qci _ _ _) _) (q3b (qci _ _ _) (qxb (qci _ _ _) _)))
theorem rg_fourH(b:List Int):Rg 255 (zaw b):=q3b (qxb (qci _ _ _) _) (q3b (qxb (qci _ _ _) _) (q3b (qxb (qci _ _ _) _) (qxb (qci _ _ _) _)))
theorem qsb(b:List Int)(p:Bool)(j:Nat):0≤qmf b p j∧qmf b p j≤255:=by
 unfold qmf zF
 split
 ·decide
 ·unfold baseF
  split
  ·unfold zgp zay
   split
   ·exact qdp _ _ _ _
   ·exact z8e _ _ _ _ _ _ j
  ·split
   ·exact rg_fourT b _
   ·split
    ·exact rg_fourH b _
    ·unfold qx8 q44
     split
     ·decide
     ·exact q1h _
def eacL(b:List Int)(wide:Bool):List Int:=match q5v 600 (hv b 12 4)with
 |some (l,_)=>eacD (hv b 0 8) (hv b 8 4) l (eacW b) wide
 |none=>[]
theorem znt{b:List Int}(hb:Bytes b)(hl:b.length=8)(wide:Bool):qe1 600 b wide=some (eacL b wide,(0,())):=by
 obtain⟨tbl,h1,_,h3⟩:=Table_is 600 (n:=hv b 12 4) (by have:=q0u b 12 4;omega)
 rw[zgv (by decide) hb hl wide h1 h3]
 unfold eacL
 rw[h1]
theorem zb6(b:List Int)(wide:Bool):Rg (if wide then 2047 else 255) (eacL b wide):=by
 have hm:(0:Int)≤if wide then 2047 else 255:=by cases wide<;>decide
 cases hT:q5v 600 (hv b 12 4)with
 |none=>simp only[eacL,hT];exact qot hm
 |some p=>simp only[eacL,hT];exact q7g (N:=16) hm fun j _=>zel _ _ _ _
def wT(c:Nat)(l t:List Int):List Int:=tab 64 fun j=>if j%4=c then l.getD (j/4) 0 else t.getD j 0
theorem wT_len(c:Nat)(l t:List Int):(wT c l t).length=64:=q0i _ _
theorem zb7{m:Int}(hm:0≤m){c:Nat}{l t:List Int}(hl:Rg m l)(ht:Rg m t):Rg m (wT c l t):=q7g hm fun j _=>by
 split
 ·exact hl _
 ·exact ht _
def upW(c i:Nat)(l t:List Int)(j:Nat):Int:=if j%4=c∧j/4<i then l.getD (j/4) 0 else t.getD j 0
theorem upW_set{c i:Nat}(hc:c<4)(hi:i<16)(l t:List Int):(tab 64 (upW c i l t)).set (i*4+c) (l.getD i 0)=tab 64 (upW c (i+1) l t):=by
 rw[qbd]
 refine q01 fun j hj=> ?_
 unfold upW
 by_cases h:j=i*4+c
 ·subst h
  rw[if_pos rfl,if_pos (by omega),show(i*4+c)/4=i by omega]
 ·rw[if_neg h]
  by_cases h2:j%4=c∧j/4<i
  ·rw[if_pos h2,if_pos (by omega)]
  ·rw[if_neg h2,if_neg (by omega)]
theorem zgx{c:Nat}(hc:c<4)(l t T:List Int):∀(d i k:Nat),i+d=16→d<k→q68 600 k c (tab 64 (upW c i l t)) T l (i:Int)=some (tab 64 (upW c 16 l t),(T,())):=by
 intro d
 induction d with
 |zero=>
  intro i k h1 h2
  obtain⟨k,rfl⟩:∃k',k=k' +1:=⟨k-1,by omega⟩
  obtain rfl:i=16:=by omega
  rfl
 |succ d ih=>
  intro i k h1 h2
  obtain⟨k,rfl⟩:∃k',k=k' +1:=⟨k-1,by omega⟩
  show q9q 600 (q68 600 k) c (tab 64 (upW c i l t)) T l i=_
  unfold q9q
  have h3:(i:Int)<16:=by omega
  have h4:(c:Int)<4:=by omega
  simp only[h3,h4,decide_true,cond_true,yc,yd,yb,upW_set hc (show i<16 by omega),q0n (show i<1000000000000 by omega)]
  exact ih (i+1) k (by omega) (by omega)
theorem zb8{c:Nat}(hc:c<4){l t:List Int}(ht:t.length=64)(e:Int):qb2 600 t c l e=some (wT c l t,()):=by
 have h:=zgx hc l t q2c 16 0 600 (by omega) (by omega)
 have e0:tab 64 (upW c 0 l t)=t:=by
  conv=>rhs;rw[qfc ht]
  exact q01 fun j hj=>by unfold upW;rw[if_neg (by omega)]
 have e1:tab 64 (upW c 16 l t)=wT c l t:=q01 fun j hj=>by
  unfold upW
  by_cases h2:j%4=c
  ·rw[if_pos h2,if_pos (by omega)]
  ·rw[if_neg h2,if_neg (by omega)]
 rw[e0,e1]at h
 unfold qb2
 rw[show((0:Nat):Int)=0 from rfl]at h
 rw[h]
 rfl
def qfh(a:Int):List Int:=tab 64 fun j=>if j%4=3 then a else 0
theorem qpi(a:Int):(qfh a).length=64:=q0i _ _
theorem blank_is:q70 600 false=some (qfh 255,())∧q70 600 true=some (qfh 2047,()):=by constructor<;>kernel_rfl
theorem qup{m a:Int}(h:0≤a∧a≤m):Rg m (qfh a):=q7g (by omega) fun j _=>by
 split<;>omega
end Go.AE.Gn
set_option linter.unusedSimpArgs false
set_option linter.unusedVariables false
namespace Go.AE.Gn
open Go Go.AE
def q7j(k:Nat):Nat:=match k with|1|4|7|8|9|11=>8|_=>16
def qyh(k:Nat):Int:=match k with|1|7|8=>7|2|3|6|9|10=>15|4|11=>1|_=>3
def qir(k:Nat):Bool:=match k with|11|12=>true|_=>false
def qqz(k:Nat):Int:=if qir k then 2047 else 255
def Fmt(k:Nat):Prop:=1≤k∧k≤12
theorem qfi{p:Nat→Prop}(h1:p 1)(h2:p 2)(h3:p 3)(h4:p 4)(h5:p 5)(h6:p 6)(h7:p 7)(h8:p 8)(h9:p 9)(h10:p 10)(h11:p 11)(h12:p 12){k:Nat}(h:Fmt k):p k:=by
 obtain⟨a,b⟩:=h
 have:k=1∨k=2∨k=3∨k=4∨k=5∨k=6∨k=7∨k=8∨k=9∨k=10∨k=11∨k=12:=by omega
 rcases this with rfl|rfl|rfl|rfl|rfl|rfl|rfl|rfl|rfl|rfl|rfl|rfl<;>assumption
theorem zki(F:Nat){k:Nat}(h:Fmt k):q7p F (k:Int)=some (((q7j k:Int),(qyh k,(qir k,()))),(0,())):=by
 refine qfi (p:=fun k=>q7p F (k:Int)=some (((q7j k:Int),(qyh k,(qir k,()))),(0,()))) ?_ ?_ ?_ ?_ ?_ ?_ ?_ ?_ ?_ ?_ ?_ ?_ h<;>rfl
theorem Of_bad(F:Nat){f:Int}(h:¬(1≤f∧f≤12)):q7p F f=some ((0,(0,(false,()))),(5,())):=by
 have hn:∀c:Int,1≤c→c≤12→(f==c)=false:=fun c h1 h2=>beqF (by omega)
 unfold q7p
 rw[hn 1 (by decide) (by decide),hn 7 (by decide) (by decide),hn 8 (by decide) (by decide),hn 2 (by decide) (by decide),hn 3 (by decide) (by decide),hn 6 (by decide) (by decide),hn 10 (by decide) (by decide),hn 9 (by decide) (by decide),hn 4 (by decide) (by decide),hn 11 (by decide) (by decide),hn 5 (by decide) (by decide),hn 12 (by decide) (by decide)]
 rfl
theorem fmt_of{f:Int}(h:1≤f∧f≤12):∃k,Fmt k∧f=(k:Int):=⟨f.toNat,⟨by omega,by omega⟩,by omega⟩
def lo13(b:List Int):List Int:=b.take 8
def hi13(b:List Int):List Int:=(b.drop (b.length-8)).take 8
theorem q9d{b:List Int}(hb:Bytes b):Bytes (lo13 b):=fun x hx=>hb x (List.mem_of_mem_take hx)
theorem qe4{b:List Int}(hb:Bytes b):Bytes (hi13 b):=fun x hx=>hb x (List.mem_of_mem_drop (List.mem_of_mem_take hx))
theorem qki{b:List Int}(h:8≤b.length):(lo13 b).length=8:=by simp[lo13];omega
theorem quq{b:List Int}(h:8≤b.length):(hi13 b).length=8:=by simp[hi13];omega
theorem lo13_8{b:List Int}(h:b.length=8):lo13 b=b:=List.take_of_length_le (by omega)
theorem zkj(k:Nat):8≤q7j k∧q7j k≤16:=by
 unfold q7j
 split<;>decide
def z59(b:List Int)(four:Bool):List Int:=zam (palV (lv b 0 16) (lv b 16 16) four) (oneW b)
theorem zen(b:List Int)(four:Bool):(z59 b four).length=64:=z58 (qud _ _ _) (qx0 b)
theorem zb9(b:List Int)(four:Bool):Rg 255 (z59 b four):=rg_tileV (qud _ _ _) (qx0 b) (rg_palV _ _ _)
def qfm(k:Nat)(b:List Int):List Int:=match k with
 |1=>z59 b false
 |2=>wT 3 (zg8 (lo13 b)) (z59 (hi13 b) true)
 |3=>wT 3 (quc (lo13 b)) (z59 (hi13 b) true)
 |4=>wT 0 (quc (lo13 b)) (qfh 255)
 |5=>wT 1 (quc (hi13 b)) (wT 0 (quc (lo13 b)) (qfh 255))
 |6=>qgp b
 |7=>zk4 b
 |8=>tab 64 (qmf b false)
 |9=>tab 64 (qmf b true)
 |10=>wT 3 (eacL (lo13 b) false) (tab 64 (qmf (hi13 b) false))
 |11=>wT 0 (eacL (lo13 b) true) (qfh 2047)
 |_=>wT 1 (eacL (hi13 b) true) (wT 0 (eacL (lo13 b) true) (qfh 2047))
theorem zba{b:List Int}(hb:Bytes b){k:Nat}(h:Fmt k):Rg (qqz k) (qfm k b):=by
 have hlo:=q9d hb
 have hhi:=qe4 hb
 refine qfi (p:=fun k=>Rg (qqz k) (qfm k b)) ?_ ?_ ?_ ?_ ?_ ?_ ?_ ?_ ?_ ?_ ?_ ?_ h
 ·exact zb9 _ _
 ·exact zb7 (by decide) (rg_fours _) (zb9 _ _)
 ·exact zb7 (by decide) (z14 hlo) (zb9 _ _)
 ·exact zb7 (by decide) (z14 hlo) (qup (by decide))
 ·exact zb7 (by decide) (z14 hhi) (zb7 (by decide) (z14 hlo) (qup (by decide)))
 ·exact znr b
 ·exact z8e _ _ _ _ _ _
 ·exact q7g (by decide) fun j _=>qsb _ _ _
 ·exact q7g (by decide) fun j _=>qsb _ _ _
 ·exact zb7 (by decide) (zb6 _ false) (q7g (by decide) fun j _=>qsb _ _ _)
 ·exact zb7 (by decide) (zb6 _ true) (qup (by decide))
 ·exact zb7 (by decide) (zb6 _ true) (zb7 (by decide) (zb6 _ true) (qup (by decide)))
theorem qbv{b t:List Int}(hb:Bytes b)(hl:b.length=8)(ht:t.length=64){c:Nat}(hc:c<4)(x y:Int):q0q 600 t c b x y false=some (wT c (quc b) t,()):=by
 unfold q0q q8c
 simp only[cond_false,zjq (F:=600) (by decide) hb hl,y5,zb8 hc ht]
theorem qh5{b t:List Int}(hb:Bytes b)(hl:b.length=8)(ht:t.length=64){c:Nat}(hc:c<4)(x y:Int):q0q 600 t c b x y true=some (wT c (eacL b true) t,()):=by
 unfold q0q q8c
 simp only[cond_true,znt hb hl,y5,zb8 hc ht]
section
variable {b:List Int}
theorem d13_1(hb:Bytes b)(hl:b.length=8)(x):q03 600 1 x (lo13 b) (hi13 b) b=some (qfm 1 b,(0,())):=by
 have h:=qx1 (F:=600) (by decide) hb hl false
 unfold q03
 simp only[Int.reduceBEq,cond_true,cond_false,h,y5]
 rfl
theorem d13_2(hb:Bytes b)(hl:b.length=16)(x):q03 600 2 x (lo13 b) (hi13 b) b=some (qfm 2 b,(0,())):=by
 have h1:=Fours_is (F:=600) (by decide) (q9d hb) (qki (b:=b) (by omega))
 have h2:q5a 600 (hi13 b) true=some (z59 (hi13 b) true,(0,())):=qx1 (F:=600) (by decide) (qe4 hb) (quq (by omega)) true
 have h3:=fun e=>zb8 (c:=3) (by decide) (l:=zg8 (lo13 b)) (zen (hi13 b) true) e
 simp only[yp]at h3
 unfold q03
 simp only[Int.reduceBEq,cond_true,cond_false,h1,h2,h3,q6z,y5]
 rfl
theorem d13_3(hb:Bytes b)(hl:b.length=16):q03 600 3 (16,(15,(false,()))) (lo13 b) (hi13 b) b=some (qfm 3 b,(0,())):=by
 have h2:q5a 600 (hi13 b) true=some (z59 (hi13 b) true,(0,())):=qx1 (F:=600) (by decide) (qe4 hb) (quq (by omega)) true
 have h3:=fun x y=>qbv (q9d hb) (qki (by omega)) (zen (hi13 b) true) (c:=3) (by decide) x y
 simp only[yp]at h3
 unfold q03
 simp only[Int.reduceBEq,cond_true,cond_false,h2,h3,q6z,y5]
 rfl
theorem d13_4(hb:Bytes b)(hl:b.length=8):q03 600 4 (8,(1,(false,()))) (lo13 b) (hi13 b) b=some (qfm 4 b,(0,())):=by
 have h3:=fun x y=>qbv (q9d hb) (qki (by omega)) (qpi 255) (c:=0) (by decide) x y
 simp only[yq]at h3
 unfold q03
 simp only[Int.reduceBEq,cond_true,cond_false,blank_is.1,h3,y5]
 rfl
theorem d13_5(hb:Bytes b)(hl:b.length=16):q03 600 5 (16,(3,(false,()))) (lo13 b) (hi13 b) b=some (qfm 5 b,(0,())):=by
 have h3:=fun x y=>qbv (q9d hb) (qki (by omega)) (qpi 255) (c:=0) (by decide) x y
 have h4:=fun x y=>qbv (qe4 hb) (quq (by omega)) (wT_len 0 (quc (lo13 b)) (qfh 255)) (c:=1) (by decide) x y
 simp only[yq,yp]at h3 h4
 unfold q03
 simp only[Int.reduceBEq,cond_true,cond_false,blank_is.1,h3,h4,y5]
 rfl
theorem d13_6(hb:Bytes b)(hl:b.length=16)(x):q03 600 6 x (lo13 b) (hi13 b) b=some (qfm 6 b,(0,())):=by
 have h:=qx4 hb hl
 unfold q03
 simp only[Int.reduceBEq,cond_true,cond_false,h,y5]
 rfl
theorem d13_7(hb:Bytes b)(hl:b.length=8)(x):q03 600 7 x (lo13 b) (hi13 b) b=some (qfm 7 b,(0,())):=by
 have h:=(zgl (F:=600) (by decide) hb hl).1
 unfold q03
 simp only[Int.reduceBEq,cond_true,cond_false,h,y5]
 rfl
theorem d13_8(hb:Bytes b)(hl:b.length=8)(x):q03 600 8 x (lo13 b) (hi13 b) b=some (qfm 8 b,(0,())):=by
 have h:=qs9 hb hl false
 unfold q03
 simp only[Int.reduceBEq,cond_true,cond_false,h,y5]
 rfl
theorem d13_9(hb:Bytes b)(hl:b.length=8)(x):q03 600 9 x (lo13 b) (hi13 b) b=some (qfm 9 b,(0,())):=by
 have h:=qs9 hb hl true
 unfold q03
 simp only[Int.reduceBEq,cond_true,cond_false,h,y5]
 rfl
theorem d13_10(hb:Bytes b)(hl:b.length=16)(x):q03 600 10 x (lo13 b) (hi13 b) b=some (qfm 10 b,(0,())):=by
 have h1:=znt (q9d hb) (qki (b:=b) (by omega)) false
 have h2:=qs9 (qe4 hb) (quq (b:=b) (by omega)) false
 have h3:=fun e=>zb8 (c:=3) (by decide) (l:=eacL (lo13 b) false) (q0i 64 (qmf (hi13 b) false)) e
 simp only[yp]at h3
 unfold q03
 simp only[Int.reduceBEq,cond_true,cond_false,h1,h2,h3,q6z,y5]
 rfl
theorem d13_11(hb:Bytes b)(hl:b.length=8):q03 600 11 (8,(1,(true,()))) (lo13 b) (hi13 b) b=some (qfm 11 b,(0,())):=by
 have h3:=fun x y=>qh5 (q9d hb) (qki (by omega)) (qpi 2047) (c:=0) (by decide) x y
 simp only[yq]at h3
 unfold q03
 simp only[Int.reduceBEq,cond_true,cond_false,blank_is.2,h3,y5]
 rfl
theorem d13_12(hb:Bytes b)(hl:b.length=16):q03 600 12 (16,(3,(true,()))) (lo13 b) (hi13 b) b=some (qfm 12 b,(0,())):=by
 have h3:=fun x y=>qh5 (q9d hb) (qki (by omega)) (qpi 2047) (c:=0) (by decide) x y
 have h4:=fun x y=>qh5 (qe4 hb) (quq (by omega)) (wT_len 0 (eacL (lo13 b) true) (qfh 2047)) (c:=1) (by decide) x y
 simp only[yq,yp]at h3 h4
 unfold q03
 simp only[Int.reduceBEq,cond_true,cond_false,blank_is.2,h3,h4,y5]
 rfl
theorem decode13(hb:Bytes b){k:Nat}(h:Fmt k):b.length=q7j k→q03 600 (k:Int) ((q7j k:Int),(qyh k,(qir k,()))) (lo13 b) (hi13 b) b=some (qfm k b,(0,())):=
 qfi (p:=fun k=>b.length=q7j k→q03 600 (k:Int) ((q7j k:Int),(qyh k,(qir k,()))) (lo13 b) (hi13 b) b=some (qfm k b,(0,())))
  (fun hl=>d13_1 hb hl _) (fun hl=>d13_2 hb hl _) (fun hl=>d13_3 hb hl) (fun hl=>d13_4 hb hl) (fun hl=>d13_5 hb hl) (fun hl=>d13_6 hb hl _) (fun hl=>d13_7 hb hl _) (fun hl=>d13_8 hb hl _) (fun hl=>d13_9 hb hl _) (fun hl=>d13_10 hb hl _) (fun hl=>d13_11 hb hl) (fun hl=>d13_12 hb hl) h
theorem qsc(hb:Bytes b){k:Nat}(h:Fmt k)(hl:b.length=q7j k):q5k 600 (k:Int) b=some (qfm k b,(0,())):=by
 have g:=zkj k
 unfold q5k
 rw[zki 600 h]
 have e1:y0 .i64 ((b.length:Int)-8)=((b.length-8:Nat):Int):=by rw[w64 (by omega) (by omega)];omega
 have e2:(((b.length:Nat):Int) !=(q7j k:Int))=false:=by rw[hl];simp
 have e3:psub b.length (b.length-8)=8:=by rw[zl6];omega
 simp only[y5,bne_self_eq_false,cond_false,e2,show 8≤b.length by omega,decide_true,cond_true,e1,yc,yb,show b.length-8≤b.length by omega,yd,e3]
 have h3:=decode13 hb h hl
 unfold lo13 hi13 at h3
 rw[h3]
 rfl
end
end Go.AE.Gn
set_option linter.unusedSimpArgs false
set_option linter.unusedVariables false
namespace Go.AE.Gn
open Go Go.AE
def scV(x:Int):Int:=8*x+x/32
def upS(n:Nat)(t:List Int)(j:Nat):Int:=if j<n then scV (t.getD j 0)else t.getD j 0
theorem upS_set{t:List Int}{n:Nat}(hn:n<64):(tab 64 (upS n t)).set n (scV (t.getD n 0))=tab 64 (upS (n+1) t):=by
 rw[qbd]
 refine q01 fun j hj=> ?_
 unfold upS
 by_cases h:j=n
 ·subst h;rw[if_pos rfl,if_pos (by omega)]
 ·rw[if_neg h]
  by_cases h2:j<n
  ·rw[if_pos h2,if_pos (by omega)]
  ·rw[if_neg h2,if_neg (by omega)]
theorem zeo{t:List Int}(ht:Rg 255 t)(T:List Int){i:Nat}(hi:i<16)(y:Int):∀(d c k:Nat),c+d=4→d<k→
  q56 600 k (tab 64 (upS (i*4+c) t)) T (i:Int) y (tab 4 fun c=>t.getD (i*4+c) 0) (c:Int)=some (tab 64 (upS (i*4+4) t),(T,(y,()))):=by
 intro d
 induction d with
 |zero=>
  intro c k h1 h2
  obtain⟨k,rfl⟩:∃k',k=k' +1:=⟨k-1,by omega⟩
  obtain rfl:c=4:=by omega
  rfl
 |succ d ih=>
  intro c k h1 h2
  obtain⟨k,rfl⟩:∃k',k=k' +1:=⟨k-1,by omega⟩
  show q8d 600 (q56 600 k) (tab 64 (upS (i*4+c) t)) T i y (tab 4 fun c=>t.getD (i*4+c) 0) c=_
  unfold q8d
  have h3:(i:Int)<16:=by omega
  have h4:(c:Int)<4:=by omega
  have hv:=ht (i*4+c)
  have e:y0 .i64 (y0 .i64 (8*t.getD (i*4+c) 0)+y0 .i64 (yw (t.getD (i*4+c) 0) 32))=scV (t.getD (i*4+c) 0):=by
   rw[q1r hv.1,w64 (x:=8*t.getD (i*4+c) 0) (by omega) (by omega),w64 (x:=t.getD (i*4+c) 0/32) (by omega) (by omega),w64 (by omega) (by omega)]
   rfl
  simp only[h3,h4,decide_true,cond_true,yc,yd,yb,q1o (show c<4 by omega),e,upS_set (t:=t) (show i*4+c<64 by omega),q0n (show c<1000000000000 by omega)]
  exact ih (c+1) k (by omega) (by omega)
theorem zep{t:List Int}(ht:Rg 255 t)(T:List Int):∀(d i k:Nat),i+d=16→d<k→q57 600 k (tab 64 (upS (i*4) t)) T (i:Int)=some (tab 64 (upS 64 t),(T,())):=by
 intro d
 induction d with
 |zero=>
  intro i k h1 h2
  obtain⟨k,rfl⟩:∃k',k=k' +1:=⟨k-1,by omega⟩
  obtain rfl:i=16:=by omega
  rfl
 |succ d ih=>
  intro i k h1 h2
  obtain⟨k,rfl⟩:∃k',k=k' +1:=⟨k-1,by omega⟩
  show q8e 600 (q57 600 k) (tab 64 (upS (i*4) t)) T i=_
  unfold q8e
  have h3:(i:Int)<16:=by omega
  have e:y8 4 (y9 (i*4) (tab 64 (upS (i*4) t)))=tab 4 fun c=>t.getD (i*4+c) 0:=by
   rw[qpe (by omega)]
   exact q01 fun c hc=>by unfold upS;rw[if_neg (by omega)]
  have h:=zeo ht T (i:=i) (by omega) i 4 0 600 (by omega) (by omega)
  simp only[Nat.add_zero,yq]at h
  simp only[h3,decide_true,cond_true,yc,yd,yb,e,h,y5,q0n (show i<1000000000000 by omega)]
  rw[show i*4+4=(i+1)*4 by omega]
  exact ih (i+1) k (by omega) (by omega)
def scT(k:Nat)(t:List Int):List Int:=if qir k then tab 64 fun j=>scV (t.getD j 0)else t
theorem znu{k:Nat}{t:List Int}(ht:t.length=64):(scT k t).length=64:=by
 unfold scT
 split
 ·exact q0i _ _
 ·exact ht
theorem zis{k:Nat}{t:List Int}(ht:Rg 255 t):Rg (qqz k) (scT k t):=by
 unfold scT qqz
 cases qir k
 ·exact ht
 ·exact q7g (by decide) fun j _=>by
   have:=ht j
   unfold scV
   simp only[if_true]
   omega
theorem zbb{k:Nat}(h:Fmt k){t:List Int}(hl:t.length=64)(ht:Rg 255 t):qc6 600 (k:Int) t=some (scT k t,()):=by
 unfold qc6 scT
 rw[zki 600 h]
 simp only[y5]
 cases qir k
 ·rfl
 ·have h:=zep ht q2c 16 0 600 (by omega) (by omega)
  have e0:tab 64 (upS (0*4) t)=t:=by
   conv=>rhs;rw[qfc hl]
   exact q01 fun j hj=>by unfold upS;rw[if_neg (by omega)]
  have e1:tab 64 (upS 64 t)=tab 64 fun j=>scV (t.getD j 0):=q01 fun j hj=>by unfold upS;rw[if_pos hj]
  rw[e0,e1,show((0:Nat):Int)=0 from rfl]at h
  simp only[Bool.not_true,cond_false,h,y5,if_true]
def bitM(mask:Int)(c:Nat):Bool:=mask/2^c%2==1
def errT(mask:Int)(s u:List Int)(j:Nat):Int:=if bitM mask (j%4)then(s.getD j 0-u.getD j 0)*(s.getD j 0-u.getD j 0)else 0
def sumN(f:Nat→Int):Nat→Int
 |0=>0
 |n+1=>sumN f n+f n
theorem qpj{f:Nat→Int}{m:Int}:∀{n:Nat},(∀i,i<n→0≤f i∧f i≤m)→0≤sumN f n∧sumN f n≤m*n
 |0,_=>by simp[sumN]
 |n+1,h=>by
  have h1:=qpj (n:=n) fun i hi=>h i (by omega)
  have h2:=h n (by omega)
  have e:m*((n+1:Nat):Int)=m*(n:Int)+m:=by
   rw[show((n+1:Nat):Int)=(n:Int)+1 by omega,Int.mul_add,Int.mul_one]
  unfold sumN
  rw[e]
  omega
theorem qxc{f g:Nat→Int}:∀{n:Nat},(∀i,i<n→f i=g i)→sumN f n=sumN g n
 |0,_=>rfl
 |n+1,h=>by unfold sumN;rw[qxc fun i hi=>h i (by omega),h n (by omega)]
theorem z5a{f:Nat→Int}:∀{n:Nat},(∀i,i<n→0≤f i)→(sumN f n=0↔∀i,i<n→f i=0)
 |0,_=>by simp[sumN]
 |n+1,h=>by
  have h1:=z5a (n:=n) fun i hi=>h i (by omega)
  have h0:0≤sumN f n:=by
   have:∀m,m≤n→0≤sumN f m:=by
    intro m
    induction m with
    |zero=>intro _;exact Int.le_refl 0
    |succ m ih=>intro hm;unfold sumN;have:=ih (by omega);have:=h m (by omega);omega
   exact this n (w9 _)
  have h2:=h n (by omega)
  unfold sumN
  constructor
  ·intro e i hi
   by_cases hin:i=n
   ·subst hin;omega
   ·exact h1.1 (by omega) i (by omega)
  ·intro e
   have:=h1.2 fun i hi=>e i (by omega)
   have:=e n (by omega)
   omega
theorem qur{x m:Int}(h: -m≤x∧x≤m):0≤x*x∧x*x≤m*m:=by
 have hm:0≤m:=by omega
 constructor
 ·rcases Int.le_total 0 x with h1|h1
  ·exact Int.mul_nonneg h1 h1
  ·have:=Int.mul_nonneg (a:= -x) (b:= -x) (by omega) (by omega)
   rwa [Int.neg_mul_neg]at this
 ·rcases Int.le_total 0 x with h1|h1
  ·exact Int.mul_le_mul h.2 h.2 h1 hm
  ·have:=Int.mul_le_mul (a:= -x) (b:= -x) (c:=m) (d:=m) (by omega) (by omega) (by omega) hm
   rwa [Int.neg_mul_neg]at this
theorem zgy{x:Int}:x*x=0↔x=0:=by
 rw[Int.mul_eq_zero]
 simp
theorem qxd{mask:Int}{s u:List Int}(hs:Rg 2047 s)(hu:Rg 2047 u)(j:Nat):0≤errT mask s u j∧errT mask s u j≤2047*2047:=by
 unfold errT
 split
 ·have h1:=hs j
  have h2:=hu j
  exact qur (m:=2047) (by omega)
 ·decide
def errS(mask:Int)(s u:List Int):Int:=sumN (errT mask s u) 64
theorem zgz{mask:Int}{s u:List Int}(hs:Rg 2047 s)(hu:Rg 2047 u):0≤errS mask s u:=(qpj (n:=64) fun i _=>qxd hs hu i).1
theorem zeq{mask:Int}{s u:List Int}(hs:Rg 2047 s)(hu:Rg 2047 u):errS mask s u=0↔∀j,j<64→bitM mask (j%4)=true→s.getD j 0=u.getD j 0:=by
 unfold errS
 rw[z5a fun i _=>(qxd hs hu i).1]
 constructor
 ·intro h j hj hb
  have:=h j hj
  unfold errT at this
  rw[if_pos hb,zgy]at this
  omega
 ·intro h j hj
  unfold errT
  split
  ·rename_i hb
   rw[zgy,h j hj hb]
   omega
  ·rfl
theorem zit{mask:Int}{c:Nat}(hc:c≤62):(iand .i64 (ishr .i64 mask (c:Int)) 1==1)=bitM mask c:=by
 have h:=qfb (b:=1) (by decide) (x:=ishr .i64 mask (c:Int))
 rw[show((2:Int)^1-1)=1 from rfl]at h
 rw[h,z4m (by omega)]
 rfl
theorem zer{mask:Int}{s u:List Int}(hs:Rg 2047 s)(hu:Rg 2047 u){i:Nat}(hi:i<16)(y:Int):∀(d c k:Nat),c+d=4→d<k→
  q69 600 k mask s u (sumN (errT mask s u) (i*4+c)) (i:Int) y (c:Int)=some (mask,(s,(u,(sumN (errT mask s u) (i*4+4),(y,()))))):=by
 intro d
 induction d with
 |zero=>
  intro c k h1 h2
  obtain⟨k,rfl⟩:∃k',k=k' +1:=⟨k-1,by omega⟩
  obtain rfl:c=4:=by omega
  rfl
 |succ d ih=>
  intro c k h1 h2
  obtain⟨k,rfl⟩:∃k',k=k' +1:=⟨k-1,by omega⟩
  show q9s 600 (q69 600 k) mask s u (sumN (errT mask s u) (i*4+c)) i y c=_
  unfold q9s
  have h3:(i:Int)<16:=by omega
  have h4:(c:Int)<4:=by omega
  have b1:=hs (i*4+c)
  have b2:=hu (i*4+c)
  have b3:=qpj (n:=i*4+c) (f:=errT mask s u) fun j _=>qxd hs hu j
  have b5:(2047*2047:Int)*((i*4+c:Nat):Int)≤2047*2047*64:=Int.mul_le_mul_of_nonneg_left (by omega) (by decide)
  have nx:=ih (c+1) k (by omega) (by omega)
  rw[show i*4+(c+1)=(i*4+c)+1 by omega]at nx
  rw[show sumN (errT mask s u) (i*4+c+1)=sumN (errT mask s u) (i*4+c)+errT mask s u (i*4+c)from rfl]at nx
  cases hb:bitM mask c with
  |true=>
   have e:errT mask s u (i*4+c)=(s.getD (i*4+c) 0-u.getD (i*4+c) 0)*(s.getD (i*4+c) 0-u.getD (i*4+c) 0):=by
    unfold errT
    rw[if_pos (by rw[show(i*4+c)%4=c by omega];exact hb)]
   have b4:=qur (x:=s.getD (i*4+c) 0-u.getD (i*4+c) 0) (m:=2047) (by omega)
   have sq:q6t 600 (y0 .i64 (s.getD (i*4+c) 0-u.getD (i*4+c) 0))=some ((s.getD (i*4+c) 0-u.getD (i*4+c) 0)*(s.getD (i*4+c) 0-u.getD (i*4+c) 0),()):=by
    unfold q6t
    rw[w64 (x:=s.getD (i*4+c) 0-u.getD (i*4+c) 0) (by omega) (by omega),w64 (by omega) (by omega)]
   rw[e]at nx
   simp only[h3,h4,decide_true,cond_true,yc,yd,yb,zit (mask:=mask) (show c≤62 by omega),hb,sq,y5,q0n (show c<1000000000000 by omega)]
   rw[w64 (by omega) (by omega)]
   exact nx
  |false=>
   have e:errT mask s u (i*4+c)=0:=by
    unfold errT
    rw[if_neg (by rw[show(i*4+c)%4=c by omega,hb];simp)]
   rw[e,Int.add_zero]at nx
   simp only[h3,h4,decide_true,cond_true,cond_false,yc,yd,yb,zit (mask:=mask) (show c≤62 by omega),hb,q0n (show c<1000000000000 by omega)]
   exact nx
theorem zes{mask:Int}{s u:List Int}(hs:Rg 2047 s)(hu:Rg 2047 u):∀(d i k:Nat),i+d=16→d<k→q6a 600 k mask s u (sumN (errT mask s u) (i*4)) (i:Int)=some (errS mask s u,()):=by
 intro d
 induction d with
 |zero=>
  intro i k h1 h2
  obtain⟨k,rfl⟩:∃k',k=k' +1:=⟨k-1,by omega⟩
  obtain rfl:i=16:=by omega
  rfl
 |succ d ih=>
  intro i k h1 h2
  obtain⟨k,rfl⟩:∃k',k=k' +1:=⟨k-1,by omega⟩
  show q9t 600 (q6a 600 k) mask s u (sumN (errT mask s u) (i*4)) i=_
  unfold q9t
  have h3:(i:Int)<16:=by omega
  have h:=zer hs hu (i:=i) (by omega) (i:Int) 4 0 600 (by omega) (by omega) (mask:=mask)
  simp only[Nat.add_zero,yq]at h
  simp only[h3,decide_true,cond_true,h,y5,q0n (show i<1000000000000 by omega)]
  rw[show i*4+4=(i+1)*4 by omega]
  exact ih (i+1) k (by omega) (by omega)
theorem znv(mask:Int){s u:List Int}(hs:Rg 2047 s)(hu:Rg 2047 u):qjm 600 s u mask=some (errS mask s u,()):=by
 have h:=zes hs hu 16 0 600 (by omega) (by omega) (mask:=mask)
 unfold qjm
 simp only[Nat.zero_mul,yq,sumN]at h
 rw[h]
 rfl
theorem qus(k:Nat):qqz k≤2047:=by
 unfold qqz
 split<;>decide
def q7y(k:Nat)(b t:List Int):Int:=errS (qyh k) (scT k t) (qfm k b)
theorem qpk{b t:List Int}(hb:Bytes b){k:Nat}(h:Fmt k)(hl:b.length=q7j k)(htl:t.length=64)(ht:Rg 255 t):q92 600 (k:Int) b t=some (q7y k b t,(0,())):=by
 unfold q92
 rw[qsc hb h hl,zki 600 h,zbb h htl ht]
 simp only[y5,bne_self_eq_false,cond_false,znv (qyh k) (q2l (zis (k:=k) ht) (qus k)) (q2l (zba hb h) (qus k))]
 rfl
end Go.AE.Gn
set_option linter.unusedSimpArgs false
set_option linter.unusedVariables false
namespace Go.AE.Gn
open Go Go.AE
def qou(g:Nat→Int):Nat→Nat
 |0=>0
 |n+1=>if n=0 then 0 else if g n<g (qou g n)then n else qou g n
theorem zet(g:Nat→Int):∀{n:Nat},0<n→qou g n<n
 |0,h=>by omega
 |n+1,_=>by
  unfold qou
  split
  ·omega
  ·split
   ·omega
   ·have:=zet g (n:=n) (by omega)
    omega
theorem z5b(g:Nat→Int):∀{n:Nat} {i:Nat},i<n→g (qou g n)≤g i
 |0,i,h=>by omega
 |n+1,i,h=>by
  unfold qou
  split
  ·have:i=0:=by omega
   subst this
   exact Int.le_refl _
  ·split
   ·by_cases hi:i=n
    ·subst hi;exact Int.le_refl _
    ·have:=z5b g (n:=n) (i:=i) (by omega)
     omega
   ·by_cases hi:i=n
    ·subst hi;omega
    ·exact z5b g (n:=n) (i:=i) (by omega)
def qmg(l:List Int)(v:Int):Int:=sumN (fun i=>(l.getD i 0-v)*(l.getD i 0-v)) l.length
theorem z7d{l L:List Int}(hl:Rg 2047 l)(hn:l.length≤64){p:Nat}(hp:p<L.length)(hv:0≤L.getD p 0∧L.getD p 0≤2047):∀(d i k:Nat),i+d=l.length→d<k→
  q38 600 k (p:Int) L (sumN (fun i=>(l.getD i 0-L.getD p 0)*(l.getD i 0-L.getD p 0)) i) l (l.length:Int) (i:Int)=some (qmg l (L.getD p 0),()):=by
 intro d
 induction d with
 |zero=>
  intro i k h1 h2
  obtain⟨k,rfl⟩:∃k',k=k' +1:=⟨k-1,by omega⟩
  obtain rfl:i=l.length:=by omega
  show q3p 600 (q38 600 k) _ _ _ _ _ _=_
  unfold q3p
  simp only[Int.lt_irrefl,decide_false,cond_false]
  rfl
 |succ d ih=>
  intro i k h1 h2
  obtain⟨k,rfl⟩:∃k',k=k' +1:=⟨k-1,by omega⟩
  show q3p 600 (q38 600 k) _ _ _ _ _ _=_
  unfold q3p
  have h3:(i:Int)<(l.length:Int):=by omega
  have h4:(p:Int)<(L.length:Int):=by omega
  have b1:=hl i
  have b2:=qur (x:=l.getD i 0-L.getD p 0) (m:=2047) (by omega)
  have b3:=qpj (n:=i) (f:=fun i=>(l.getD i 0-L.getD p 0)*(l.getD i 0-L.getD p 0)) (m:=2047*2047) fun j _=>qur (m:=2047) (by have:=hl j;omega)
  have b4:(2047*2047:Int)*(i:Int)≤2047*2047*64:=Int.mul_le_mul_of_nonneg_left (by omega) (by decide)
  have sq:q6t 600 (y0 .i64 (l.getD i 0-L.getD p 0))=some ((l.getD i 0-L.getD p 0)*(l.getD i 0-L.getD p 0),()):=by
   unfold q6t
   rw[w64 (x:=l.getD i 0-L.getD p 0) (by omega) (by omega),w64 (by omega) (by omega)]
  simp only[h3,h4,decide_true,cond_true,yc,yd,yb,sq,y5,q0n (show i<1000000000000 by omega)]
  rw[w64 (by omega) (by omega)]
  exact ih (i+1) k (by omega) (by omega)
theorem z8f{l L:List Int}(hl:Rg 2047 l)(hn:l.length≤64){p:Nat}(hp:p<L.length)(hv:0≤L.getD p 0∧L.getD p 0≤2047):qdm 600 (p:Int) l L=some (qmg l (L.getD p 0),()):=by
 have h:=z7d hl hn hp hv l.length 0 600 (by omega) (by omega)
 unfold qdm
 simp only[yq,sumN]at h
 rw[h]
 rfl
def qov(L l:List Int):Nat:=qou (fun i=>qmg l (L.getD i 0)) L.length
theorem qxe{l L:List Int}(hl:Rg 2047 l)(hn:l.length≤64)(hL:Rg 2047 L)(hm:L.length≤300):∀(d i k:Nat),1≤i→i+d=L.length→d<k→
  q0k 600 k l L (qou (fun i=>qmg l (L.getD i 0)) i:Int) (qmg l (L.getD (qou (fun i=>qmg l (L.getD i 0)) i) 0)) (L.length:Int) (i:Int)=some ((qov L l:Int),()):=by
 intro d
 induction d with
 |zero=>
  intro i k h0 h1 h2
  obtain⟨k,rfl⟩:∃k',k=k' +1:=⟨k-1,by omega⟩
  obtain rfl:i=L.length:=by omega
  show q0m 600 (q0k 600 k) _ _ _ _ _ _=_
  unfold q0m
  simp only[Int.lt_irrefl,decide_false,cond_false]
  rfl
 |succ d ih=>
  intro i k h0 h1 h2
  obtain⟨k,rfl⟩:∃k',k=k' +1:=⟨k-1,by omega⟩
  show q0m 600 (q0k 600 k) _ _ _ _ _ _=_
  unfold q0m
  have h3:(i:Int)<(L.length:Int):=by omega
  have nx:=ih (i+1) k (by omega) (by omega) (by omega)
  unfold qou at nx
  rw[if_neg (by omega)]at nx
  simp only[h3,decide_true,cond_true,z8f hl hn (show i<L.length by omega) (hL i),y5,beqF (show(i:Int)≠0 by omega),cond_false,q0n (show i<1000000000000 by omega)]
  by_cases hc:qmg l (L.getD i 0)<qmg l (L.getD (qou (fun i=>qmg l (L.getD i 0)) i) 0)
  ·rw[if_pos hc]at nx
   simp only[hc,decide_true,cond_true]
   exact nx
  ·rw[if_neg hc]at nx
   simp only[hc,decide_false,cond_false]
   exact nx
theorem z5c{l L:List Int}(hl:Rg 2047 l)(hn:l.length≤64)(hL:Rg 2047 L)(hm:1≤L.length∧L.length≤300):q93 600 L l=some ((qov L l:Int),()):=by
 have h:=qxe hl hn hL hm.2 (L.length-1) 1 599 (by omega) (by omega) (by omega)
 have e:q0k 600 600 l L 0 0 (L.length:Int) 0=some ((qov L l:Int),()):=by
  show q0m 600 (q0k 600 599) _ _ _ _ _ _=_
  unfold q0m
  have h3:(0:Int)<(L.length:Int):=by omega
  have b0:=z8f hl hn (p:=0) (show 0<L.length by omega) (hL 0)
  simp only[yq]at b0
  simp only[h3,decide_true,cond_true,b0,y5,beq_self_eq_true]
  exact h
 unfold q93 q8n
 rw[e]
 rfl
theorem zbc{L l:List Int}(h:0<L.length):qov L l<L.length:=zet _ h
theorem bestV_le(L l:List Int){i:Nat}(h:i<L.length):qmg l (L.getD (qov L l) 0)≤qmg l (L.getD i 0):=z5b (fun i=>qmg l (L.getD i 0)) h
def colT(t:List Int)(c:Nat):List Int:=tab 16 fun i=>t.getD (i*4+c) 0
theorem qpl(t:List Int)(c:Nat):(colT t c).length=16:=q0i _ _
theorem z5d{m:Int}{t:List Int}(h:Rg m t)(c:Nat):Rg m (colT t c):=q7g (by have:=h 0;omega) fun i _=>h _
theorem qpm(N:Nat)(g:Nat→Int):tab N g++[g N]=tab (N+1) g:=by
 unfold tab
 rw[List.range_succ,List.map_append]
 rfl
theorem qyi{t:List Int}(hl:t.length=64){i:Nat}(hi:i<16){c:Nat}(hc:c<4):(y8 4 (y9 (i*4) t)).getD c 0=t.getD (i*4+c) 0:=by
 rw[qwy hl (by omega),q1o hc]
section
variable {t:List Int} (hl:t.length=64) {c:Nat} (hc:c<4)
include hl hc
theorem zh0(x1 x2:Int):∀(d i k:Nat),i+d=16→d<k→q24 600 k (c:Int) x1 x2 (tab i fun i=>t.getD (i*4+c) 0) t (i:Int)=some (x1,(x2,(colT t c,()))):=by
 intro d
 induction d with
 |zero=>
  intro i k h1 h2
  obtain⟨k,rfl⟩:∃k',k=k' +1:=⟨k-1,by omega⟩
  obtain rfl:i=16:=by omega
  rfl
 |succ d ih=>
  intro i k h1 h2
  obtain⟨k,rfl⟩:∃k',k=k' +1:=⟨k-1,by omega⟩
  show q4l 600 (q24 600 k) _ _ _ _ _ _=_
  unfold q4l
  have h3:(i:Int)<16:=by omega
  have h4:(c:Int)<4:=by omega
  simp only[h3,h4,decide_true,cond_true,yc,yd,yb,q0i,show i+1≤1099511627776 by omega,qyi hl (show i<16 by omega) hc,q0n (show i<1000000000000 by omega)]
  rw[qpm i fun i=>t.getD (i*4+c) 0]
  exact ih (i+1) k (by omega) (by omega)
theorem zeu(x1:Int):∀(d i k:Nat),i+d=16→d<k→q1t 600 k (c:Int) x1 (tab i fun i=>t.getD (i*4+c) 0) t (i:Int)=some (x1,(colT t c,())):=by
 intro d
 induction d with
 |zero=>
  intro i k h1 h2
  obtain⟨k,rfl⟩:∃k',k=k' +1:=⟨k-1,by omega⟩
  obtain rfl:i=16:=by omega
  rfl
 |succ d ih=>
  intro i k h1 h2
  obtain⟨k,rfl⟩:∃k',k=k' +1:=⟨k-1,by omega⟩
  show q41 600 (q1t 600 k) _ _ _ _ _=_
  unfold q41
  have h3:(i:Int)<16:=by omega
  have h4:(c:Int)<4:=by omega
  simp only[h3,h4,decide_true,cond_true,yc,yd,yb,q0i,show i+1≤1099511627776 by omega,qyi hl (show i<16 by omega) hc,q0n (show i<1000000000000 by omega)]
  rw[qpm i fun i=>t.getD (i*4+c) 0]
  exact ih (i+1) k (by omega) (by omega)
theorem zbd(x1:Int):∀(d i k:Nat),i+d=16→d<k→q1k 600 k (c:Int) x1 (tab i fun i=>t.getD (i*4+c) 0) t (i:Int)=some (x1,(colT t c,())):=by
 intro d
 induction d with
 |zero=>
  intro i k h1 h2
  obtain⟨k,rfl⟩:∃k',k=k' +1:=⟨k-1,by omega⟩
  obtain rfl:i=16:=by omega
  rfl
 |succ d ih=>
  intro i k h1 h2
  obtain⟨k,rfl⟩:∃k',k=k' +1:=⟨k-1,by omega⟩
  show q3f 600 (q1k 600 k) _ _ _ _ _=_
  unfold q3f
  have h3:(i:Int)<16:=by omega
  have h4:(c:Int)<4:=by omega
  simp only[h3,h4,decide_true,cond_true,yc,yd,yb,q0i,show i+1≤1099511627776 by omega,qyi hl (show i<16 by omega) hc,q0n (show i<1000000000000 by omega)]
  rw[qpm i fun i=>t.getD (i*4+c) 0]
  exact ih (i+1) k (by omega) (by omega)
theorem zev(x1:Int):∀(d i k:Nat),i+d=16→d<k→q1u 600 k (c:Int) x1 (tab i fun i=>t.getD (i*4+c) 0) t (i:Int)=some (x1,(colT t c,())):=by
 intro d
 induction d with
 |zero=>
  intro i k h1 h2
  obtain⟨k,rfl⟩:∃k',k=k' +1:=⟨k-1,by omega⟩
  obtain rfl:i=16:=by omega
  rfl
 |succ d ih=>
  intro i k h1 h2
  obtain⟨k,rfl⟩:∃k',k=k' +1:=⟨k-1,by omega⟩
  show q42 600 (q1u 600 k) _ _ _ _ _=_
  unfold q42
  have h3:(i:Int)<16:=by omega
  have h4:(c:Int)<4:=by omega
  simp only[h3,h4,decide_true,cond_true,yc,yd,yb,q0i,show i+1≤1099511627776 by omega,qyi hl (show i<16 by omega) hc,q0n (show i<1000000000000 by omega)]
  rw[qpm i fun i=>t.getD (i*4+c) 0]
  exact ih (i+1) k (by omega) (by omega)
theorem zh1(x1 x2:Int):∀(d i k:Nat),i+d=16→d<k→q1j 600 k (c:Int) x1 x2 (tab i fun i=>t.getD (i*4+c) 0) t (i:Int)=some (x1,(x2,(colT t c,()))):=by
 intro d
 induction d with
 |zero=>
  intro i k h1 h2
  obtain⟨k,rfl⟩:∃k',k=k' +1:=⟨k-1,by omega⟩
  obtain rfl:i=16:=by omega
  rfl
 |succ d ih=>
  intro i k h1 h2
  obtain⟨k,rfl⟩:∃k',k=k' +1:=⟨k-1,by omega⟩
  show q3e 600 (q1j 600 k) _ _ _ _ _ _=_
  unfold q3e
  have h3:(i:Int)<16:=by omega
  have h4:(c:Int)<4:=by omega
  simp only[h3,h4,decide_true,cond_true,yc,yd,yb,q0i,show i+1≤1099511627776 by omega,qyi hl (show i<16 by omega) hc,q0n (show i<1000000000000 by omega)]
  rw[qpm i fun i=>t.getD (i*4+c) 0]
  exact ih (i+1) k (by omega) (by omega)
end
end Go.AE.Gn
set_option linter.unusedSimpArgs false
set_option linter.unusedVariables false
namespace Go.AE.Gn
open Go Go.AE
theorem qow{α:Type}{m:Nat}(hm:m≤300)(g:Nat→Int)(L:Nat→List Int→Int→Option α)(res:List Int→Option α)
  (step:∀(k i:Nat),i<m→L (k+1) (tab i g) i=L k (tab i g++[g i]) ((i+1:Nat):Int)) (stop:∀k,L (k+1) (tab m g) m=res (tab m g)):L 600 [] 0=res (tab m g):=by
 have key:∀(d i k:Nat),i+d=m→d<k→L k (tab i g) i=res (tab m g):=by
  intro d
  induction d with
  |zero=>
   intro i k h1 h2
   obtain⟨k,rfl⟩:∃k',k=k' +1:=⟨k-1,by omega⟩
   obtain rfl:i=m:=by omega
   exact stop k
  |succ d ih=>
   intro i k h1 h2
   obtain⟨k,rfl⟩:∃k',k=k' +1:=⟨k-1,by omega⟩
   rw[step k i (by omega),qpm]
   exact ih (i+1) k (by omega) (by omega)
 exact key m 0 600 (by omega) (by omega)
def lvW(b:Nat):List Int:=tab (2^b) fun i=>q0o b i
def lvP:List Int:=tab 256 fun i=>(i:Int)
def lvS(bit:Int):List Int:=tab 128 fun i=>2*(i:Int)+bit
def lvL:List Int:=tab 32 fun i=>q1w (q0o 5 i+2)
def lvF:List Int:=tab 256 fun i=>8*(i:Int)+4
theorem pow_b{b:Nat}(hb:1≤b∧b≤8):1≤2^b∧2^b≤256:=by
 have h:(2:Nat)^b≤2^8:=Nat.pow_le_pow_right (by decide) hb.2
 have:=Nat.pow_pos (n:=b) (show 0<2 by decide)
 omega
theorem rg_lvW{b:Nat}(hb:1≤b∧b≤8):Rg 255 (lvW b):=q7g (by decide) fun i _=>q0p hb _
theorem rg_lvP:Rg 255 lvP:=q7g (by decide) fun i hi=>by omega
theorem rg_lvS{bit:Int}(h:0≤bit∧bit≤1):Rg 255 (lvS bit):=q7g (by decide) fun i hi=>by omega
theorem rg_lvL:Rg 255 lvL:=q7g (by decide) fun i _=>q1h _
theorem rg_lvF:Rg 2047 lvF:=q7g (by decide) fun i hi=>by omega
section
variable {t:List Int} (hl:t.length=64) (ht:Rg 2047 t) {c:Nat} (hc:c<4)
include hl ht hc
theorem zew{b:Nat}(hb:1≤b∧b≤8):q7b 600 t c ((2^b:Nat):Int) b=some ((qov (lvW b) (colT t c):Int),()):=by
 have hp:=pow_b hb
 have h1:=zh0 hl hc ((2^b:Nat):Int) (b:Int) 16 0 600 (by omega) (by omega)
 rw[show tab 0 (fun i=>t.getD (i*4+c) 0)=[]from rfl,show((0:Nat):Int)=0 from rfl]at h1
 have h2:=qow (m:=2^b) (by omega) (fun i=>q0o b i) (fun k w i=>q1f 600 k (b:Int) (colT t c) w ((2^b:Nat):Int) i) (fun w=>some (colT t c,(w,()))) (fun k i hi=>by
   show q1s 600 (q1f 600 k) _ _ _ _ _=_
   unfold q1s qn5
   have h3:(i:Int)<((2^b:Nat):Int):=by omega
   simp only[h3,decide_true,cond_true,qbc (F:=600) (by decide) hb,y5,q0i,show i+1≤1099511627776 by omega,yd,q0n (show i<1000000000000 by omega)]) (fun k=>by
   show q1s 600 (q1f 600 k) _ _ _ _ _=_
   unfold q1s
   simp only[Int.lt_irrefl,decide_false,cond_false])
 have h3:=z5c (l:=colT t c) (L:=lvW b) (z5d ht c) (by rw[qpl];decide) (q2l (rg_lvW hb) (by decide)) (by unfold lvW;rw[q0i];omega)
 unfold q7b
 rw[h1]
 simp only[y5]
 rw[h2]
 simp only[y5]
 unfold lvW at h3⊢
 rw[h3]
 rfl
theorem qfj{b:Nat}(hb:1≤b∧b≤8):q7q 600 t c b=some ((qov (lvW b) (colT t c):Int),()):=by
 have h:=zew hl ht hc hb
 have e:ishl .i64 1 (b:Int)=((2^b:Nat):Int):=by
  rw[zah (by omega)]
  exact(we 2 b).symm
 unfold q7q
 simp only[yc,decide_true,cond_true,e,h,y5]
theorem z8g:qhn 600 t c=some ((qov lvP (colT t c):Int),()):=by
 have h1:=zeu hl hc (256:Int) 16 0 600 (by omega) (by omega)
 rw[show tab 0 (fun i=>t.getD (i*4+c) 0)=[]from rfl,show((0:Nat):Int)=0 from rfl]at h1
 have h2:=qow (m:=256) (by omega) (fun i=>(i:Int)) (fun k w i=>q15 600 k (colT t c) w 256 i) (fun w=>some (colT t c,(w,()))) (fun k i hi=>by
   show q1i 600 (q15 600 k) _ _ _ _=_
   unfold q1i qjn
   have h3:(i:Int)<256:=by omega
   simp only[h3,decide_true,cond_true,y5,q0i,show i+1≤1099511627776 by omega,yd,q0n (show i<1000000000000 by omega)]) (fun k=>by
   show q1i 600 (q15 600 k) _ _ _ _=_
   unfold q1i
   rfl)
 have h3:=z5c (l:=colT t c) (L:=lvP) (z5d ht c) (by rw[qpl];decide) (q2l rg_lvP (by decide)) (by unfold lvP;rw[q0i];decide)
 unfold qhn q9u
 rw[h1]
 simp only[y5]
 rw[h2]
 simp only[y5]
 unfold lvP at h3⊢
 rw[h3]
 rfl
theorem sixb_is{bit:Int}(hb:0≤bit∧bit≤1):q5l 600 t c 128 bit=some ((qov (lvS bit) (colT t c):Int),()):=by
 have h1:=zh1 hl hc (128:Int) bit 16 0 600 (by omega) (by omega)
 rw[show tab 0 (fun i=>t.getD (i*4+c) 0)=[]from rfl,show((0:Nat):Int)=0 from rfl]at h1
 have h2:=qow (m:=128) (by omega) (fun i=>2*(i:Int)+bit) (fun k w i=>q0x 600 k bit (colT t c) w 128 i) (fun w=>some (colT t c,(w,()))) (fun k i hi=>by
   show q1a 600 (q0x 600 k) _ _ _ _ _=_
   unfold q1a qgu
   have h3:(i:Int)<128:=by omega
   have e:y0 .i64 (y0 .i64 (2*(i:Int))+bit)=2*(i:Int)+bit:=by rw[w64 (x:=2*(i:Int)) (by omega) (by omega),w64 (by omega) (by omega)]
   simp only[h3,decide_true,cond_true,y5,e,q0i,show i+1≤1099511627776 by omega,yd,q0n (show i<1000000000000 by omega)]) (fun k=>by
   show q1a 600 (q0x 600 k) _ _ _ _ _=_
   unfold q1a
   rfl)
 have h3:=z5c (l:=colT t c) (L:=lvS bit) (z5d ht c) (by rw[qpl];decide) (q2l (rg_lvS hb) (by decide)) (by unfold lvS;rw[q0i];decide)
 unfold q5l
 rw[h1]
 simp only[y5]
 rw[h2]
 simp only[y5]
 unfold lvS at h3⊢
 rw[h3]
 rfl
theorem zkk:q5m 600 t c 32=some ((qov lvL (colT t c):Int),()):=by
 have h1:=zbd hl hc (32:Int) 16 0 600 (by omega) (by omega)
 rw[show tab 0 (fun i=>t.getD (i*4+c) 0)=[]from rfl,show((0:Nat):Int)=0 from rfl]at h1
 have h2:=qow (m:=32) (by omega) (fun i=>q1w (q0o 5 i+2)) (fun k w i=>q0y 600 k (colT t c) w 32 i) (fun w=>some (colT t c,(w,()))) (fun k i hi=>by
   show q1b 600 (q0y 600 k) _ _ _ _=_
   unfold q1b qgv
   have h3:(i:Int)<32:=by omega
   have wb:=q0p (b:=5) (by decide) (i:Int)
   have wd:=qbc (F:=600) (by decide) (b:=5) (by decide) (i:Int)
   simp only[yp]at wd
   have e:y0 .i64 (q0o 5 (i:Int)+2)=q0o 5 (i:Int)+2:=w64 (by omega) (by omega)
   simp only[h3,decide_true,cond_true,wd,y5,e,qe3,q0i,show i+1≤1099511627776 by omega,yd,q0n (show i<1000000000000 by omega)]) (fun k=>by
   show q1b 600 (q0y 600 k) _ _ _ _=_
   unfold q1b
   rfl)
 have h3:=z5c (l:=colT t c) (L:=lvL) (z5d ht c) (by rw[qpl];decide) (q2l rg_lvL (by decide)) (by unfold lvL;rw[q0i];decide)
 unfold q5m
 rw[h1]
 simp only[y5]
 rw[h2]
 simp only[y5]
 unfold lvL at h3⊢
 rw[h3]
 rfl
theorem znw:q6o 600 t c 256=some ((qov lvF (colT t c):Int),()):=by
 have h1:=zev hl hc (256:Int) 16 0 600 (by omega) (by omega)
 rw[show tab 0 (fun i=>t.getD (i*4+c) 0)=[]from rfl,show((0:Nat):Int)=0 from rfl]at h1
 have h2:=qow (m:=256) (by omega) (fun i=>8*(i:Int)+4) (fun k w i=>q16 600 k (colT t c) w 256 i) (fun w=>some (colT t c,(w,()))) (fun k i hi=>by
   show q1l 600 (q16 600 k) _ _ _ _=_
   unfold q1l qjp
   have h3:(i:Int)<256:=by omega
   have e:=zir 600 (base:=(i:Int)) (times:=1) (number:=0) (by omega) (by decide) (by decide) true
   have e2:qos (i:Int) 1 0 true=8*(i:Int)+4:=by
    unfold qos
    simp only[if_true,show¬(1:Int)=0 by decide,if_false]
    omega
   simp only[h3,decide_true,cond_true,y5,e,e2,q0i,show i+1≤1099511627776 by omega,yd,q0n (show i<1000000000000 by omega)]) (fun k=>by
   show q1l 600 (q16 600 k) _ _ _ _=_
   unfold q1l
   rfl)
 have h3:=z5c (l:=colT t c) (L:=lvF) (z5d ht c) (by rw[qpl];decide) rg_lvF (by unfold lvF;rw[q0i];decide)
 unfold q6o
 rw[h1]
 simp only[y5]
 rw[h2]
 simp only[y5]
 unfold lvF at h3⊢
 rw[h3]
 rfl
end
theorem qe5(n:Int):q4m 600 n=some (tab 16 fun _=>n,()):=by
 have key:∀T w:List Int,w.length=16→q3y 600 600 n T w 0=some (T,(tab 16 (fun _=>n),())):=by
  intro T w hw
  refine qae 16 (fun _=>n) (fun k w i=>q3y 600 k n T w i) (fun w=>some (T,(w,()))) ?_ ?_ w hw 600 (by omega)
  ·intro k i w hi hw
   show q8g 600 (q3y 600 k) n T w i=_
   unfold q8g
   have h3:(i:Int)<16:=by omega
   simp only[h3,decide_true,cond_true,yc,yd,yb,q0n (show i<1000000000000 by omega)]
  ·intro k w hw
   rfl
 unfold q4m
 rw[key _ _ rfl]
 rfl
end Go.AE.Gn
set_option linter.unusedSimpArgs false
set_option linter.unusedVariables false
namespace Go.AE.Gn
open Go Go.AE
def oneT(v:Nat→Int):List Int:=tab 64 fun j=>v (j%4)
def q10(n:Int):List Int:=tab 16 fun _=>n
theorem q4o(n:Int){j:Nat}(hj:j<16):(q10 n).getD j 0=n:=q1o hj
theorem qut(n:Int):(q10 n).length=16:=q0i _ _
theorem zbe{n:Int}(h: -9223372036854775808≤n∧n≤9223372036854775807)(j:Nat): -9223372036854775808≤(q10 n).getD j 0∧(q10 n).getD j 0≤9223372036854775807:=by
 by_cases hj:j<16
 ·rw[q4o n hj]
  exact h
 ·rw[z57 (by rw[qut];omega)]
  decide
theorem zbf{e:Nat}{n:Int}(h:0≤n∧n<2^e):∀j,j<16→okW e (q10 n) j:=fun j hj=>by
 unfold okW
 rw[q4o n hj]
 exact h
theorem qis(e:Nat):∀j,j<16→okW e (q10 0) j:=zbf ⟨Int.le_refl 0,Int.pow_pos (by decide)⟩
theorem zex{low:Int}{from_ each:Nat}{w:List Int}(hl:0≤low∧low<2^from_)(he:1≤each)(hfe:from_+each*16=64)(hw:∀j,j<16→okW each w j){a n:Nat}(h:a+n≤from_){v:Int}(hv' :0≤v∧v<2^n)
  (e:∀i,i<n→low/2^(a+i)%2=v/2^i%2):lv (qgm low from_ each w) a n=v:=by
 refine qwt hv' fun q h1 h2=> ?_
 rw[z84 hl he hfe hw (by omega),if_pos (by omega)]
 have:=e (q-a) (by omega)
 rwa [show a+(q-a)=q by omega]at this
theorem z5e{low:Int}{from_ each:Nat}{w:List Int}(hl:0≤low∧low<2^from_)(he:1≤each)(hfe:from_+each*16=64)(hw:∀j,j<16→okW each w j){i:Nat}(hi:i<16):lv (qgm low from_ each w) (from_+each*i) each=w.getD i 0:=by
 refine qwt (hw i hi) fun q h1 h2=> ?_
 have hm:each*i+each≤each*16:=by
  rw[←Nat.mul_succ]
  exact Nat.mul_le_mul_left _ (by omega)
 obtain⟨r,rfl⟩:∃r,q=from_+each*i+r:=⟨q-(from_+each*i),by omega⟩
 rw[z84 hl he hfe hw (by omega),if_neg (by omega),show from_+each*i+r-from_=each*i+r by omega,Nat.mul_add_div (by omega),Nat.mul_add_mod,Nat.div_eq_of_lt (show r<each by omega),Nat.mod_eq_of_lt (show r<each by omega),Nat.add_zero,show from_+each*i+r-(from_+each*i)=r by omega]
theorem lv_byte{b:List Int}(hb:Bytes b)(i:Nat):lv b (8*i) 8=b.getD i 0:=by
 have h:=hb.getD i
 unfold lv
 rw[qka (g:=fun j=>b.getD i 0/2^j%2) fun j hj=>by unfold q40 bitL;rw[show(8*i+j)/8=i by omega,show(8*i+j)%8=j by omega],qij _ h.1,wa h.1 (by omega)]
def hexB(n:Int):List Int:=qgm (n+n*2^16) 32 2 (q10 0)
theorem qxf{n:Int}(hn:0≤n∧n≤65535)(four:Bool):z59 (hexB n) four=oneT fun c=>(colV n).getD c 0:=by
 have hl:0≤n+n*2^16∧n+n*2^16<2^32:=by omega
 have e0:lv (hexB n) 0 16=n:=zex hl (by decide) (by decide) (qis 2) (by decide) (by omega) fun i hi=>by
  rw[qkd (by omega),if_pos (by omega),Nat.zero_add]
 unfold z59 oneT
 rw[e0,qfc (z58 (qud n (lv (hexB n) 16 16) four) (qx0 (hexB n)))]
 refine q01 fun j hj=> ?_
 have e1:lv (hexB n) (32+2*(j/4)) 2=(q10 0).getD (j/4) 0:=z5e hl (by decide) (by decide) (qis 2) (by omega)
 rw[zem (qud _ _ _) (qx0 _) hj,zia _ (by omega),e1,q4o 0 (by omega),show y6 0*4+j%4=j%4 by simp]
 unfold palV
 split
 ·simp only[ye]
  rw[yg (by show j%4<4;omega)]
 ·simp only[ye]
  rw[yg (by show j%4<4;omega)]
theorem hexB_is{n:Int}(hn:0≤n∧n≤65535):qhk 600 n n (q10 0)=some (hexB n,(0,())):=
 Join6_ok (by decide) hn hn (zbe (by decide)) (qis 2)
def qyj(n:Int):List Int:=qgm 0 0 4 (q10 n)
theorem zey{n:Int}(hn:0≤n∧n<16):zg8 (qyj n)=q10 (q0o 4 n):=by
 show tab 16 _=tab 16 _
 refine q01 fun i hi=> ?_
 have e1:lv (qyj n) (0+4*i) 4=(q10 n).getD i 0:=z5e (low:=0) (by decide) (by decide) (by decide) (zbf hn) hi
 rw[Nat.zero_add,q4o n hi]at e1
 rw[e1]
theorem znx{n:Int}(hn:0≤n∧n<16):q7z 600 (q10 n)=some (qyj n,(0,())):=by
 have j1:=(zdw (F:=600) (by decide) (low:=0) (from_:=0) (each:=4) (w:=q10 n) (by decide) (by decide) (by decide) (zbe (by omega))).1 (zbf hn)
 simp only[yp,yq]at j1
 unfold q7z
 simp only[and_self,if_true,j1,y5,qyj]
def qfn(n:Int):List Int:=qgm (n+n*2^8) 16 3 (q10 0)
theorem zh2(a b:Int):(qs3 a b).getD 0 0=a:=by
 unfold qs3 zmc zmb
 split<;>rfl
theorem qkj{n:Int}(hn:0≤n∧n≤255):quc (qfn n)=q10 n:=by
 have hl:0≤n+n*2^8∧n+n*2^8<2^16:=by omega
 have e0:(qfn n).getD 0 0=n:=by
  rw[←lv_byte (b:=qfn n) (qgn _ _ _ _) 0]
  exact zex hl (by decide) (by decide) (qis 3) (by decide) (by omega) fun i hi=>by
   rw[qkd (by omega),if_pos (by omega),Nat.mul_zero,Nat.zero_add]
 show tab 16 _=tab 16 _
 refine q01 fun i hi=> ?_
 have e1:lv (qfn n) (16+3*i) 3=(q10 0).getD i 0:=z5e hl (by decide) (by decide) (qis 3) hi
 have e2:(qin (qfn n)).getD i 0=0:=by
  unfold qin
  rw[q6g _ hi,e1,q4o 0 hi]
 rw[e0,e2]
 exact zh2 _ _
theorem rampB_is{n:Int}(hn:0≤n∧n≤255):qj8 600 n n (q10 0)=some (qfn n,(0,())):=by
 obtain⟨t1,t2,t3,t4⟩:=lowTwo (a:=n) (b:=n) (by omega) (by omega)
 have j1:=(zdw (F:=600) (by decide) (low:=n+n*2^8) (from_:=16) (each:=3) (w:=q10 0) ⟨t2,t3⟩ (by decide) (by decide) (zbe (by decide))).1 (qis 3)
 simp only[yp]at j1
 have c1:¬n<0:=by omega
 have c2:¬255<n:=by omega
 unfold qj8
 simp only[c1,c2,decide_false,cond_false,and_self,if_true,t1,j1,y5,qfn]
def sixB(w:List Int)(bit:Int):List Int:=sL (w++w) [bit,bit] (q10 0) 26
theorem dbl_get{w:List Int}(hl:w.length=4){c:Nat}(hc:c<4):(w++w).getD c 0=w.getD c 0∧(w++w).getD (4+c) 0=w.getD c 0:=by
 simp only[ye]
 rw[yg (by omega),w7 (by omega),hl,show 4+c-4=c by omega]
 exact⟨rfl,rfl⟩
theorem zny{w:List Int}(hl:w.length=4)(hw:Rg 127 w){bit:Int}(hb:0≤bit∧bit≤1):okU (w++w) [bit,bit] (q10 0) 26=true:=by
 unfold okU
 rw[List.all_eq_true]
 intro t ht
 have ht:=List.mem_range.1 ht
 have key:0≤sV (w++w) [bit,bit] (q10 0) t∧sV (w++w) [bit,bit] (q10 0) t<2^sN t:=by
  unfold sV sN
  by_cases h8:t<8
  ·rw[if_pos h8,if_pos h8]
   have hr:=q3b hw hw (t%2*4+t/2)
   omega
  rw[if_neg h8,if_neg h8]
  by_cases h10:t<10
  ·rw[if_pos h10,if_pos h10]
   have:t=8∨t=9:=by omega
   rcases this with rfl|rfl
   ·show 0≤bit∧bit<2^1
    omega
   ·show 0≤bit∧bit<2^1
    omega
  rw[if_neg h10,if_neg h10,q4o 0 (by omega)]
  split<;>decide
 simpa[okS,okV]using key
theorem z8h{w:List Int}(hl:w.length=4)(hw:Rg 127 w){bit:Int}(hb:0≤bit∧bit≤1):qgp (sixB w bit)=oneT fun c=>2*w.getD c 0+bit:=by
 have h1:=six_dec (zny hl hw hb)
 have h2:=qx4 (b:=sixB w bit) (q8r _ _ _ qfe 26) (zig _ _ _)
 unfold sixB at h2
 rw[h1]at h2
 have h3:=(Prod.mk.inj (Option.some.inj h2)).1
 unfold sixB
 rw[←h3]
 unfold oneT
 refine q01 fun j hj=> ?_
 have hc:j%4<4:=by omega
 have hg:=hw (j%4)
 have e1:endV (w++w) [bit,bit] (j%4)=2*w.getD (j%4) 0+bit:=by
  unfold endV
  rw[(dbl_get hl hc).1,show j%4/4=0 by omega,wa (by omega) (by omega)]
  show 2*w.getD (j%4) 0+bit%2=_
  omega
 rw[e1,q4o 0 (by omega),mx_first]
theorem ziu{x:Int}(h: -9223372036854775808≤x∧x≤9223372036854775807):IntKind.i64.has x:=has_iff.2 h
theorem sixB_is{w:List Int}(hl:w.length=4)(hw:Rg 127 w){bit:Int}(hb:0≤bit∧bit≤1):qay 600 (w++w) [bit,bit] (q10 0)=some (sixB w bit,(0,())):=by
 have hok:=zny hl hw hb
 have h1:=Six_both (ends:=w++w) (more:=[bit,bit]) (which:=q10 0) (fun x hx=> ?_) (fun x hx=> ?_) (fun x hx=> ?_)
 ·rw[h1,if_pos hok]
  rfl
 ·obtain⟨i,hi,rfl⟩:=List.getElem_of_mem hx
  have hr:=q3b hw hw i
  rw[ye,yj hi]at hr
  simp only[Option.getD_some]at hr
  exact ziu (by omega)
 ·simp only[yr,List.not_mem_nil,or_false,or_self]at hx
  exact ziu (by omega)
 ·obtain⟨i,_,rfl⟩:=List.mem_map.1 hx
  exact ziu (by omega)
def zh3(A:List Int):List Int:=qip true false A [0,0,0] [0,0] (q10 0)
theorem ziv{A:List Int}(hA:Rg 31 A):Ok10 true A [0,0,0] [0,0] (q10 0):=by
 refine⟨fun c hc=> ?_,fun i hi=> ?_,by decide,by decide⟩
 ·have:=hA c
  have:c=0∨c=1∨c=2:=by omega
  rcases this with rfl|rfl|rfl<;>exact⟨hA _,by decide⟩
 ·rw[q4o 0 hi]
  decide
theorem zh4{A:List Int}(hl:A.length=3)(hA:Rg 31 A):zk4 (zh3 A)=oneT fun c=>if c=3 then 255 else q1w (q0o 5 (A.getD c 0)+2):=by
 have h:=eP_join (f:=false) (ziv hA) hl rfl rfl (qut 0)
 have e:zk4 (zh3 A)=qd1 true false A [0,0,0] [0,0] (q10 0):=by
  unfold eP at h
  simp only[ym]at h
  obtain⟨h1,h2,h3,h4,h5,h6,_⟩:=h
  unfold zk4 zh3
  rw[h5,h6,h3,h4,h1,h2]
 rw[e,qfc (qs8 true false A [0,0,0] [0,0] (q10 0))]
 unfold oneT
 refine q01 fun j hj=> ?_
 rw[←zns,show((qd1 true false A [0,0,0] [0,0] (q10 0)).drop (j/4*4)).take 4=ze8 (q1c true A [0,0,0]) [0,0] (q10 0) false (j/4)from qom _ (fun _ _=>rfl) (by omega)]
 have hh:=qug false ((j/4:Nat):Int)
 have ha:zgi [0,0] (q10 0) false (j/4)=2:=by
  unfold zgi
  rw[q4o 0 (by omega)]
  have:q3k false ((j/4:Nat):Int)=0∨q3k false ((j/4:Nat):Int)=1:=by omega
  rcases this with h0|h0<;>rw[h0]<;>rfl
 have hz:∀x:Int,x+0=x:=Int.add_zero
 unfold ze8
 rw[ha]
 have hc:j%4=0∨j%4=1∨j%4=2∨j%4=3:=by omega
 have hs:q3k false ((j/4:Nat):Int)=0∨q3k false ((j/4:Nat):Int)=1:=by omega
 rcases hs with h0|h0
 ·rcases hc with h4|h4|h4|h4<;>rw[h4,h0]<;>rfl
 ·have b0:n10 true A [0,0,0] 0=A.getD 0 0:=hz _
  have b1:n10 true A [0,0,0] 1=A.getD 1 0:=hz _
  have b2:n10 true A [0,0,0] 2=A.getD 2 0:=hz _
  unfold q1c
  rw[b0,b1,b2]
  rcases hc with h4|h4|h4|h4<;>rw[h4,h0]<;>rfl
theorem liftB_is{A:List Int}(hA:Rg 31 A):qeg 600 (true,(false,(A,([0,0,0],([0,0],(q10 0,()))))))=some (zh3 A,(0,())):=by
 have h0:∀l:List Int,Rg 31 l→Is64 l:=fun l hl i=>ziu (by have:=hl i;omega)
 have h1:Rg 31 [0,0,0]:=q0j (by decide) (q0j (by decide) (q0j (by decide) (qot (by decide))))
 have h2:Rg 31 [0,0]:=q0j (by decide) (q0j (by decide) (qot (by decide)))
 have h3:Rg 31 (q10 0):=q7g (by decide) fun _ _=>by decide
 have h4:=zn3 (F:=600) (by decide) true false (h0 _ hA) (h0 _ h1) (h0 _ h2) (h0 _ h3)
 rw[h4,if_pos (ziv hA)]
 rfl
end Go.AE.Gn
set_option linter.unusedSimpArgs false
set_option linter.unusedVariables false
namespace Go.AE.Gn
open Go Go.AE
theorem znz{x:Int}(h:0≤x∧x≤255):q1w x=x:=by unfold q1w;omega
theorem zkl(x y z:Int)(c:Nat):0≤(qag x y z).getD c 0∧(qag x y z).getD c 0≤255:=
 (q0j (q0p (by decide) _) (q0j (q0p (by decide) _) (q0j (q0p (by decide) _) (q0j (by decide) (qot (by decide)))))) c
theorem zkm{o:List Int}(ho:∀c,0≤o.getD c 0∧o.getD c 0≤255)(h3:o.getD 3 0=255)(j:Nat):q44 o o o j=o.getD (j%4) 0:=by
 unfold q44 qm0
 split
 ·rename_i h
  rw[h,h3]
 ·rw[Int.sub_self,Int.mul_zero,Int.mul_zero,Int.add_zero,Int.zero_add]
  have:=ho (j%4)
  rw[show(4*o.getD (j%4) 0+2)/4=o.getD (j%4) 0 by omega,znz this]
theorem zo0{n:List Int}(h:ok3 n)(p:Bool):tab 64 (qmf (layV n n n) p)=oneT fun c=>(qag (n.getD 0 0) (n.getD 1 0) (n.getD 2 0)).getD c 0:=by
 unfold oneT
 refine q01 fun j hj=> ?_
 rw[lay_dec]
 unfold qx8
 obtain⟨h1,h2,h3⟩:=zgu (o:=n) (h:=n) (v:=n) ⟨h,h,h⟩
 rw[h1,h2,h3,zkm (zkl _ _ _) rfl]
theorem layB_is{x y z:Int}(h:ok3 [x,y,z]):qhm 600 [x,y,z] [x,y,z] [x,y,z]=some (layV [x,y,z] [x,y,z] [x,y,z],(0,())):=by
 obtain⟨⟨a1,a2⟩,⟨b1,b2⟩,⟨c1,c2⟩⟩:=h
 simp only[yt,yu]at a1 a2 b1 b2 c1 c2
 have r:Rg 127 [x,y,z]:=q0j (by omega) (q0j (by omega) (q0j (by omega) (qot (by decide))))
 have h64:∀i,I64 (([x,y,z]++([x,y,z]++[x,y,z])).getD i 0):=fun i=>by
  have:=q3b r (q3b r r) i
  unfold I64
  omega
 have hk:ok3 [x,y,z]:=⟨⟨a1,a2⟩,⟨b1,b2⟩,⟨c1,c2⟩⟩
 rw[(lay_is rfl rfl rfl h64).1,if_pos ⟨hk,hk,hk⟩]
theorem table0:q5v 600 0=some ([-3,-6,-9,-15,2,5,8,14],()):=by kernel_rfl
theorem table13:q5v 600 13=some ([-1,-2,-3,-10,0,1,2,9],()):=by kernel_rfl
theorem qox{base times table n:Int}(h1:0≤base∧base≤255)(h2:0≤times∧times≤15)(h3:0≤table∧table≤15)(h4:0≤n∧n≤7):EacFit base times table (q10 n):=
 ⟨h1,h2,h3,qut n,fun i hi=>by rw[q4o n hi];exact h4⟩
theorem z8i{base times table n:Int}(h1:0≤base∧base≤255)(h2:0≤times∧times≤15)(h3:0≤table∧table≤15)(h4:0≤n∧n≤7):
  hv (eacJ base times table (q10 n) 19) 0 8=base∧hv (eacJ base times table (q10 n) 19) 8 4=times∧hv (eacJ base times table (q10 n) 19) 12 4=table∧∀i,i<16→(eacW (eacJ base times table (q10 n) 19)).getD i 0=n:=by
 have hf:=qox h1 h2 h3 h4
 refine⟨zb5 hf (j:=0) (by decide),zb5 hf (j:=1) (by decide),zb5 hf (j:=2) (by decide),fun i hi=> ?_⟩
 rw[ziq _ hi]
 have:=zb5 hf (j:=i+3) (by omega)
 rw[show eacV base times table (q10 n) (i+3)=(q10 n).getD i 0 from rfl,q4o n hi]at this
 exact this
theorem zkn{n:Int}(h:0≤n∧n≤255):eacL (eacJ n 0 0 (q10 0) 19) false=q10 n:=by
 obtain⟨p1,p2,p3,p4⟩:=z8i (base:=n) (times:=0) (table:=0) (n:=0) h (by decide) (by decide) (by decide)
 unfold eacL
 rw[p1,p2,p3,table0]
 show tab 16 _=tab 16 _
 refine q01 fun i hi=> ?_
 rw[p4 i hi]
 unfold qos
 simp only[yn,if_false,Int.mul_zero,Int.add_zero]
 omega
theorem z5f{n:Int}(h:0≤n∧n≤255):eacL (eacJ n 1 13 (q10 4) 19) true=q10 (8*n+4):=by
 obtain⟨p1,p2,p3,p4⟩:=z8i (base:=n) (times:=1) (table:=13) (n:=4) h (by decide) (by decide) (by decide)
 unfold eacL
 rw[p1,p2,p3,table13]
 show tab 16 _=tab 16 _
 refine q01 fun i hi=> ?_
 rw[p4 i hi,show([-1,-2,-3,-10,0,1,2,9]:List Int).getD (y6 4) 0=0 from rfl]
 unfold qos
 rw[if_pos rfl,if_neg (by decide),Int.zero_mul,Int.add_zero]
 omega
def z5g:List Int:=[0,0,0,0,255,255,0,0]
theorem z5h:Bytes z5g:=fun x hx=>by
 unfold z5g at hx
 simp only[yr,List.not_mem_nil,or_false]at hx
 omega
theorem zbg:q5k 600 9 z5g=some (tab 64 fun _=>0,(0,())):=by kernel_rfl
theorem z5i:tab 64 (qmf z5g true)=oneT fun _=>0:=by
 have h:=qsc z5h (k:=9) ⟨by decide,by decide⟩ rfl
 simp only[yp]at h
 rw[zbg]at h
 exact(Prod.mk.inj (Option.some.inj h)).1.symm
def bN(L s:List Int)(c:Nat):Int:=(qov L (colT s c):Int)
theorem quu{L:List Int}(h:0<L.length)(s:List Int)(c:Nat):0≤bN L s c∧bN L s c<(L.length:Int):=by
 have:=zbc (L:=L) (l:=colT s c) h
 unfold bN
 omega
theorem zh5(b:Nat):(lvW b).length=2^b:=q0i _ _
theorem qxg:lvP.length=256:=q0i _ _
theorem z5j(bit:Int):(lvS bit).length=128:=q0i _ _
theorem zh6:lvL.length=32:=q0i _ _
theorem zo1:lvF.length=256:=q0i _ _
theorem bN_W{b:Nat}(hb:1≤b∧b≤8)(s:List Int)(c:Nat):0≤bN (lvW b) s c∧bN (lvW b) s c<((2^b:Nat):Int):=by
 have:=quu (L:=lvW b) (by rw[zh5];have:=pow_b hb;omega) s c
 rwa [zh5]at this
theorem bN_P(s:List Int)(c:Nat):0≤bN lvP s c∧bN lvP s c≤255:=by
 have:=quu (L:=lvP) (by rw[qxg];decide) s c
 rw[qxg]at this
 omega
theorem bN_S(bit:Int)(s:List Int)(c:Nat):0≤bN (lvS bit) s c∧bN (lvS bit) s c≤127:=by
 have:=quu (L:=lvS bit) (by rw[z5j];decide) s c
 rw[z5j]at this
 omega
theorem bN_L(s:List Int)(c:Nat):0≤bN lvL s c∧bN lvL s c≤31:=by
 have:=quu (L:=lvL) (by rw[zh6];decide) s c
 rw[zh6]at this
 omega
theorem bN_F(s:List Int)(c:Nat):0≤bN lvF s c∧bN lvF s c≤255:=by
 have:=quu (L:=lvF) (by rw[zo1];decide) s c
 rw[zo1]at this
 omega
def hexN(s:List Int):Int:=bN (lvW 5) s 0*2048+bN (lvW 6) s 1*32+bN (lvW 5) s 2
theorem qpn(s:List Int):0≤hexN s∧hexN s≤65535:=by
 have h0:=bN_W (b:=5) (by decide) s 0
 have h1:=bN_W (b:=6) (by decide) s 1
 have h2:=bN_W (b:=5) (by decide) s 2
 unfold hexN
 omega
theorem hex_or{a b c:Int}(ha:0≤a∧a<32)(hb:0≤b∧b<64)(hc:0≤c∧c<32):ior .i64 (ior .i64 (ishl .i64 a 11) (ishl .i64 b 5)) c=a*2048+b*32+c:=by
 obtain⟨a,rfl⟩:=yh ha.1
 obtain⟨b,rfl⟩:=yh hb.1
 obtain⟨c,rfl⟩:=yh hc.1
 have s1:=ishl64 (a:=a) (k:=11) (by decide) (by omega)
 have s2:=ishl64 (a:=b) (k:=5) (by decide) (by omega)
 have o1:=ior64 (a:=a) (b:=b*2^5) (k:=11) (by omega) (by omega)
 have o2:=ior64 (a:=a*2^6+b) (b:=c) (k:=5) (by omega) (by omega)
 simp only[yp]at s1 s2
 rw[s1,s2,o1,show a*2^11+b*2^5=(a*2^6+b)*2^5 by omega,o2]
 omega
section
variable {t:List Int} (hl:t.length=64) (ht:Rg 2047 t)
include hl ht
theorem zbh:qpc 600 t=some (hexB (hexN t),()):=by
 have h0:=qfj hl ht (c:=0) (by decide) (b:=5) (by decide)
 have h1:=qfj hl ht (c:=1) (by decide) (b:=6) (by decide)
 have h2:=qfj hl ht (c:=2) (by decide) (b:=5) (by decide)
 simp only[yp,yq,Int.natCast_one]at h0 h1 h2
 have b0:=bN_W (b:=5) (by decide) t 0
 have b1:=bN_W (b:=6) (by decide) t 1
 have b2:=bN_W (b:=5) (by decide) t 2
 have e:=hex_or (a:=bN (lvW 5) t 0) (b:=bN (lvW 6) t 1) (c:=bN (lvW 5) t 2) ⟨b0.1,b0.2⟩ ⟨b1.1,b1.2⟩ ⟨b2.1,b2.2⟩
 have hj:=hexB_is (qpn t)
 have hs:=qe5 0
 unfold bN at e
 unfold q10 at hj
 unfold qpc
 simp only[h0,h1,h2,y5,e,hs]
 have en:(qov (lvW 5) (colT t 0):Int)*2048+(qov (lvW 6) (colT t 1):Int)*32+(qov (lvW 5) (colT t 2):Int)=hexN t:=rfl
 rw[en,hj]
 simp only[y5]
theorem quv{c:Nat}(hc:c<4):qeo 600 t c=some (qfn (bN lvP t c),()):=by
 have h0:=z8g hl ht hc
 have hs:=qe5 0
 have hj:=rampB_is (bN_P t c)
 unfold q10 bN at hj
 unfold qeo
 simp only[h0,y5,hs,hj]
 rfl
theorem z5k{c:Nat}(hc:c<4):qe2 600 t c=some (eacJ (bN lvF t c) 1 13 (q10 4) 19,()):=by
 have h0:=znw hl ht hc
 have hs:=qe5 4
 have hj:=znq (F:=600) (by decide) (qox (base:=bN lvF t c) (times:=1) (table:=13) (n:=4) (by have:=bN_F t c;omega) (by decide) (by decide) (by decide))
 unfold q10 bN at hj
 unfold qe2
 simp only[h0,y5,hs,hj]
 rfl
def plN(s:List Int):List Int:=[bN (lvW 6) s 0,bN (lvW 7) s 1,bN (lvW 6) s 2]
omit hl ht in
theorem plN_ok(s:List Int):ok3 (plN s):=by
 have b0:=bN_W (b:=6) (by decide) s 0
 have b1:=bN_W (b:=7) (by decide) s 1
 have b2:=bN_W (b:=6) (by decide) s 2
 exact⟨⟨b0.1,b0.2⟩,⟨b1.1,b1.2⟩,⟨b2.1,b2.2⟩⟩
def plB(s:List Int):List Int:=layV (plN s) (plN s) (plN s)
theorem qsd:qb3 600 t=some (plB t,()):=by
 have h0:=qfj hl ht (c:=0) (by decide) (b:=6) (by decide)
 have h1:=qfj hl ht (c:=1) (by decide) (b:=7) (by decide)
 have h2:=qfj hl ht (c:=2) (by decide) (b:=6) (by decide)
 simp only[yp,yq,Int.natCast_one]at h0 h1 h2
 have hj:=layB_is (plN_ok t)
 unfold bN at hj
 unfold qb3
 simp only[h0,h1,h2,y5,hj]
 rfl
theorem zez(A T S U:List Int)(hA:A.length=3):q4u 600 600 t A T S U 0=some (tab 3 fun c=>bN lvL t c,(T,(S,(U,())))):=by
 refine qae 3 (fun c=>bN lvL t c) (fun k w i=>q4u 600 k t w T S U i) (fun w=>some (w,(T,(S,(U,()))))) ?_ ?_ A hA 600 (by omega)
 ·intro k i w hi hw
  show q9w 600 (q4u 600 k) _ _ _ _ _ _=_
  unfold q9w
  have h3:(i:Int)<3:=by omega
  simp only[h3,decide_true,cond_true,zkk hl ht (show i<4 by omega),y5,yc,yd,yb,q0n (show i<1000000000000 by omega)]
  rfl
 ·intro k w hw
  rfl
def liN(s:List Int):List Int:=tab 3 fun c=>bN lvL s c
theorem zh7:qjo 600 t=some (zh3 (liN t),()):=by
 have hj:=liftB_is (A:=liN t) (q7g (by decide) fun c _=>bN_L t c)
 unfold qjo
 rw[zez hl ht _ _ _ _ rfl]
 simp only[y5]
 rw[show q8f=q10 0 from rfl,show(tab 3 fun c=>bN lvL t c)=liN t from rfl,hj]
 simp only[y5]
theorem zo2(bit:Int)(hb:0≤bit∧bit≤1)(A:List Int)(hA:A.length=4):q4t 600 600 t bit A 0=some (bit,(tab 4 fun c=>bN (lvS bit) t c,())):=by
 refine qae 4 (fun c=>bN (lvS bit) t c) (fun k w i=>q4t 600 k t bit w i) (fun w=>some (bit,(w,()))) ?_ ?_ A hA 600 (by omega)
 ·intro k i w hi hw
  show q9v 600 (q4t 600 k) _ _ _ _=_
  unfold q9v
  have h3:(i:Int)<4:=by omega
  simp only[h3,decide_true,cond_true,sixb_is hl ht (show i<4 by omega) hb,y5,yc,yd,yb,q0n (show i<1000000000000 by omega)]
  rfl
 ·intro k w hw
  rfl
def siN(bit:Int)(s:List Int):List Int:=tab 4 fun c=>bN (lvS bit) s c
theorem ziw{bit:Int}(hb:0≤bit∧bit≤1):qep 600 bit t=some (sixB (siN bit t) bit,()):=by
 have hj:=sixB_is (w:=siN bit t) (q0i _ _) (q7g (by decide) fun c _=>bN_S bit t c) hb
 have hs:=qe5 0
 unfold qep
 rw[zo2 hl ht bit hb _ rfl]
 simp only[y5]
 rw[hs]
 simp only[y5]
 rw[show(tab 16 fun _=>(0:Int))=q10 0 from rfl,show(tab 4 fun c=>bN (lvS bit) t c)=siN bit t from rfl,hj]
 simp only[y5]
end
end Go.AE.Gn
set_option linter.unusedSimpArgs false
set_option linter.unusedVariables false
namespace Go.AE.Gn
open Go Go.AE
theorem zf0{t:List Int}(hl:t.length=64){i:Nat}(hi:i<16):∀(d c k:Nat),c+d=4→d<k→
  q2s 600 k t (i:Int) (y8 4 (y9 (i*4) t)) (c:Int)=some (.inl ())∨(q2s 600 k t (i:Int) (y8 4 (y9 (i*4) t)) (c:Int)=some (.inr (t,((i:Int),())))∧∀c',c≤c' →c' <4→0≤t.getD (i*4+c') 0∧t.getD (i*4+c') 0≤255):=by
 intro d
 induction d with
 |zero=>
  intro c k h1 h2
  obtain⟨k,rfl⟩:∃k',k=k' +1:=⟨k-1,by omega⟩
  obtain rfl:c=4:=by omega
  exact .inr ⟨rfl,fun c' h h' =>by omega⟩
 |succ d ih=>
  intro c k h1 h2
  obtain⟨k,rfl⟩:∃k',k=k' +1:=⟨k-1,by omega⟩
  have e:q2s 600 (k+1) t (i:Int) (y8 4 (y9 (i*4) t)) (c:Int)=q6b 600 (q2s 600 k) t i (y8 4 (y9 (i*4) t)) c:=rfl
  rw[e]
  unfold q6b
  have h4:(c:Int)<4:=by omega
  simp only[h4,decide_true,cond_true,yc,yd,yb,q0n (show c<1000000000000 by omega),qyi hl hi (show c<4 by omega)]
  by_cases v1:t.getD (i*4+c) 0<0
  ·left
   simp only[v1,decide_true,cond_true]
  ·simp only[v1,decide_false,cond_false]
   by_cases v2:255<t.getD (i*4+c) 0
   ·left
    simp only[v2,decide_true,cond_true]
   ·simp only[v2,decide_false,cond_false]
    rcases ih (c+1) k (by omega) (by omega)with h|⟨h,h'⟩
    ·exact .inl h
    ·refine .inr ⟨h,fun c' g1 g2=> ?_⟩
     by_cases hc:c' =c
     ·subst hc;omega
     ·exact h' c' (by omega) g2
theorem zf1{t:List Int}(hl:t.length=64):∀(d i k:Nat),i+d=16→d<k→
  q2t 600 k t (i:Int)=some (.inl ())∨(q2t 600 k t (i:Int)=some (.inr ())∧∀j,i*4≤j→j<64→0≤t.getD j 0∧t.getD j 0≤255):=by
 intro d
 induction d with
 |zero=>
  intro i k h1 h2
  obtain⟨k,rfl⟩:∃k',k=k' +1:=⟨k-1,by omega⟩
  obtain rfl:i=16:=by omega
  exact .inr ⟨rfl,fun j h h' =>by omega⟩
 |succ d ih=>
  intro i k h1 h2
  obtain⟨k,rfl⟩:∃k',k=k' +1:=⟨k-1,by omega⟩
  have e:q2t 600 (k+1) t (i:Int)=q6c 600 (q2t 600 k) t i:=rfl
  rw[e]
  unfold q6c
  have h3:(i:Int)<16:=by omega
  simp only[h3,decide_true,cond_true,yc,yd,yb]
  rcases zf0 hl (i:=i) (by omega) 4 0 600 (by omega) (by omega)with h|⟨h,h'⟩
  ·left
   rw[show((0:Nat):Int)=0 from rfl]at h
   rw[h]
   rfl
  ·rw[show((0:Nat):Int)=0 from rfl]at h
   rw[h]
   simp only[y5,q0n (show i<1000000000000 by omega)]
   rcases ih (i+1) k (by omega) (by omega)with g|⟨g,g'⟩
   ·exact .inl g
   ·refine .inr ⟨g,fun j h1 h2=> ?_⟩
    by_cases hj:j<(i+1)*4
    ·have:=h' (j-i*4) (by omega) (by omega)
     rwa [show i*4+(j-i*4)=j by omega]at this
    ·exact g' j (by omega) h2
theorem zbi{t:List Int}(hl:t.length=64):(q4d 600 t=some (true,())∧Rg 255 t)∨q4d 600 t=some (false,()):=by
 unfold q4d
 rcases zf1 hl 16 0 600 (by omega) (by omega)with h|⟨h,h'⟩
 ·right
  rw[show((0:Nat):Int)=0 from rfl]at h
  rw[h]
  rfl
 ·left
  rw[show((0:Nat):Int)=0 from rfl]at h
  rw[h]
  refine⟨rfl,fun j=> ?_⟩
  by_cases hj:j<64
  ·exact h' j (by omega) hj
  ·rw[z57 (by omega)]
   decide
def z7e(k:Nat)(s a b:List Int):List Int:=if q7y k b s<q7y k a s then b else a
theorem zo3{k:Nat}(h:Fmt k){s a b:List Int}(hl:s.length=64)(hs:Rg 255 s)(ha:Bytes a)(hb:Bytes b)(la:a.length=q7j k)(lb:b.length=q7j k):qeq 600 k s a b=some (z7e k s a b,()):=by
 unfold qeq z7e
 rw[qpk ha h la hl hs,qpk hb h lb hl hs]
 simp only[y5]
 by_cases hlt:q7y k b s<q7y k a s
 ·simp only[hlt,decide_true,cond_true,if_true]
 ·simp only[hlt,decide_false,cond_false,if_false]
def q7k(k:Nat)(s:List Int):List Int:=match k with
 |1=>hexB (hexN s)
 |2=>qyj (bN (lvW 4) s 3)++hexB (hexN s)
 |3=>qfn (bN lvP s 3)++hexB (hexN s)
 |4=>qfn (bN lvP s 0)
 |5=>qfn (bN lvP s 0)++qfn (bN lvP s 1)
 |6=>z7e 6 s (sixB (siN 0 s) 0) (sixB (siN 1 s) 1)
 |7=>zh3 (liN s)
 |8=>plB s
 |9=>z7e 9 s (plB s) z5g
 |10=>eacJ (bN lvP s 3) 0 0 (q10 0) 19++plB s
 |11=>eacJ (bN lvF s 0) 1 13 (q10 4) 19
 |_=>eacJ (bN lvF s 0) 1 13 (q10 4) 19++eacJ (bN lvF s 1) 1 13 (q10 4) 19
def Okb(n:Nat)(b:List Int):Prop:=Bytes b∧b.length=n
theorem z5l{n m:Nat}{a b:List Int}(ha:Okb n a)(hb:Okb m b):Okb (n+m) (a++b):=
 ⟨fun x hx=>(yk.1 hx).elim (ha.1 x) (hb.1 x),by rw[yo,ha.2,hb.2]⟩
theorem zix{n k:Nat}{s a b:List Int}(ha:Okb n a)(hb:Okb n b):Okb n (z7e k s a b):=by
 unfold z7e
 split
 ·exact hb
 ·exact ha
theorem qse(n:Int):Okb 8 (hexB n):=⟨qgn _ _ _ _,qwx _ _ _ _⟩
theorem quw(n:Int):Okb 8 (qyj n):=⟨qgn _ _ _ _,qwx _ _ _ _⟩
theorem q8i(n:Int):Okb 8 (qfn n):=⟨qgn _ _ _ _,qwx _ _ _ _⟩
theorem qbw(w:List Int)(bit:Int):Okb 16 (sixB w bit):=⟨q8r _ _ _ qfe 26,zig _ _ _⟩
theorem zo4(A:List Int):Okb 8 (zh3 A):=⟨zeb _ _ _ _ _ _,zk6 _ _ _ _ _ _⟩
theorem qyk(s:List Int):Okb 8 (plB s):=zgs _ _ _
theorem z15(a b c:Int)(w:List Int):Okb 8 (eacJ a b c w 19):=⟨zkh _ _ _ _,qdr _ _ _ _⟩
theorem bareB_ok:Okb 8 z5g:=⟨z5h,rfl⟩
theorem qkk(s:List Int){k:Nat}(h:Fmt k):Okb (q7j k) (q7k k s):=
 qfi (p:=fun k=>Okb (q7j k) (q7k k s)) (qse _) (z5l (quw _) (qse _)) (z5l (q8i _) (qse _)) (q8i _) (z5l (q8i _) (q8i _)) (zix (qbw _ _) (qbw _ _)) (zo4 _) (qyk _)
  (zix (qyk _) bareB_ok) (z5l (z15 _ _ _ _) (qyk _)) (z15 _ _ _ _) (z5l (z15 _ _ _ _) (z15 _ _ _ _)) h
section
variable {t:List Int} (hl:t.length=64)
include hl
theorem blk_1(ht:Rg 255 t):q0g 600 1 t=some (q7k 1 t,()):=by
 have h:=zbh hl (q2l ht (by decide))
 unfold q0g
 simp only[Int.reduceBEq,cond_false,h,y5]
 rfl
theorem blk_2(ht:Rg 255 t):q0g 600 2 t=some (q7k 2 t,()):=by
 have h:=zbh hl (q2l ht (by decide))
 have h1:=qfj hl (q2l ht (by decide)) (c:=3) (by decide) (b:=4) (by decide)
 have h2:=znx (n:=bN (lvW 4) t 3) (bN_W (b:=4) (by decide) t 3)
 simp only[yp]at h1
 unfold q10 bN at h2
 unfold q0g
 simp only[Int.reduceBEq,cond_true,h1,qe5,h2,h,y5,(quw _).2,(qse _).2,show(8+8≤1099511627776)=True by simp,decide_true,yd]
 rfl
theorem blk_3(ht:Rg 255 t):q0g 600 3 t=some (q7k 3 t,()):=by
 have h:=zbh hl (q2l ht (by decide))
 have h1:=quv hl (q2l ht (by decide)) (c:=3) (by decide)
 simp only[yp]at h1
 unfold q0g
 simp only[Int.reduceBEq,cond_true,cond_false,h1,h,y5,(q8i _).2,(qse _).2,show(8+8≤1099511627776)=True by simp,decide_true,yd]
 rfl
theorem blk_4(ht:Rg 255 t):q0g 600 4 t=some (q7k 4 t,()):=by
 have h1:=quv hl (q2l ht (by decide)) (c:=0) (by decide)
 simp only[yq]at h1
 unfold q0g
 simp only[Int.reduceBEq,cond_true,cond_false,h1,y5]
 rfl
theorem blk_5(ht:Rg 255 t):q0g 600 5 t=some (q7k 5 t,()):=by
 have h1:=quv hl (q2l ht (by decide)) (c:=0) (by decide)
 have h2:=quv hl (q2l ht (by decide)) (c:=1) (by decide)
 simp only[yq,Int.natCast_one]at h1 h2
 unfold q0g
 simp only[Int.reduceBEq,cond_true,cond_false,h1,h2,y5,(q8i _).2,show(8+8≤1099511627776)=True by simp,decide_true,yd]
 rfl
theorem blk_6(ht:Rg 255 t):q0g 600 6 t=some (q7k 6 t,()):=by
 have h1:=ziw hl (q2l ht (by decide)) (bit:=0) (by decide)
 have h2:=ziw hl (q2l ht (by decide)) (bit:=1) (by decide)
 have h3:=zo3 (k:=6) ⟨by decide,by decide⟩ hl ht (qbw (siN 0 t) 0).1 (qbw (siN 1 t) 1).1 (qbw (siN 0 t) 0).2 (qbw (siN 1 t) 1).2
 simp only[yp]at h3
 unfold q0g z98
 simp only[Int.reduceBEq,cond_true,cond_false,h1,h2,h3,y5]
 rfl
theorem blk_7(ht:Rg 255 t):q0g 600 7 t=some (q7k 7 t,()):=by
 have h:=zh7 hl (q2l ht (by decide))
 unfold q0g
 simp only[Int.reduceBEq,cond_true,cond_false,h,y5]
 rfl
theorem blk_8(ht:Rg 255 t):q0g 600 8 t=some (q7k 8 t,()):=by
 have h:=qsd hl (q2l ht (by decide))
 unfold q0g
 simp only[Int.reduceBEq,cond_true,cond_false,h,y5]
 rfl
theorem blk_9(ht:Rg 255 t):q0g 600 9 t=some (q7k 9 t,()):=by
 have h:=qsd hl (q2l ht (by decide))
 have h3:=zo3 (k:=9) ⟨by decide,by decide⟩ hl ht (qyk t).1 bareB_ok.1 (qyk t).2 bareB_ok.2
 simp only[yp]at h3
 unfold q0g
 rw[show qn6=z5g from rfl]
 simp only[Int.reduceBEq,cond_true,cond_false,h,h3,y5]
 rfl
theorem blk_10(ht:Rg 255 t):q0g 600 10 t=some (q7k 10 t,()):=by
 have h:=qsd hl (q2l ht (by decide))
 have h1:=z8g hl (q2l ht (by decide)) (c:=3) (by decide)
 have h2:=znq (F:=600) (by decide) (qox (base:=bN lvP t 3) (times:=0) (table:=0) (n:=0) (bN_P t 3) (by decide) (by decide) (by decide))
 simp only[yp]at h1
 unfold q10 bN at h2
 unfold q0g
 simp only[Int.reduceBEq,cond_true,cond_false,h1,qe5,h2,h,y5,(qyk _).2,qdr,show(8+8≤1099511627776)=True by simp,decide_true,yd]
 rfl
theorem blk_11(ht:Rg 2047 t):q0g 600 11 t=some (q7k 11 t,()):=by
 have h1:=z5k hl ht (c:=0) (by decide)
 simp only[yq]at h1
 unfold q0g
 simp only[Int.reduceBEq,cond_true,cond_false,h1,y5]
 rfl
theorem blk_12(ht:Rg 2047 t):q0g 600 12 t=some (q7k 12 t,()):=by
 have h1:=z5k hl ht (c:=0) (by decide)
 have h2:=z5k hl ht (c:=1) (by decide)
 simp only[yq,Int.natCast_one]at h1 h2
 unfold q0g
 simp only[Int.reduceBEq,cond_true,cond_false,h1,h2,y5,qdr,show(8+8≤1099511627776)=True by simp,decide_true,yd]
 rfl
theorem blk_is{k:Nat}(h:Fmt k):Rg (qqz k) t→q0g 600 k t=some (q7k k t,()):=
 qfi (p:=fun k=>Rg (qqz k) t→q0g 600 (k:Int) t=some (q7k k t,())) (fun h=>blk_1 hl h) (fun h=>blk_2 hl h) (fun h=>blk_3 hl h) (fun h=>blk_4 hl h) (fun h=>blk_5 hl h) (fun h=>blk_6 hl h) (fun h=>blk_7 hl h) (fun h=>blk_8 hl h) (fun h=>blk_9 hl h) (fun h=>blk_10 hl h) (fun h=>blk_11 hl h) (fun h=>blk_12 hl h) h
end
theorem zbj(f:Int){t:List Int}(hl:t.length=64):(∃e,e≠0∧q36 600 f t=some ([],(e,())))∨(∃k,Fmt k∧f=(k:Int)∧Rg 255 t∧q36 600 f t=some (q7k k (scT k t),(0,()))):=by
 by_cases h:1≤f∧f≤12
 ·obtain⟨k,hk,rfl⟩:=fmt_of h
  unfold q36
  rw[zki 600 hk]
  simp only[y5,bne_self_eq_false,cond_false]
  rcases zbi hl with⟨h1,ht⟩|h1
  ·right
   refine⟨k,hk,rfl,ht, ?_⟩
   rw[h1]
   simp only[y5,Bool.not_true,cond_false,zbb hk hl ht,blk_is (znu hl) hk (zis ht)]
  ·left
   refine⟨1,by decide, ?_⟩
   rw[h1]
   simp only[y5,Bool.not_false,cond_true]
 ·left
  refine⟨5,by decide, ?_⟩
  unfold q36
  rw[Of_bad 600 h]
  rfl
end Go.AE.Gn
set_option linter.unusedSimpArgs false
set_option linter.unusedVariables false
namespace Go.AE.Gn
open Go Go.AE
theorem sqN(x:Int):0≤x*x:=(qur (m:=(x.natAbs:Int)) (by omega)).1
theorem costL_alike{n v:Int}:qmg (q10 n) v=0↔v=n:=by
 unfold qmg
 rw[z5a fun i _=>sqN _,qut]
 constructor
 ·intro h
  have:=h 0 (by decide)
  rw[q4o n (by decide),zgy]at this
  omega
 ·intro h i hi
  rw[q4o n hi,h,Int.sub_self]
  rfl
theorem zf2(l:List Int)(v:Int):0≤qmg l v:=by
 unfold qmg
 have key:∀n,0≤sumN (fun i=>(l.getD i 0-v)*(l.getD i 0-v)) n:=by
  intro n
  induction n with
  |zero=>exact Int.le_refl 0
  |succ n ih=>
   unfold sumN
   have:=sqN (l.getD n 0-v)
   omega
 exact key _
theorem qxh{L:List Int}{n:Int}{i:Nat}(hi:i<L.length)(h:L.getD i 0=n):L.getD (qov L (q10 n)) 0=n:=by
 have h1:=bestV_le L (q10 n) hi
 rw[h,costL_alike.2 rfl]at h1
 have h2:=zf2 (q10 n) (L.getD (qov L (q10 n)) 0)
 exact costL_alike.1 (by omega)
theorem z16(v:Nat→Int){c:Nat}(hc:c<4):colT (oneT v) c=q10 (v c):=by
 unfold colT
 show tab 16 _=tab 16 _
 refine q01 fun i hi=> ?_
 rw[show oneT v=tab 64 fun j=>v (j%4)from rfl,q1o (show i*4+c<64 by omega),show(i*4+c)%4=c by omega]
theorem qkl{m:Int}(hm:0≤m){v:Nat→Int}(h:∀c,c<4→0≤v c∧v c≤m):Rg m (oneT v):=q7g hm fun j _=>h _ (by omega)
theorem six_is{bit:Int}(hb:0≤bit∧bit≤1)(s:List Int):q7y 6 (sixB (siN bit s) bit) s=errS 15 s (oneT fun c=>2*(siN bit s).getD c 0+bit):=by
 have h:=z8h (w:=siN bit s) (q0i _ _) (q7g (by decide) fun c _=>bN_S bit s c) hb
 show errS 15 s (qgp (sixB (siN bit s) bit))=_
 rw[h]
theorem zh8(bit:Int)(s:List Int){c:Nat}(hc:c<4):(siN bit s).getD c 0=bN (lvS bit) s c:=q1o hc
theorem zf3{v:Nat→Int}(hv:∀c,c<4→0≤v c∧v c≤255){bit:Int}(hb:0≤bit∧bit≤1)(h:∀c,c<4→v c%2=bit):q7y 6 (sixB (siN bit (oneT v)) bit) (oneT v)=0:=by
 rw[six_is hb,zeq (q2l (qkl (by decide) hv) (by decide)) (q2l (qkl (m:=255) (by decide) fun c hc=>by rw[zh8 _ _ hc];have:=bN_S bit (oneT v) c;omega) (by decide))]
 intro j hj _
 have hc:j%4<4:=by omega
 rw[show(oneT v).getD j 0=v (j%4)from q1o hj,show(oneT fun c=>2*(siN bit (oneT v)).getD c 0+bit).getD j 0=2*(siN bit (oneT v)).getD (j%4) 0+bit from q1o hj,zh8 _ _ hc]
 unfold bN
 rw[z16 v hc]
 have h1:=hv _ hc
 have h2:=h _ hc
 have h3:=qxh (L:=lvS bit) (n:=v (j%4)) (i:=(v (j%4)/2).toNat) (by rw[z5j];omega) (by
  unfold lvS
  rw[q1o (by omega)]
  omega)
 have h4:=zbc (L:=lvS bit) (l:=q10 (v (j%4))) (by rw[z5j];decide)
 rw[z5j]at h4
 unfold lvS at h3⊢
 unfold lvS at h4
 rw[q1o h4]at h3
 exact h3.symm
theorem z5m{k:Nat}{s a b:List Int}(h:q7y k a s=0∨q7y k b s=0)(ha:0≤q7y k a s)(hb:0≤q7y k b s):q7y k (z7e k s a b) s=0:=by
 unfold z7e
 split<;>omega
theorem q9e{k:Nat}(h:Fmt k){b s:List Int}(hb:Bytes b)(hs:Rg 255 s):0≤q7y k b s:=
 zgz (q2l (zis hs) (qus k)) (q2l (zba hb h) (qus k))
def z7f:List Int:=oneT fun c=>[7,1,2,3].getD c 0
def zbk:List Int:=oneT fun c=>[1,3,255,7].getD c 0
def mix14:List Int:=oneT fun c=>[1,2,255,7].getD c 0
theorem q4f{p:Nat→Prop}(h0:p 0)(h1:p 1)(h2:p 2)(h3:p 3):∀c,c<4→p c:=fun c hc=>by
 have:c=0∨c=1∨c=2∨c=3:=by omega
 rcases this with rfl|rfl|rfl|rfl<;>assumption
theorem rg_red:Rg 255 z7f:=qkl (by decide) (q4f (by decide) (by decide) (by decide) (by decide))
theorem zo5:Rg 255 zbk:=qkl (by decide) (q4f (by decide) (by decide) (by decide) (by decide))
theorem rg_mix:Rg 255 mix14:=qkl (by decide) (q4f (by decide) (by decide) (by decide) (by decide))
theorem fmt6:Fmt 6:=⟨by decide,by decide⟩
theorem alone14:qrj 600 [7,1,2,3]=some (z7f,()):=by kernel_rfl
theorem exl14:q3g 600 600 6 [1,3,255,7] q23 0=some (6,(zbk,()))∧q3g 600 600 6 [1,2,255,7] q23 0=some (6,(mix14,())):=by constructor<;>kernel_rfl
theorem byt14:q4d 600 z7f=some (true,())∧q4d 600 zbk=some (true,())∧q4d 600 mix14=some (true,()):=by refine⟨?_, ?_, ?_⟩<;>kernel_rfl
theorem col14_0:q8o 600 7 q23=some ([2,2,2,255],(0,())):=by kernel_rfl
theorem qxi{k:Nat}(hk:Fmt k){t:List Int}(hl:t.length=64)(ht:Rg 255 t)(hb:q4d 600 t=some (true,())):q36 600 k t=some (q7k k (scT k t),(0,())):=by
 unfold q36
 rw[zki 600 hk,hb]
 simp only[y5,bne_self_eq_false,cond_false,Bool.not_true,zbb hk hl ht,blk_is (znu hl) hk (zis ht)]
theorem zo6:q36 600 4 z7f=some ([7,7,0,0,0,0,0,0],(0,())):=by
 have h:=qxi (k:=4) ⟨by decide,by decide⟩ (t:=z7f) (q0i _ _) rg_red byt14.1
 simp only[yp]at h
 rw[h]
 have e:scT 4 z7f=z7f:=rfl
 have e2:bN lvP z7f 0=7:=by
  unfold bN z7f
  rw[z16 _ (by decide)]
  have h3:=qxh (L:=lvP) (n:=([7,1,2,3]:List Int).getD 0 0) (i:=7) (by rw[qxg];decide) (by unfold lvP;rw[q1o (by decide)];rfl)
  have h4:=zbc (L:=lvP) (l:=q10 (([7,1,2,3]:List Int).getD 0 0)) (by rw[qxg];decide)
  rw[qxg]at h4
  unfold lvP at h3 h4⊢
  rw[q1o h4]at h3
  exact h3
 rw[e]
 show some (qfn (bN lvP z7f 0),(0,()))=_
 rw[e2]
 have:qfn 7=[7,7,0,0,0,0,0,0]:=by decide+kernel
 rw[this]
theorem exact6{t x:List Int}(hl:t.length=64)(ht:Rg 255 t)(hb:q4d 600 t=some (true,()))(hx:q3g 600 600 6 x q23 0=some (6,(t,()))):q6d 600 6 x=some (q7y 6 (q7k 6 t) t==0,()):=by
 have h:=qxi fmt6 hl ht hb
 have h2:=qpk (qkk t fmt6).1 fmt6 (qkk t fmt6).2 hl ht
 have e:scT 6 t=t:=rfl
 simp only[yp,e]at h h2
 unfold q6d
 rw[hx]
 simp only[y5,h,bne_self_eq_false,cond_false,h2]
theorem zo7:q6d 600 6 [1,3,255,7]=some (true,()):=by
 rw[exact6 (t:=zbk) (q0i _ _) zo5 byt14.2.1 exl14.1]
 have h:=z5m (k:=6) (s:=zbk) (a:=sixB (siN 0 zbk) 0) (b:=sixB (siN 1 zbk) 1) (.inr (zf3 (v:=fun c=>[1,3,255,7].getD c 0) (q4f (by decide) (by decide) (by decide) (by decide)) (by decide) (q4f rfl rfl rfl rfl))) (q9e fmt6 (qbw _ _).1 zo5) (q9e fmt6 (qbw _ _).1 zo5)
 have h2:q7y 6 (q7k 6 zbk) zbk=0:=h
 rw[h2]
 rfl
theorem ziy{bit:Int}(hb:0≤bit∧bit≤1):q7y 6 (sixB (siN bit mix14) bit) mix14≠0:=by
 rw[six_is hb]
 intro h
 rw[zeq (q2l rg_mix (by decide)) (q2l (qkl (m:=255) (by decide) fun c hc=>by rw[zh8 _ _ hc];have:=bN_S bit mix14 c;omega) (by decide))]at h
 have h0:=h 0 (by decide) rfl
 have h1:=h 1 (by decide) rfl
 rw[show(oneT fun c=>2*(siN bit mix14).getD c 0+bit).getD 0 0=2*(siN bit mix14).getD 0 0+bit from q1o (by decide),show mix14.getD 0 0=1 from rfl]at h0
 rw[show(oneT fun c=>2*(siN bit mix14).getD c 0+bit).getD 1 0=2*(siN bit mix14).getD 1 0+bit from q1o (by decide),show mix14.getD 1 0=2 from rfl]at h1
 omega
theorem zo8:q6d 600 6 [1,2,255,7]=some (false,()):=by
 rw[exact6 (t:=mix14) (q0i _ _) rg_mix byt14.2.2 exl14.2]
 have h2:q7y 6 (q7k 6 mix14) mix14≠0:=by
  show q7y 6 (z7e 6 mix14 (sixB (siN 0 mix14) 0) (sixB (siN 1 mix14) 1)) mix14≠0
  unfold z7e
  split
  ·exact ziy (by decide)
  ·exact ziy (by decide)
 rw[beqF h2]
theorem awake14:qjq 600=some (true,()):=by
 have h0:q36 600 0 q23=some ([],(5,())):=by kernel_rfl
 unfold qjq
 rw[alone14]
 simp only[y5,zo6,col14_0,h0,zo7,zo8]
 rfl
end Go.AE.Gn
set_option linter.unusedSimpArgs false
set_option linter.unusedVariables false
namespace Go.AE.Gn
open Go Go.AE
theorem zf4{a b:List Int}(la:a.length=8):lo13 (a++b)=a:=by
 unfold lo13
 rw[←la,List.take_left]
theorem zf5{a b:List Int}(la:a.length=8)(lb:b.length=8):hi13 (a++b)=b:=by
 unfold hi13
 rw[yo,la,lb,show 8+8-8=8 from rfl]
 conv=>lhs;rw[←la]
 rw[List.drop_left,List.take_of_length_le (by omega)]
theorem z17(v:Nat→Int){j:Nat}(hj:j<64):(oneT v).getD j 0=v (j%4):=q1o hj
theorem qux(c:Nat)(n:Int)(v:Nat→Int):wT c (q10 n) (oneT v)=oneT fun q=>if q=c then n else v q:=by
 unfold wT
 show tab 64 _=tab 64 _
 refine q01 fun j hj=> ?_
 rw[q4o n (show j/4<16 by omega),z17 v hj]
theorem quy(a:Int):qfh a=oneT fun q=>if q=3 then a else 0:=rfl
def hxC(s:List Int)(c:Nat):Int:=(colV (hexN s)).getD c 0
def plC(s:List Int)(c:Nat):Int:=(qag (bN (lvW 6) s 0) (bN (lvW 7) s 1) (bN (lvW 6) s 2)).getD c 0
def siC(bit:Int)(s:List Int)(c:Nat):Int:=2*(siN bit s).getD c 0+bit
def liC(s:List Int)(c:Nat):Int:=if c=3 then 255 else q1w (q0o 5 ((liN s).getD c 0)+2)
def b6(s:List Int):Prop:=q7y 6 (sixB (siN 1 s) 1) s<q7y 6 (sixB (siN 0 s) 0) s
def b9(s:List Int):Prop:=q7y 9 z5g s<q7y 9 (plB s) s
instance (s:List Int):Decidable (b6 s):=by unfold b6;exact inferInstance
instance (s:List Int):Decidable (b9 s):=by unfold b9;exact inferInstance
def q45(k:Nat)(s:List Int):Nat→Int:=match k with
 |1=>hxC s
 |2=>fun q=>if q=3 then q0o 4 (bN (lvW 4) s 3)else hxC s q
 |3=>fun q=>if q=3 then bN lvP s 3 else hxC s q
 |4=>fun q=>if q=0 then bN lvP s 0 else if q=3 then 255 else 0
 |5=>fun q=>if q=1 then bN lvP s 1 else if q=0 then bN lvP s 0 else if q=3 then 255 else 0
 |6=>if b6 s then siC 1 s else siC 0 s
 |7=>liC s
 |8=>plC s
 |9=>if b9 s then fun _=>0 else plC s
 |10=>fun q=>if q=3 then bN lvP s 3 else plC s q
 |11=>fun q=>if q=0 then 8*bN lvF s 0+4 else if q=3 then 2047 else 0
 |_=>fun q=>if q=1 then 8*bN lvF s 1+4 else if q=0 then 8*bN lvF s 0+4 else if q=3 then 2047 else 0
theorem ziz(s:List Int)(p:Bool):tab 64 (qmf (plB s) p)=oneT (plC s):=zo0 (plN_ok s) p
theorem si_dec{bit:Int}(hb:0≤bit∧bit≤1)(s:List Int):qgp (sixB (siN bit s) bit)=oneT (siC bit s):=z8h (q0i _ _) (q7g (by decide) fun c _=>bN_S bit s c) hb
theorem z5n(s:List Int){k:Nat}(h:Fmt k):qfm k (q7k k s)=oneT (q45 k s):=by
 refine qfi (p:=fun k=>qfm k (q7k k s)=oneT (q45 k s)) ?_ ?_ ?_ ?_ ?_ ?_ ?_ ?_ ?_ ?_ ?_ ?_ h
 ·exact qxf (qpn s) false
 ·show wT 3 (zg8 (lo13 (qyj (bN (lvW 4) s 3)++hexB (hexN s)))) (z59 (hi13 (qyj (bN (lvW 4) s 3)++hexB (hexN s))) true)=_
  rw[zf4 (quw _).2,zf5 (quw _).2 (qse _).2,zey (bN_W (b:=4) (by decide) s 3),qxf (qpn s) true,qux]
  rfl
 ·show wT 3 (quc (lo13 (qfn (bN lvP s 3)++hexB (hexN s)))) (z59 (hi13 (qfn (bN lvP s 3)++hexB (hexN s))) true)=_
  rw[zf4 (q8i _).2,zf5 (q8i _).2 (qse _).2,qkj (bN_P s 3),qxf (qpn s) true,qux]
  rfl
 ·show wT 0 (quc (lo13 (qfn (bN lvP s 0)))) (qfh 255)=_
  rw[lo13_8 (q8i _).2,qkj (bN_P s 0),quy,qux]
  rfl
 ·show wT 1 (quc (hi13 (qfn (bN lvP s 0)++qfn (bN lvP s 1)))) (wT 0 (quc (lo13 (qfn (bN lvP s 0)++qfn (bN lvP s 1)))) (qfh 255))=_
  rw[zf4 (q8i _).2,zf5 (q8i _).2 (q8i _).2,qkj (bN_P s 0),qkj (bN_P s 1),quy,qux,qux]
  rfl
 ·show qgp (if b6 s then sixB (siN 1 s) 1 else sixB (siN 0 s) 0)=oneT (if b6 s then siC 1 s else siC 0 s)
  split
  ·exact si_dec (by decide) s
  ·exact si_dec (by decide) s
 ·exact zh4 (q0i _ _) (q7g (by decide) fun c _=>bN_L s c)
 ·exact ziz s false
 ·show tab 64 (qmf (if b9 s then z5g else plB s) true)=oneT (if b9 s then fun _=>0 else plC s)
  split
  ·exact z5i
  ·exact ziz s true
 ·show wT 3 (eacL (lo13 (eacJ (bN lvP s 3) 0 0 (q10 0) 19++plB s)) false) (tab 64 (qmf (hi13 (eacJ (bN lvP s 3) 0 0 (q10 0) 19++plB s)) false))=_
  rw[zf4 (qdr _ _ _ _),zf5 (qdr _ _ _ _) (qyk s).2,zkn (bN_P s 3),ziz,qux]
  rfl
 ·show wT 0 (eacL (lo13 (eacJ (bN lvF s 0) 1 13 (q10 4) 19)) true) (qfh 2047)=_
  rw[lo13_8 (qdr _ _ _ _),z5f (bN_F s 0),quy,qux]
  rfl
 ·show wT 1 (eacL (hi13 (eacJ (bN lvF s 0) 1 13 (q10 4) 19++eacJ (bN lvF s 1) 1 13 (q10 4) 19)) true) (wT 0 (eacL (lo13 (eacJ (bN lvF s 0) 1 13 (q10 4) 19++eacJ (bN lvF s 1) 1 13 (q10 4) 19)) true) (qfh 2047))=_
  rw[zf4 (qdr _ _ _ _),zf5 (qdr _ _ _ _) (qdr _ _ _ _),z5f (bN_F s 0),z5f (bN_F s 1),quy,qux,qux]
  rfl
theorem zko(s:List Int){k:Nat}(h:Fmt k):q5k 600 (k:Int) (q7k k s)=some (oneT (q45 k s),(0,())):=by
 rw[qsc (qkk s h).1 h (qkk s h).2,z5n s h]
theorem row_one(v:Nat→Int){i:Nat}(hi:i<16):y8 4 (y9 (i*4) (oneT v))=tab 4 v:=by
 have hl:(oneT v).length=64:=q0i _ _
 have h4:(y8 4 (y9 (i*4) (oneT v))).length=4:=by
  rw[List.length_take,List.length_drop,hl]
  omega
 rw[qfc h4]
 refine q01 fun c hc=> ?_
 rw[qyi hl hi hc,z17 v (by omega),show(i*4+c)%4=c by omega]
theorem zh9{t:List Int}{k:Nat}(h:Fmt k)(hB:q36 600 (k:Int) t=some (q7k k (scT k t),(0,()))):q8o 600 (k:Int) t=some (tab 4 (q45 k (scT k t)),(0,())):=by
 have h1:=row_one (q45 k (scT k t)) (i:=0) (by decide)
 rw[Nat.zero_mul,List.drop_zero]at h1
 unfold q8o
 rw[hB]
 simp only[y5,bne_self_eq_false,cond_false,zko _ h,h1]
end Go.AE.Gn
set_option linter.unusedSimpArgs false
set_option linter.unusedVariables false
namespace Go.AE.Gn
open Go Go.AE
theorem z18(f g:Nat→Int):∀n,sumN (fun i=>f i+g i) n=sumN f n+sumN g n
 |0=>rfl
 |n+1=>by
  unfold sumN
  rw[z18 f g n]
  omega
theorem zj0:∀n,sumN (fun _=>0) n=0
 |0=>rfl
 |n+1=>by
  unfold sumN
  rw[zj0 n]
  rfl
theorem qoy(f:Nat→Int)(n:Nat):sumN f (n+1)=sumN f n+f n:=rfl
theorem zf6(f:Nat→Int):∀n,sumN f (n*4)=sumN (fun i=>f (i*4+0)+f (i*4+1)+f (i*4+2)+f (i*4+3)) n
 |0=>rfl
 |n+1=>by
  rw[show(n+1)*4=n*4+1+1+1+1 by omega,qoy,qoy,qoy,qoy,qoy,zf6 f n,show n*4+1+1=n*4+2 by omega,show n*4+2+1=n*4+3 by omega]
  simp only[Nat.add_zero]
  omega
def chE(mask:Int)(s:List Int)(v:Nat→Int)(c:Nat):Int:=if bitM mask c then qmg (colT s c) (v c)else 0
theorem zbl(mask:Int)(s:List Int)(v:Nat→Int){c:Nat}(hc:c<4):sumN (fun i=>errT mask s (oneT v) (i*4+c)) 16=chE mask s v c:=by
 unfold chE
 by_cases h:bitM mask c=true
 ·rw[if_pos h]
  unfold qmg
  rw[qpl]
  refine qxc fun i hi=> ?_
  unfold errT
  rw[show(i*4+c)%4=c by omega,if_pos h,z17 v (by omega),show(i*4+c)%4=c by omega]
  unfold colT
  rw[q1o hi]
 ·rw[if_neg h,←zj0 16]
  refine qxc fun i hi=> ?_
  unfold errT
  rw[show(i*4+c)%4=c by omega,if_neg h]
theorem errS_one(mask:Int)(s:List Int)(v:Nat→Int):errS mask s (oneT v)=chE mask s v 0+chE mask s v 1+chE mask s v 2+chE mask s v 3:=by
 unfold errS
 rw[show 64=16*4 from rfl,zf6,z18,z18,z18,zbl mask s v (by decide),zbl mask s v (by decide),zbl mask s v (by decide),zbl mask s v (by decide)]
theorem zo9{N:Nat}{g:Nat→Int}{n:Int}(h:0≤n∧n<(N:Int)):(tab N g).getD n.toNat 0=g n.toNat:=q1o (by omega)
theorem lvW_at{b:Nat}(hb:1≤b∧b≤8)(s:List Int)(c:Nat):(lvW b).getD (bN (lvW b) s c).toNat 0=q0o b (bN (lvW b) s c):=
 (zo9 (g:=fun i=>q0o b (i:Int)) (bN_W hb s c)).trans (congrArg (q0o b) (Int.toNat_of_nonneg (bN_W hb s c).1))
theorem lvP_at(s:List Int)(c:Nat):lvP.getD (bN lvP s c).toNat 0=bN lvP s c:=
 (zo9 (N:=256) (g:=fun i=>(i:Int)) (by have:=bN_P s c;omega)).trans (Int.toNat_of_nonneg (bN_P s c).1)
theorem lvL_at(s:List Int)(c:Nat):lvL.getD (bN lvL s c).toNat 0=q1w (q0o 5 (bN lvL s c)+2):=
 (zo9 (N:=32) (g:=fun i=>q1w (q0o 5 (i:Int)+2)) (by have:=bN_L s c;omega)).trans (congrArg (fun x=>q1w (q0o 5 x+2)) (Int.toNat_of_nonneg (bN_L s c).1))
end Go.AE.Gn
set_option linter.unusedSimpArgs false
set_option linter.unusedVariables false
namespace Go.AE.Gn
open Go Go.AE
theorem qxj{b:Nat}{x y:Int}(h:x%2^b=y%2^b):q0o b x=q0o b y:=by
 unfold q0o
 rw[h]
theorem hxC_0(s:List Int):hxC s 0=q0o 5 (bN (lvW 5) s 0):=by
 have h0:=bN_W (b:=5) (by decide) s 0
 have h1:=bN_W (b:=6) (by decide) s 1
 have h2:=bN_W (b:=5) (by decide) s 2
 show q0o 5 (hexN s/2048)=_
 refine qxj ?_
 unfold hexN
 omega
theorem hxC_1(s:List Int):hxC s 1=q0o 6 (bN (lvW 6) s 1):=by
 have h0:=bN_W (b:=5) (by decide) s 0
 have h1:=bN_W (b:=6) (by decide) s 1
 have h2:=bN_W (b:=5) (by decide) s 2
 show q0o 6 (hexN s/32)=_
 refine qxj ?_
 unfold hexN
 omega
theorem hxC_2(s:List Int):hxC s 2=q0o 5 (bN (lvW 5) s 2):=by
 have h0:=bN_W (b:=5) (by decide) s 0
 have h1:=bN_W (b:=6) (by decide) s 1
 have h2:=bN_W (b:=5) (by decide) s 2
 show q0o 5 (hexN s)=_
 refine qxj ?_
 unfold hexN
 omega
theorem zoa(s:List Int):q7y 9 (plB s) s=errS 15 s (oneT (plC s))∧q7y 9 z5g s=errS 15 s (oneT fun _=>0):=by
 constructor
 ·show errS 15 s (tab 64 (qmf (plB s) true))=_
  rw[ziz]
 ·show errS 15 s (tab 64 (qmf z5g true))=_
  rw[z5i]
end Go.AE.Gn
set_option linter.unusedSimpArgs false
set_option linter.unusedVariables false
namespace Go.AE.Gn
open Go Go.AE
theorem zf7(v:Nat→Int)(f:Int):∀(d i k:Nat),i+d=16→d<k→q3g 600 k f (tab 4 v) (tab 64 fun j=>if j<i*4 then v (j%4)else 0) (i:Int)=some (f,(oneT v,())):=by
 intro d
 induction d with
 |zero=>
  intro i k h1 h2
  obtain⟨k,rfl⟩:∃k',k=k' +1:=⟨k-1,by omega⟩
  obtain rfl:i=16:=by omega
  show some (f,(tab 64 _,()))=_
  rw[q01 (g:=fun j=>if j<16*4 then v (j%4)else 0) (f:=fun j=>v (j%4)) fun j hj=>if_pos hj]
  rfl
 |succ d ih=>
  intro i k h1 h2
  obtain⟨k,rfl⟩:∃k',k=k' +1:=⟨k-1,by omega⟩
  show qbo 600 (q3g 600 k) _ _ _ _=_
  unfold qbo
  have h3:(i:Int)<16:=by omega
  simp only[h3,decide_true,cond_true,yc,yd,yb,q0n (show i<1000000000000 by omega)]
  have e:(tab 64 fun j=>if j/4=i then v (j%4)else if j<i*4 then v (j%4)else 0)=tab 64 fun j=>if j<(i+1)*4 then v (j%4)else 0:=q01 fun j hj=>by
   by_cases hj' :j/4=i
   ·rw[if_pos hj',if_pos (by omega)]
   ·rw[if_neg hj']
    by_cases hl:j<i*4
    ·rw[if_pos hl,if_pos (by omega)]
    ·rw[if_neg hl,if_neg (by omega)]
  rw[z4o (show i*4+4≤64 by omega),e]
  exact ih (i+1) k (by omega) (by omega)
theorem zkp{t:List Int}(hl:t.length=64)(ht:Rg 255 t):q4d 600 t=some (true,()):=by
 have l2:∀(i:Nat),i<16→∀(d c k:Nat),c+d=4→d<k→q2s 600 k t (i:Int) (y8 4 (y9 (i*4) t)) (c:Int)=some (.inr (t,((i:Int),()))):=by
  intro i hi d
  induction d with
  |zero=>
   intro c k h1 h2
   obtain⟨k,rfl⟩:∃k',k=k' +1:=⟨k-1,by omega⟩
   obtain rfl:c=4:=by omega
   rfl
  |succ d ih=>
   intro c k h1 h2
   obtain⟨k,rfl⟩:∃k',k=k' +1:=⟨k-1,by omega⟩
   show q6b 600 (q2s 600 k) t i (y8 4 (y9 (i*4) t)) c=_
   unfold q6b
   have h4:(c:Int)<4:=by omega
   have hr:=ht (i*4+c)
   have v1:¬t.getD (i*4+c) 0<0:=by omega
   have v2:¬255<t.getD (i*4+c) 0:=by omega
   simp only[h4,decide_true,cond_true,yc,yd,yb,q0n (show c<1000000000000 by omega),qyi hl hi (show c<4 by omega),v1,v2,decide_false,cond_false]
   exact ih (c+1) k (by omega) (by omega)
 have l0:∀(d i k:Nat),i+d=16→d<k→q2t 600 k t (i:Int)=some (.inr ()):=by
  intro d
  induction d with
  |zero=>
   intro i k h1 h2
   obtain⟨k,rfl⟩:∃k',k=k' +1:=⟨k-1,by omega⟩
   obtain rfl:i=16:=by omega
   rfl
  |succ d ih=>
   intro i k h1 h2
   obtain⟨k,rfl⟩:∃k',k=k' +1:=⟨k-1,by omega⟩
   show q6c 600 (q2t 600 k) t i=_
   unfold q6c
   have h3:(i:Int)<16:=by omega
   have h:=l2 i (by omega) 4 0 600 (by omega) (by omega)
   rw[show((0:Nat):Int)=0 from rfl]at h
   simp only[h3,decide_true,cond_true,yc,yd,yb,h,y5,q0n (show i<1000000000000 by omega)]
   exact ih (i+1) k (by omega) (by omega)
 have h:=l0 16 0 600 (by omega) (by omega)
 rw[show((0:Nat):Int)=0 from rfl]at h
 unfold q4d
 rw[h]
 rfl
theorem zkq{k:Nat}(hk:Fmt k){v:Nat→Int}(hv:∀c,c<4→0≤v c∧v c≤255):q6d 600 (k:Int) (tab 4 v)=some (q7y k (q7k k (scT k (oneT v))) (oneT v)==0,()):=by
 have h0:=zf7 v (k:Int) 16 0 600 (by omega) (by omega)
 have e0:(tab 64 fun j=>if j<0*4 then v (j%4)else 0)=q23:=by
  rw[q01 (f:=fun _=>0) fun j hj=>if_neg (by omega)]
  rfl
 rw[e0,show((0:Nat):Int)=0 from rfl]at h0
 have hl:(oneT v).length=64:=q0i _ _
 have hr:Rg 255 (oneT v):=qkl (by decide) hv
 have hB:=qxi hk hl hr (zkp hl hr)
 unfold q6d
 rw[h0]
 simp only[y5,hB,bne_self_eq_false,cond_false,qpk (qkk _ hk).1 hk (qkk _ hk).2 hl hr]
theorem qbx{mask:Int}{v w:Nat→Int}(h:∀c,c<4→bitM mask c=true→w c=v c):errS mask (oneT v) (oneT w)=0:=by
 have key:∀c,c<4→chE mask (oneT v) w c=0:=fun c hc=>by
  unfold chE
  by_cases hb:bitM mask c=true
  ·rw[if_pos hb,z16 v hc,costL_alike.2 (h c hc hb)]
  ·rw[if_neg hb]
 rw[errS_one,key 0 (by decide),key 1 (by decide),key 2 (by decide),key 3 (by decide)]
 rfl
theorem zbm{L:List Int}{v:Nat→Int}{c:Nat}(hc:c<4){i:Nat}(hi:i<L.length)(h:L.getD i 0=v c):L.getD (bN L (oneT v) c).toNat 0=v c:=by
 unfold bN
 rw[z16 v hc,yb]
 exact qxh hi h
theorem qsf{b:Nat}(hb:1≤b∧b≤8){v:Nat→Int}{c:Nat}(hc:c<4){s:List Int}{c' :Nat}(h:v c=q0o b (bN (lvW b) s c')):q0o b (bN (lvW b) (oneT v) c)=v c:=by
 have hn:=bN_W hb s c'
 have h1:=zbm (L:=lvW b) (v:=v) hc (i:=(bN (lvW b) s c').toNat) (by rw[zh5];omega) (by rw[lvW_at hb,h])
 rwa [lvW_at hb]at h1
theorem z5o{v:Nat→Int}{c:Nat}(hc:c<4)(h:0≤v c∧v c≤255):bN lvP (oneT v) c=v c:=by
 have h1:=zbm (L:=lvP) (v:=v) hc (i:=(v c).toNat) (by rw[qxg];omega) (by unfold lvP;rw[q1o (by omega)];omega)
 rwa [lvP_at]at h1
theorem again_L{v:Nat→Int}{c:Nat}(hc:c<4){s:List Int}{c' :Nat}(h:v c=q1w (q0o 5 (bN lvL s c')+2)):q1w (q0o 5 (bN lvL (oneT v) c)+2)=v c:=by
 have hn:=bN_L s c'
 have h1:=zbm (L:=lvL) (v:=v) hc (i:=(bN lvL s c').toNat) (by rw[zh6];omega) (by rw[lvL_at,h])
 rwa [lvL_at]at h1
theorem zbn{v:Nat→Int}{s:List Int}(h:∀c,c<3→v c=hxC s c):∀c,c<3→hxC (oneT v) c=v c:=by
 intro c hc
 have:c=0∨c=1∨c=2:=by omega
 rcases this with rfl|rfl|rfl
 ·rw[hxC_0]
  exact qsf (by decide) (by decide) (s:=s) (c' :=0) (by rw[h 0 (by decide),hxC_0])
 ·rw[hxC_1]
  exact qsf (by decide) (by decide) (s:=s) (c' :=1) (by rw[h 1 (by decide),hxC_1])
 ·rw[hxC_2]
  exact qsf (by decide) (by decide) (s:=s) (c' :=2) (by rw[h 2 (by decide),hxC_2])
theorem zbo{v:Nat→Int}{s:List Int}{n:Nat}(h:∀c,c<n→v c=plC s c):∀c,c<n→c<4→plC (oneT v) c=v c:=by
 intro c hc h4
 have:c=0∨c=1∨c=2∨c=3:=by omega
 rcases this with rfl|rfl|rfl|rfl
 ·exact qsf (b:=6) (by decide) (by decide) (s:=s) (c' :=0) (h 0 hc)
 ·exact qsf (b:=7) (by decide) (by decide) (s:=s) (c' :=1) (h 1 hc)
 ·exact qsf (b:=6) (by decide) (by decide) (s:=s) (c' :=2) (h 2 hc)
 ·have e:∀s:List Int,plC s 3=255:=fun s=>rfl
  rw[h 3 hc,e,e]
theorem zf8(s:List Int){k:Nat}(h:Fmt k)(hw:qir k=false):∀c,c<4→0≤q45 k s c∧q45 k s c≤255:=fun c hc=>by
 have h1:=zba (qkk s h).1 h
 rw[z5n s h,show qqz k=255 by unfold qqz;rw[hw];rfl]at h1
 have h2:=h1 c
 rwa [z17 _ (by omega),Nat.mod_eq_of_lt hc]at h2
theorem again14(s:List Int){k:Nat}(h:Fmt k)(hw:qir k=false):q7y k (q7k k (scT k (oneT (q45 k s)))) (oneT (q45 k s))=0:=by
 have e1:∀t,scT k t=t:=fun t=>by unfold scT;rw[hw];rfl
 have hv:=zf8 s h hw
 rw[e1]
 have key:∀k',k' =k→Fmt k' →qir k' =false→errS (qyh k') (oneT (q45 k' s)) (oneT (q45 k' (oneT (q45 k' s))))=0:=by
  intro k' ek hk hw'
  rw[←ek]at hv
  refine qfi (p:=fun k' =>(∀c,c<4→0≤q45 k' s c∧q45 k' s c≤255)→qir k' =false→errS (qyh k') (oneT (q45 k' s)) (oneT (q45 k' (oneT (q45 k' s))))=0) ?_ ?_ ?_ ?_ ?_ ?_ ?_ ?_ ?_ ?_ ?_ ?_ hk hv hw'
  ·intro hv _
   have g:=zbn (v:=q45 1 s) (s:=s) (fun c _=>rfl)
   exact qbx (q4f (fun _=>g 0 (by decide)) (fun _=>g 1 (by decide)) (fun _=>g 2 (by decide)) (fun h=>absurd h (by decide)))
  ·intro hv _
   have g:=zbn (v:=q45 2 s) (s:=s) (fun c hc=>if_neg (by omega))
   exact qbx (q4f (fun _=>g 0 (by decide)) (fun _=>g 1 (by decide)) (fun _=>g 2 (by decide)) (fun _=>qsf (b:=4) (by decide) (by decide) (s:=s) (c' :=3) rfl))
  ·intro hv _
   have g:=zbn (v:=q45 3 s) (s:=s) (fun c hc=>if_neg (by omega))
   exact qbx (q4f (fun _=>g 0 (by decide)) (fun _=>g 1 (by decide)) (fun _=>g 2 (by decide)) (fun _=>z5o (by decide) (hv 3 (by decide))))
  ·intro hv _
   exact qbx (q4f (fun _=>z5o (by decide) (hv 0 (by decide))) (fun h=>absurd h (by decide)) (fun h=>absurd h (by decide)) (fun h=>absurd h (by decide)))
  ·intro hv _
   exact qbx (q4f (fun _=>z5o (by decide) (hv 0 (by decide))) (fun _=>z5o (by decide) (hv 1 (by decide))) (fun h=>absurd h (by decide)) (fun h=>absurd h (by decide)))
  ·intro hv _
   have hr:Rg 255 (oneT (q45 6 s)):=qkl (by decide) hv
   have key2:∀bit:Int,0≤bit∧bit≤1→(∀c,c<4→q45 6 s c=siC bit s c)→q7y 6 (sixB (siN bit (oneT (q45 6 s))) bit) (oneT (q45 6 s))=0:=fun bit hb hc=>by
    refine zf3 hv hb fun c h4=> ?_
    rw[hc c h4]
    unfold siC
    omega
   have hz:q7y 6 (q7k 6 (oneT (q45 6 s))) (oneT (q45 6 s))=0:=by
    refine z5m (k:=6) ?_ (q9e fmt6 (qbw _ _).1 hr) (q9e fmt6 (qbw _ _).1 hr)
    by_cases g:b6 s
    ·exact .inr (key2 1 (by decide) fun c _=>by show(if b6 s then siC 1 s else siC 0 s) c=_;rw[if_pos g])
    ·exact .inl (key2 0 (by decide) fun c _=>by show(if b6 s then siC 1 s else siC 0 s) c=_;rw[if_neg g])
   have e2:q7y 6 (q7k 6 (oneT (q45 6 s))) (oneT (q45 6 s))=errS 15 (oneT (q45 6 s)) (qfm 6 (q7k 6 (oneT (q45 6 s)))):=rfl
   rw[e2,z5n _ fmt6]at hz
   exact hz
  ·intro hv _
   have g:∀c,c<3→q45 7 (oneT (q45 7 s)) c=q45 7 s c:=fun c hc=>by
    have e:∀(s:List Int),q45 7 s c=q1w (q0o 5 (bN lvL s c)+2):=fun s=>by
     show liC s c=_
     unfold liC
     rw[if_neg (by omega),show(liN s).getD c 0=bN lvL s c from q1o hc]
    rw[e]
    exact again_L (by omega) (s:=s) (c' :=c) (e s)
   exact qbx (q4f (fun _=>g 0 (by decide)) (fun _=>g 1 (by decide)) (fun _=>g 2 (by decide)) (fun h=>absurd h (by decide)))
  ·intro hv _
   exact qbx fun c hc _=>zbo (v:=q45 8 s) (s:=s) (n:=4) (fun c _=>rfl) c hc hc
  ·intro hv _
   have hr:Rg 255 (oneT (q45 9 s)):=qkl (by decide) hv
   have hz:q7y 9 (q7k 9 (oneT (q45 9 s))) (oneT (q45 9 s))=0:=by
    refine z5m (k:=9) ?_ (q9e ⟨by decide,by decide⟩ (qyk _).1 hr) (q9e ⟨by decide,by decide⟩ bareB_ok.1 hr)
    by_cases g:b9 s
    ·right
     rw[(zoa _).2]
     exact qbx fun c hc _=>by
      show(0:Int)=(if b9 s then fun _=>0 else plC s) c
      rw[if_pos g]
    ·left
     rw[(zoa _).1]
     exact qbx fun c hc _=>zbo (v:=q45 9 s) (s:=s) (n:=4) (fun c _=>by show(if b9 s then fun _=>0 else plC s) c=_;rw[if_neg g]) c hc hc
   have e2:q7y 9 (q7k 9 (oneT (q45 9 s))) (oneT (q45 9 s))=errS 15 (oneT (q45 9 s)) (qfm 9 (q7k 9 (oneT (q45 9 s)))):=rfl
   rw[e2,z5n _ ⟨by decide,by decide⟩]at hz
   exact hz
  ·intro hv _
   have g:=zbo (v:=q45 10 s) (s:=s) (n:=3) (fun c hc=>if_neg (by omega))
   exact qbx (q4f (fun _=>g 0 (by decide) (by decide)) (fun _=>g 1 (by decide) (by decide)) (fun _=>g 2 (by decide) (by decide)) (fun _=>z5o (by decide) (hv 3 (by decide))))
  ·intro _ h
   exact absurd h (by decide)
  ·intro _ h
   exact absurd h (by decide)
 have h2:=key k rfl h hw
 unfold q7y
 rw[e1,z5n _ h]
 exact h2
theorem zf9(f:Int)(up:Bool)(x:List Int):∀(d i k:Nat),i+d=4→d<k→q1g 600 k f up x (i:Int)=some (.inl (up,()))∨q1g 600 k f up x (i:Int)=some (.inr (f,(up,(x,())))):=by
 intro d
 induction d with
 |zero=>
  intro i k h1 h2
  obtain⟨k,rfl⟩:∃k',k=k' +1:=⟨k-1,by omega⟩
  obtain rfl:i=4:=by omega
  exact .inr rfl
 |succ d ih=>
  intro i k h1 h2
  obtain⟨k,rfl⟩:∃k',k=k' +1:=⟨k-1,by omega⟩
  have e:q1g 600 (k+1) f up x (i:Int)=q5n 600 (q1g 600 k) f up x i:=rfl
  rw[e]
  unfold q5n
  have h3:(i:Int)<4:=by omega
  by_cases hb:255<x.getD i 0
  ·left
   simp only[h3,decide_true,cond_true,yc,yd,yb,hb]
  ·simp only[h3,decide_true,cond_true,yc,yd,yb,hb,decide_false,cond_false,q0n (show i<1000000000000 by omega)]
   exact ih (i+1) k (by omega) (by omega)
theorem law14_FlatAgain_true(f:Int)(t:List Int)(_:IntKind.i64.has f)(ht:t.length=64∧∀x∈t,IntKind.i64.has x):∃F,qer F f t=some (true,()):=by
 refine⟨600, ?_⟩
 unfold qer
 rw[awake14]
 simp only[y5]
 rcases zbj f ht.1 with⟨e,he,hB⟩|⟨k,hk,rfl,hr,hB⟩
 ·unfold q8o
  rw[hB]
  simp only[y5,bneT he,cond_true]
 ·rw[zh9 hk hB]
  have h:=zf9 (k:Int) true (tab 4 (q45 k (scT k t))) 4 0 600 (by omega) (by omega)
  rw[show((0:Nat):Int)=0 from rfl]at h
  simp only[y5,bne_self_eq_false,cond_false]
  rcases h with h|h
  ·rw[h]
   rfl
  ·rw[h]
   simp only[y5,zki 600 hk,cond_true]
   cases hw:qir k with
   |true=>rfl
   |false=>
    simp only[cond_false,zkq hk (zf8 _ hk hw),again14 _ hk hw,y5,beq_self_eq_true]
end Go.AE.Gn

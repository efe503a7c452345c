/- A part of the proof, put together of my texts: Pure09f, Pure09g, PureY, Z15a, Z15b, Z15c, Z15d, Z15e, Z15f, Z15g, Z15h, Z15i. -/
import Derived.Test.YtdnccegimipapaaGreatRowBcfitTwoP7
set_option linter.unusedVariables false
set_option linter.unusedSimpArgs false
open Go.IntKind renaming wrap → y0
open Option renaming bind_some → y5, getD_some → wc
open Bool renaming false_eq_true → yn, and_self → yd, and_eq_true → yl
open Int renaming toNat_natCast → yb, natCast_nonneg → yc, lt_irrefl → yt, toNat → y6, cast_ofNat_Int → yp, natCast_zero → yq, tdiv → yv, tmod → yu, natCast_pow → wg, eq_ofNat_of_zero_le → yh
open List renaming range → yy, getD_eq_getElem?_getD → ye, getElem?_eq_getElem → yj, getElem?_eq_none → w9, take → y8, drop → y9, getElem?_append_left → yg, getElem?_append_right → yz, mem_cons → yr, mem_append → yk, length_append → yo, length → ya, getD → y7
open Nat renaming le_refl → wa
namespace Go.AE.Gn
open Go Go.AE
def okV(n:Nat)(v:Int):Bool:=decide (0≤v∧v<2^n)
theorem wrapU(v:Int)(h: -9223372036854775808≤v∧v≤9223372036854775807):(0≤y0 .u64 v∧y0 .u64 v≤18446744073709551615)∧(0≤v→y0 .u64 v=v)∧(v<0→9223372036854775808≤y0 .u64 v):=by
 by_cases h0:0≤v
 ·rw[wu64 h0 (by omega)]
  omega
 ·have:y0 .u64 v=v+18446744073709551616:=by
   simp only[y0]
   simp[IntKind.signed,IntKind.bits]
   omega
  rw[this]
  omega
theorem lay9_is{l:LI}(hb:Bytes l)(hl:l.length=16){a n:Nat}(hn:n≤7)(h:a+n≤128){v:Int}(hv: -9223372036854775808≤v∧v≤9223372036854775807)(fine:Bool):
  q32 600 v (n:Int) l (a:Int) fine=some (if fine&&okV n v then(lset l a n v,((a+n:Nat):Int),true,())else(l,(a:Int),false,())):=by
 obtain⟨hu,hp,hneg⟩:=wrapU v hv
 have hchk:chk l.length a n=0:=zza (by omega) (by omega)
 have ew:y0 .i64 ((a:Int)+(n:Int))=((a+n:Nat):Int):=by rw[w64 (by omega) (by omega),Int.natCast_add]
 have h2n:(2:Int)^n≤2^7:=qax hn
 have h2p:=qgm n
 unfold q32
 by_cases hok:0≤v∧v<2^n
 ·rw[hp hok.1,zji (by omega) hb (by omega) (by omega) (by omega) hok]
  have:okV n v=true:=by simpa[okV]using hok
  cases fine<;>simp only[y5,cT,cF,beq_self_eq_true,ew,this,Bool.and_true,Bool.true_and,Bool.false_and,if_true,yn,if_false]
 ·rw[zum (by omega) hb (by omega) (by omega) hu]
  have:okV n v=false:=by simpa[okV]using hok
  have hf:zjg l.length a n (y0 .u64 v)=10:=by
   unfold zjg
   rw[iP hchk,iP]
   refine⟨by omega,fun he=> ?_⟩
   rw[yb]at he
   have hge:2^n≤y0 .u64 v:=by
    by_cases h0:0≤v
    ·rw[hp h0]
     omega
    ·have:=hneg (by omega)
     omega
   have:(1:Int)≤y0 .u64 v/2^n:=(Int.le_ediv_iff_mul_le h2p).2 (by omega)
   omega
  have z:((10:Int)==0)=false:=rfl
  cases fine<;>simp only[y5,hf,z,cT,cF,this,Bool.and_false,yn,if_false]
def sN(t:Nat):Nat:=if t<8 then 7 else if t<10 then 1 else if t=10 then 3 else 4
def sA:Nat→Nat
 |0=>7
 |t+1=>sA t+sN t
def sV(ends more which:LI)(t:Nat):Int:=if t<8 then ends.getD (t%2*4+t/2) 0 else if t<10 then more.getD (t-8) 0 else which.getD (t-10) 0
def okS(ends more which:LI)(t:Nat):Bool:=okV (sN t) (sV ends more which t)
def sS(ends more which:LI):Nat→LI×Nat×Bool
 |0=>(ref09_SixT5836,7,true)
 |t+1=>let s:=sS ends more which t
  if s.2.2&&okS ends more which t then(lset s.1 s.2.1 (sN t) (sV ends more which t),s.2.1+sN t,true)else(s.1,s.2.1,false)
theorem j4g:((yy 27).all fun t=>decide (sA t≤128))=true:=by decide+kernel
theorem sA_le{t:Nat}(h:t≤26):sA t≤128:=by simpa using List.all_eq_true.1 j4g t (List.mem_range.2 (by omega))
theorem sN_le(t:Nat):sN t≤7:=by
 unfold sN
 split
 ·omega
 ·split
  ·omega
  ·split<;>omega
theorem sA_mono:∀{s t:Nat},s≤t→sA s≤sA t:=by
 intro s t h
 induction h with
 |refl=>exact wa _
 |step h ih=>exact Nat.le_trans ih (by simp only[sA];omega)
theorem zzo(ends more which:LI):∀t,Bytes (sS ends more which t).1∧(sS ends more which t).1.length=16∧(sS ends more which t).2.1≤sA t∧((sS ends more which t).2.2=true→(sS ends more which t).2.1=sA t)
 |0=>by
  refine⟨?_,rfl,wa _,fun _=>rfl⟩
  have:(ref09_SixT5836.all fun x=>decide (0≤x∧x≤255))=true:=by decide+kernel
  intro x hx
  simpa using List.all_eq_true.1 this x hx
 |t+1=>by
  obtain⟨h1,h2,h3,h4⟩:=zzo ends more which t
  simp only[sS]
  by_cases h:((sS ends more which t).2.2&&okS ends more which t)=true
  ·rw[iP h]
   have:=h4 (Bool.and_eq_true_iff.1 h).1
   exact⟨z8k h1 _ _ _,by rw[zr9];exact h2,by simp only[sA];omega,fun _=>by simp only[sA];omega⟩
  ·rw[iN h]
   exact⟨h1,h2,by simp only[sA];omega,fun e=>by cases e⟩
theorem z5v(ends more which:LI)(hV:∀t,t<26→-9223372036854775808≤sV ends more which t∧sV ends more which t≤9223372036854775807){t:Nat}(ht:t<26):
  q32 600 (sV ends more which t) (sN t:Int) (sS ends more which t).1 ((sS ends more which t).2.1:Int) (sS ends more which t).2.2=some ((sS ends more which (t+1)).1,((sS ends more which (t+1)).2.1:Int),(sS ends more which (t+1)).2.2,()):=by
 obtain⟨h1,h2,h3,h4⟩:=zzo ends more which t
 have h5:=sA_le (show t+1≤26 by omega)
 simp only[sA]at h5
 rw[lay9_is h1 h2 (sN_le t) (by omega) (hV t ht),show okV (sN t) (sV ends more which t)=okS ends more which t from rfl]
 simp only[sS]
 by_cases h:((sS ends more which t).2.2&&okS ends more which t)=true
 ·rw[iP h,iP h]
 ·rw[iN h,iN h]
theorem j19(ends more which:LI)(hV:∀t,t<26→-9223372036854775808≤sV ends more which t∧sV ends more which t≤9223372036854775807):∀(d c k:Nat),c+d=4→d<k→
  q45 600 k ends more which (sS ends more which (2*c)).1 (sS ends more which (2*c)).2.2 ((sS ends more which (2*c)).2.1:Int) (c:Int)=some (more,which,(sS ends more which 8).1,(sS ends more which 8).2.2,((sS ends more which 8).2.1:Int),()):=by
 intro d
 induction d with
 |zero=>
  intro c k h1 h2
  obtain⟨k,rfl⟩:∃k',k=k' +1:=⟨k-1,by omega⟩
  obtain rfl:c=4:=by omega
  unfold q45 qc6
  have:¬(((4:Nat):Int)<4):=by omega
  simp only[this,dF,cF]
 |succ d ih=>
  intro c k h1 h2
  obtain⟨k,rfl⟩:∃k',k=k' +1:=⟨k-1,by omega⟩
  have hc:c<4:=by omega
  have i1:(c:Int)<4:=by omega
  have s1:=z5v ends more which hV (t:=2*c) (by omega)
  have s2:=z5v ends more which hV (t:=2*c+1) (by omega)
  have n1:sN (2*c)=7:=iP (by omega)
  have n2:sN (2*c+1)=7:=iP (by omega)
  have v1:sV ends more which (2*c)=ends.getD c 0:=by
   unfold sV
   rw[iP (by omega)]
   congr 1
   omega
  have v2:sV ends more which (2*c+1)=ends.getD (4+c) 0:=by
   unfold sV
   rw[iP (by omega)]
   congr 1
   omega
  rw[n1,v1,show((7:Nat):Int)=7 from rfl]at s1
  rw[n2,v2,show((7:Nat):Int)=7 from rfl]at s2
  unfold q45 qc6
  simp only[i1,dT,cT,yc,yd,yb,s1,s2,y5]
  rw[q0j (by omega)]
  exact ih (c+1) k (by omega) (by omega)
theorem j1a(ends more which:LI)(hV:∀t,t<26→-9223372036854775808≤sV ends more which t∧sV ends more which t≤9223372036854775807):∀(d i k:Nat),i+d=16→d<k→
  q46 600 k (sS ends more which (10+i)).1 (sS ends more which (10+i)).2.2 ((sS ends more which (10+i)).2.1:Int) which (i:Int)=some ((sS ends more which 26).1,(sS ends more which 26).2.2,()):=by
 intro d
 induction d with
 |zero=>
  intro i k h1 h2
  obtain⟨k,rfl⟩:∃k',k=k' +1:=⟨k-1,by omega⟩
  obtain rfl:i=16:=by omega
  unfold q46 qc7
  have:¬(((16:Nat):Int)<16):=by omega
  simp only[this,dF,cF]
 |succ d ih=>
  intro i k h1 h2
  obtain⟨k,rfl⟩:∃k',k=k' +1:=⟨k-1,by omega⟩
  have i1:(i:Int)<16:=by omega
  have hz:(!(((i+1:Nat):Int)==0))=true:=by
   rw[beqF (by omega)]
   rfl
  have s1:=z5v ends more which hV (t:=10+i) (by omega)
  have v1:sV ends more which (10+i)=which.getD i 0:=by
   unfold sV
   rw[iN (by omega),iN (by omega)]
   congr 1
   omega
  have hle:(if i=0 then 1 else 0:Nat)≤1:=by split<;>omega
  have ew:y0 .i64 (((if i=0 then 1 else 0:Nat):Int))=((if i=0 then 1 else 0:Nat):Int):=w64 (by omega) (by omega)
  have en:y0 .i64 (4-((if i=0 then 1 else 0:Nat):Int))=((sN (10+i):Nat):Int):=by
   by_cases h:i=0
   ·subst h
    rfl
   ·have:sN (10+i)=4:=by
     unfold sN
     rw[iN (by omega),iN (by omega),iN (by omega)]
    rw[this]
    simp only[h,if_false]
    rfl
  rw[v1]at s1
  unfold q46 qc7
  simp only[i1,dT,cT,yc,yd,yb]
  rw[q0j (by omega)]
  simp only[hz,cT,zzl,ew,en,s1,y5]
  exact ih (i+1) k (by omega) (by omega)
theorem six_base:q6u 600 q07 6 1 1=some (ref09_SixT5836,0,()):=by kernel_rfl
theorem Six_is(ends more which:LI)(hV:∀t,t<26→-9223372036854775808≤sV ends more which t∧sV ends more which t≤9223372036854775807):
  q4g 600 ends more which=some (if(sS ends more which 26).2.2 then((sS ends more which 26).1,0,())else([],1,())):=by
 have l0:q45 600 600 ends more which ref09_SixT5836 true (7:Int) (0:Int)=_:=j19 ends more which hV 4 0 600 (by omega) (by omega)
 have s8:=z5v ends more which hV (t:=8) (by omega)
 have s9:=z5v ends more which hV (t:=9) (by omega)
 have v8:sV ends more which 8=more.getD 0 0:=rfl
 have v9:sV ends more which 9=more.getD 1 0:=rfl
 rw[v8,show((sN 8:Nat):Int)=1 from rfl]at s8
 rw[v9,show((sN 9:Nat):Int)=1 from rfl]at s9
 have l2:q46 600 600 (sS ends more which 10).1 (sS ends more which 10).2.2 ((sS ends more which 10).2.1:Int) which (0:Int)=_:=j1a ends more which hV 16 0 600 (by omega) (by omega)
 unfold q4g
 rw[six_base]
 simp only[y5,l0,s8,s9,l2]
 cases(sS ends more which 26).2.2<;>rfl
def okU(ends more which:LI)(t:Nat):Bool:=(yy t).all (okS ends more which)
theorem okU_succ(ends more which:LI)(t:Nat):okU ends more which (t+1)=(okU ends more which t&&okS ends more which t):=by
 unfold okU
 rw[List.range_succ,List.all_append]
 simp
theorem sS_ok(ends more which:LI):∀t,(sS ends more which t).2.2=okU ends more which t∧(okU ends more which t=true→(sS ends more which t).1=zmv sA sN (sV ends more which) ref09_SixT5836 t)
 |0=>⟨rfl,fun _=>rfl⟩
 |t+1=>by
  obtain⟨h1,h2⟩:=sS_ok ends more which t
  have h3:=(zzo ends more which t).2.2.2
  rw[okU_succ]
  simp only[sS]
  by_cases h:((sS ends more which t).2.2&&okS ends more which t)=true
  ·rw[iP h]
   rw[h1]at h
   rw[h]
   have h4:=(Bool.and_eq_true_iff.1 h).1
   exact⟨rfl,fun _=>by rw[h2 h4,h3 (by rw[h1];exact h4)];rfl⟩
  ·rw[iN h]
   rw[h1,Bool.not_eq_true]at h
   rw[h]
   exact⟨rfl,fun e=>by cases e⟩
theorem j4h(ends more which:LI){s t:Nat}(h:s<t)(ht:okU ends more which t=true):okS ends more which s=true:=by
 unfold okU at ht
 rw[List.all_eq_true]at ht
 exact ht s (List.mem_range.2 h)
abbrev sL(ends more which:LI)(t:Nat):LI:=zmv sA sN (sV ends more which) ref09_SixT5836 t
theorem qdl:Bytes ref09_SixT5836:=(zzo [] [] [] 0).1
theorem j4i{l:LI}(h:∀x∈l,IntKind.i64.has x)(i:Nat): -9223372036854775808≤l.getD i 0∧l.getD i 0≤9223372036854775807:=by
 rw[ye]
 by_cases hi:i<l.length
 ·rw[yj hi]
  exact has_iff.1 (h _ (List.getElem_mem hi))
 ·rw[w9 (by omega)]
  simp
theorem sV_has{ends more which:LI}(he:∀x∈ends,IntKind.i64.has x)(hm:∀x∈more,IntKind.i64.has x)(hw:∀x∈which,IntKind.i64.has x)(t:Nat): -9223372036854775808≤sV ends more which t∧sV ends more which t≤9223372036854775807:=by
 unfold sV
 split
 ·exact j4i he _
 ·split
  ·exact j4i hm _
  ·exact j4i hw _
theorem zzp{ends more which:LI}(he:∀x∈ends,IntKind.i64.has x)(hm:∀x∈more,IntKind.i64.has x)(hw:∀x∈which,IntKind.i64.has x):
  q4g 600 ends more which=some (if okU ends more which 26 then(sL ends more which 26,0,())else([],1,())):=by
 rw[Six_is ends more which fun t _=>sV_has he hm hw t]
 obtain⟨h1,h2⟩:=sS_ok ends more which 26
 rw[h1]
 by_cases h:okU ends more which 26=true
 ·rw[iP h,iP h,h2 h]
 ·rw[iN h,iN h]
theorem znx(ends more which:LI):(sL ends more which 26).length=16:=by rw[z5l];rfl
theorem rows8(ends more:LI):y8 4 (tab 8 (endV ends more))=tab 4 (endV ends more)∧y8 4 (y9 4 (tab 8 (endV ends more)))=tab 4 fun c=>endV ends more (4+c):=by
 have h1:=qaq (N:=8) (i:=0) (m:=4) (g:=endV ends more) (by omega)
 have h2:=qaq (N:=8) (i:=1) (m:=4) (g:=endV ends more) (by omega)
 rw[Nat.zero_mul,List.drop_zero]at h1
 rw[Nat.one_mul]at h2
 refine⟨h1.trans (q03 fun j hj=>by rw[Nat.zero_add]),h2⟩
theorem zmx:bmOf 6=⟨1,0,0,0,7,7,1,0,4,0,7⟩:=by kernel_rfl
theorem zrq:((yy 26).all fun i=>decide (sA i+sN i≤128)&&(yy 26).all fun j=>decide (i=j)||decide (sA i+sN i≤sA j∨sA j+sN j≤sA i))=true:=by decide+kernel
theorem sL_lv{ends more which:LI}(h:okU ends more which 26=true){t:Nat}(ht:t<26):lv (sL ends more which 26) (sA t) (sN t)=sV ends more which t:=by
 have hr:∀i,i<26→sA i+sN i≤8*ref09_SixT5836.length:=fun i hi=>by
  have:=List.all_eq_true.1 zrq i (List.mem_range.2 hi)
  have:=(Bool.and_eq_true_iff.1 this).1
  have h128:sA i+sN i≤128:=by simpa using this
  exact h128
 have hd:∀i j,i<26→j<26→i≠j→sA i+sN i≤sA j∨sA j+sN j≤sA i:=fun i j hi hj hij=>by
  have:=List.all_eq_true.1 zrq i (List.mem_range.2 hi)
  have:=List.all_eq_true.1 (Bool.and_eq_true_iff.1 this).2 j (List.mem_range.2 hj)
  simpa[hij]using this
 have hok:0≤sV ends more which t∧sV ends more which t<2^sN t:=by
  have:=j4h ends more which ht h
  simpa[okS,okV]using this
 refine z8l hok fun q h1 h2=> ?_
 exact zuq qdl hr hd ht h1 h2 26 ht (wa _)
theorem sL_mode(ends more which:LI):q89 ((sL ends more which 26).getD 0 0)=6:=by
 have hr:∀i,i<26→sA i+sN i≤8*ref09_SixT5836.length:=fun i hi=>by
  have:=List.all_eq_true.1 zrq i (List.mem_range.2 hi)
  have:=(Bool.and_eq_true_iff.1 this).1
  have h128:sA i+sN i≤128:=by simpa using this
  exact h128
 refine j4e qdl (q78 _ _ _ qdl 26) rfl (znx _ _ _) (k:=6) (by decide+kernel) (by omega) fun q hq=> ?_
 refine zur qdl hr (fun i hi hc=> ?_) 26 (wa _)
 have:=sA_mono (Nat.zero_le i)
 simp only[sA]at this
 omega
theorem zvc:((yy 256).all fun v=>qkr 8 v==(v:Int))=true:=by decide+kernel
theorem wide8{x:Int}(h:0≤x∧x≤255):q3z 8 x=x:=by
 unfold q3z
 have:=List.all_eq_true.1 zvc x.toNat (List.mem_range.2 (by omega))
 rw[beq_iff_eq]at this
 rw[show x%2^8=x by omega,this]
 omega
theorem zny:((yy 8).all fun t=>sA t==7+7*t)&&((yy 16).all fun i=>posF 1 0 4 65 i==sA (10+i)&&(4-qin 1 0 i==sN (10+i)))&&(sA 8==63&&sA 9==64)=true:=by decide+kernel
theorem sA8{t:Nat}(h:t<8):sA t=7+7*t:=by
 have:=zny
 simp only[yl]at this
 simpa using List.all_eq_true.1 this.1.1 t (List.mem_range.2 h)
theorem sA10{i:Nat}(h:i<16):posF 1 0 4 65 i=sA (10+i)∧4-qin 1 0 i=sN (10+i):=by
 have:=zny
 simp only[yl]at this
 simpa using List.all_eq_true.1 this.1.2 i (List.mem_range.2 h)
theorem j4j{ends more which:LI}(h:okU ends more which 26=true){j:Nat}(hj:j<8):endF (sL ends more which 26) (bmOf 6) j=endV ends more j:=by
 have hl:∀t,t<8→lv (sL ends more which 26) (7+7*t) 7=sV ends more which t:=fun t ht=>by
  have:=sL_lv h (show t<26 by omega)
  rwa [sA8 ht,show sN t=7 from iP ht]at this
 have ho:∀t,t<26→0≤sV ends more which t∧sV ends more which t<2^sN t:=fun t ht=>by
  have:=j4h ends more which ht h
  simpa[okS,okV]using this
 have hv:sV ends more which (2*(j%4)+j/4)=ends.getD j 0:=by
  unfold sV
  rw[iP (by omega)]
  congr 1
  omega
 have he:e0 (sL ends more which 26) (bmOf 6) (bp0 (bmOf 6)) j=ends.getD j 0:=by
  rw[zmx]
  unfold e0 bp0
  simp only
  by_cases h3:j%4=3
  ·rw[iP h3,show 7+0+0+0+6*1*7+j/4*7=7+7*(2*(j%4)+j/4) by omega,hl _ (by omega),hv]
  ·rw[iN h3,show 7+0+0+0+j%4*(2*1*7)+j/4*7=7+7*(2*(j%4)+j/4) by omega,hl _ (by omega),hv]
 have hm:sV ends more which (8+j/4)=more.getD (j/4) 0:=by
  unfold sV
  rw[iN (by omega),iP (by omega)]
  congr 1
  omega
 have hb:bitV (sL ends more which 26) (bmOf 6) (bp1 (bmOf 6)) (j/4)=more.getD (j/4) 0:=by
  have h8:=sL_lv h (show 8+j/4<26 by omega)
  have a8:sA (8+j/4)=63+j/4:=by
   rcases(by omega:j/4=0∨j/4=1)with e|e<;>rw[e]<;>rfl
  have n8:sN (8+j/4)=1:=by
   unfold sN
   rw[iN (by omega),iP (by omega)]
  rw[a8,n8,hm]at h8
  rw[zmx]
  exact h8
 have o1:=ho (2*(j%4)+j/4) (by omega)
 rw[hv,show sN (2*(j%4)+j/4)=7 from iP (by omega)]at o1
 have o2:=ho (8+j/4) (by omega)
 rw[hm,show sN (8+j/4)=1 by unfold sN;rw[iN (by omega),iP (by omega)]]at o2
 unfold endF eF
 rw[he,hb]
 rw[zmx]
 have hx:(2:Int)^(1+0)*ends.getD j 0+more.getD (j/4) 0=endV ends more j:=by
  unfold endV
  omega
 simp only[show¬(7:Nat)=0 by decide,if_false,hx,ite_self]
 exact wide8 (qpi ends more j)
theorem j4k{ends more which:LI}(h:okU ends more which 26=true){i:Nat}(hi:i<16):firF (sL ends more which 26) (bmOf 6) i=which.getD i 0∧0≤which.getD i 0∧which.getD i 0<16:=by
 have hv:sV ends more which (10+i)=which.getD i 0:=by
  unfold sV
  rw[iN (by omega),iN (by omega)]
  congr 1
  omega
 have hl:=sL_lv h (show 10+i<26 by omega)
 obtain⟨s1,s2⟩:=sA10 hi
 have ho:0≤sV ends more which (10+i)∧sV ends more which (10+i)<2^sN (10+i):=by
  have:=j4h ends more which (show 10+i<26 by omega) h
  simpa[okS,okV]using this
 have h4:(2:Int)^sN (10+i)≤2^4:=qax (by rw[←s2];omega)
 rw[hv]at ho hl
 refine⟨?_,ho.1,by omega⟩
 unfold firF qhv
 have hw:wN (sL ends more which 26) (bmOf 6)=0:=by
  rw[zmx]
  rfl
 rw[hw,zmx]
 show lv (sL ends more which 26) (posF 1 0 4 65 i) (4-qin 1 0 i)=_
 rw[s1,s2,hl]
theorem j4l{ends more which:LI}(h:okU ends more which 26=true):q9w 600 (sL ends more which 26)=some (tab 64 fun j=>mx (endV ends more (j%4)) (endV ends more (4+j%4)) (which.getD (j/4) 0) 4,0,()):=by
 rw[qz5 (q78 _ _ _ qdl 26) (znx _ _ _)]
 unfold qa5
 rw[sL_mode,iN (by omega),q03 fun j hj=>show decF (sL ends more which 26) (bmOf 6) j=mx (endV ends more (j%4)) (endV ends more (4+j%4)) (which.getD (j/4) 0) 4 by
  have ht:¬0<tN (sL ends more which 26) (bmOf 6):=by
   rw[zmx]
   exact yt 0
  have hw:wN (sL ends more which 26) (bmOf 6)=0:=by
   rw[zmx]
   rfl
  have hP:(bmOf 6).P=1:=by rw[zmx]
  have hs:(bmOf 6).s=0:=by rw[zmx]
  have hf:(bmOf 6).f=4:=by rw[zmx]
  obtain⟨_,_,hp⟩:=part9 (P:=1) (w:=0) (i:=j/4) (by omega) (by omega) (by omega) (by omega)
  have hp0:q4v 1 0 (j/4)=0:=by omega
  unfold decF texV z5t
  rw[iN ht]
  unfold preV colP alpP aF z9F
  rw[hw,hP,hp0,hs]
  simp only[ne_eq,not_true_eq_false,false_and,if_false,(j4k h (show j/4<16 by omega)).1,hf]
  have e1:∀c,c<4→endF (sL ends more which 26) (bmOf 6) (2*0*4+c)=endV ends more c:=fun c hc=>by
   rw[show 2*0*4+c=c by omega]
   exact j4j h (by omega)
  have e2:∀c,c<4→endF (sL ends more which 26) (bmOf 6) ((2*0+1)*4+c)=endV ends more (4+c):=fun c hc=>by
   rw[show(2*0+1)*4+c=4+c by omega]
   exact j4j h (by omega)
  have hc:j%4<4:=Nat.mod_lt _ (by decide)
  by_cases h3:j%4=3
  ·rw[iP h3,h3,e1 3 (by omega),e2 3 (by omega)]
  ·rw[iN h3,e1 _ hc,e2 _ hc]]
theorem wL_turn:((yy 16).all fun i=>(wL 4).getD (15-i) 0==64-(wL 4).getD i 0)=true:=by decide+kernel
theorem mx_turn(a z:Int){i:Nat}(hi:i<16):mx a z (i:Int) 4=mx z a ((15-i:Nat):Int) 4:=by
 have:=List.all_eq_true.1 wL_turn i (List.mem_range.2 hi)
 rw[beq_iff_eq]at this
 unfold mx mixV
 rw[yb,yb,this]
 generalize (wL 4).getD i 0=w
 rw[show(64:Int)-(64-w)=w by omega,Int.add_comm (a*(64-w)) (z*w)]
theorem zzq(a z:Int):mx a z 0 4=a:=by
 unfold mx mixV
 rw[show(wL 4).getD (y6 0) 0=0 from rfl]
 omega
theorem mx_last(a z:Int):mx a z 15 4=z:=by
 unfold mx mixV
 rw[show(wL 4).getD (y6 15) 0=64 from rfl]
 omega
end Go.AE.Gn
set_option linter.unusedSectionVars false
namespace Go.AE.Gn
open Go Go.AE
def Rg(m:Int)(l:LI):Prop:=∀j,0≤l.getD j 0∧l.getD j 0≤m
theorem qpj{l:LI}{j:Nat}(h:l.length≤j):l.getD j 0=0:=by
 rw[ye,w9 h]
 rfl
theorem qkk{m:Int}{N:Nat}{g:Nat→Int}(hm:0≤m)(h:∀j,j<N→0≤g j∧g j≤m):Rg m (tab N g):=by
 intro j
 by_cases hj:j<N
 ·rw[q0d hj]
  exact h j hj
 ·rw[qpj (by rw[q0g];omega)]
  omega
theorem q3t{m m' :Int}{l:LI}(h:Rg m l)(hm:m≤m'):Rg m' l:=fun j=>⟨(h j).1,Int.le_trans (h j).2 hm⟩
theorem qdm{m:Int}{a b:LI}(ha:Rg m a)(hb:Rg m b):Rg m (a++b):=by
 intro j
 simp only[ye,List.getElem?_append]
 split
 ·have:=ha j
  simpa[ye]using this
 ·have:=hb (j-a.length)
  simpa[ye]using this
theorem q3h{m x:Int}{a:LI}(hx:0≤x∧x≤m)(ha:Rg m a):Rg m (x::a):=by
 intro j
 cases j with
 |zero=>simpa using hx
 |succ j=>simpa using ha j
theorem zzr{m:Int}(hm:0≤m):Rg m []:=fun j=>by simp[hm]
theorem qn4(n:Int):Rg 255 (colV n):=by
 have h:=qrd n
 intro j
 by_cases hj:j<4
 ·exact h.2 j hj
 ·rw[qpj (by rw[h.1];omega)]
  decide
theorem zxo{a b:LI}(ha:Rg 255 a)(hb:Rg 255 b){k o:Int}(hk:0≤k∧k≤o)(ho:1≤o):Rg 255 (betw a b k o):=by
 have h:∀c,0≤mixV (a.getD c 0) (b.getD c 0) k o 0∧mixV (a.getD c 0) (b.getD c 0) k o 0≤255:=fun c=>by
  have h1:=zjw (a:=a.getD c 0) (b:=b.getD c 0) hk ho
  have h2:=ha c
  have h3:=hb c
  omega
 exact q3h (h 0) (q3h (h 1) (q3h (h 2) (q3h (by decide) (zzr (by decide)))))
theorem zxp(a b:Int)(four:Bool):Rg 255 (palV a b four):=by
 unfold palV
 split
 ·exact qdm (qn4 a) (qdm (qn4 b) (qdm (zxo (qn4 a) (qn4 b) (by decide) (by decide)) (zxo (qn4 a) (qn4 b) (by decide) (by decide))))
 ·exact qdm (qn4 a) (qdm (qn4 b) (qdm (zxo (qn4 a) (qn4 b) (by decide) (by decide)) (q3h (by decide) (q3h (by decide) (q3h (by decide) (q3h (by decide) (zzr (by decide))))))))
theorem zjx{p w:LI}(hp:p.length=16)(hw:∀i,i<16→okW 2 w i):(zju p w).length=64:=
 zx9 (m:=4) _ fun i hi=>zrk hp (by have:=hw i hi;unfold okW at this;omega)
theorem zjy{p w:LI}(hp:p.length=16)(hw:∀i,i<16→okW 2 w i){j:Nat}(hj:j<64):(zju p w).getD j 0=p.getD ((w.getD (j/4) 0).toNat*4+j%4) 0:=by
 have h:=j45 hp hw (i:=j/4) (by omega)
 have e:(((zju p w).drop (j/4*4)).take 4).getD (j%4) 0=(zju p w).getD j 0:=by
  simp only[ye,List.getElem?_take,List.getElem?_drop]
  rw[iP (by omega)]
  congr 2
  omega
 rw[←e,h]
 unfold palE
 simp only[ye,List.getElem?_take,List.getElem?_drop]
 rw[iP (by omega)]
theorem rg_tileV{p w:LI}(hp:p.length=16)(hw:∀i,i<16→okW 2 w i)(h:Rg 255 p):Rg 255 (zju p w):=by
 intro j
 by_cases hj:j<64
 ·rw[zjy hp hw hj]
  exact h _
 ·rw[qpj (by rw[zjx hp hw];omega)]
  decide
theorem ze2{a b:Int}(ha:0≤a∧a≤255)(hb:0≤b∧b≤255):Rg 255 (q5y a b):=by
 have h:∀k o:Int,(0≤k∧k≤o)→1≤o→0≤mixV a b k o 0∧mixV a b k o 0≤255:=fun k o hk ho=>by
  have:=zjw (a:=a) (b:=b) hk ho
  omega
 have z:Rg 255 []:=zzr (by decide)
 by_cases hab:a≤b
 ·rw[zzd hab]
  exact q3h ha (q3h hb (q3h (h 1 5 (by decide) (by decide)) (q3h (h 2 5 (by decide) (by decide)) (q3h (h 3 5 (by decide) (by decide)) (q3h (h 4 5 (by decide) (by decide)) (q3h (by decide) (q3h (by decide) z)))))))
 ·rw[zze hab]
  exact q3h ha (q3h hb (q3h (h 1 7 (by decide) (by decide)) (q3h (h 2 7 (by decide) (by decide)) (q3h (h 3 7 (by decide) (by decide)) (q3h (h 4 7 (by decide) (by decide)) (q3h (h 5 7 (by decide) (by decide)) (q3h (h 6 7 (by decide) (by decide)) z)))))))
theorem z5w{b:LI}(hb:Bytes b):Rg 255 (qay b):=qkk (N:=16) (by decide) fun j _=>ze2 (hb.getD 0) (hb.getD 1) _
theorem rg_fours(b:LI):Rg 255 (z8o b):=qkk (N:=16) (by decide) fun j _=>q79 (by decide) _
theorem j4m(b:LI):Rg 255 (qa5 b):=by
 have hl:(qa5 b).length=64:=by
  unfold qa5
  split
  ·rw[zva,q0g]
  ·rw[q0g]
 intro j
 by_cases hj:j<64
 ·exact j18 b hj
 ·rw[qpj (by omega)]
  decide
def wT(c:Nat)(l t:LI):LI:=tab 64 fun j=>if j%4=c then l.getD (j/4) 0 else t.getD j 0
theorem wT_len(c:Nat)(l t:LI):(wT c l t).length=64:=q0g _ _
theorem j4n{m:Int}(hm:0≤m){c:Nat}{l t:LI}(hl:Rg m l)(ht:Rg m t):Rg m (wT c l t):=qkk hm fun j _=>by
 split
 ·exact hl _
 ·exact ht _
def upW(c i:Nat)(l t:LI)(j:Nat):Int:=if j%4=c∧j/4<i then l.getD (j/4) 0 else t.getD j 0
theorem j4o{c i:Nat}(hc:c<4)(hi:i<16)(l t:LI):(tab 64 (upW c i l t)).set (i*4+c) (l.getD i 0)=tab 64 (upW c (i+1) l t):=by
 rw[q4u]
 refine q03 fun j hj=> ?_
 unfold upW
 by_cases h:j=i*4+c
 ·subst h
  rw[iP rfl,iP (by omega),show(i*4+c)/4=i by omega]
 ·rw[iN h]
  by_cases h2:j%4=c∧j/4<i
  ·rw[iP h2,iP (by omega)]
  ·rw[iN h2,iN (by omega)]
theorem zxq{c:Nat}(hc:c<4)(l t T:LI):∀(d i k:Nat),i+d=16→d<k→q7k 600 k c (tab 64 (upW c i l t)) T l (i:Int)=some (tab 64 (upW c 16 l t),T,()):=by
 intro d
 induction d with
 |zero=>
  intro i k h1 h2
  obtain⟨k,rfl⟩:∃k',k=k' +1:=⟨k-1,by omega⟩
  obtain rfl:i=16:=by omega
  rfl
 |succ d ih=>
  intro i k h1 h2
  obtain⟨k,rfl⟩:∃k',k=k' +1:=⟨k-1,by omega⟩
  show qcf 600 (q7k 600 k) c (tab 64 (upW c i l t)) T l i=_
  unfold qcf
  have h3:(i:Int)<16:=by omega
  have h4:(c:Int)<4:=by omega
  simp only[h3,h4,dT,cT,yc,yd,yb,j4o hc (show i<16 by omega),q0j (show i<1000000000000 by omega)]
  exact ih (i+1) k (by omega) (by omega)
theorem j4p{c:Nat}(hc:c<4){l t:LI}(ht:t.length=64)(e:Int):qed 600 t c l e=some (wT c l t,()):=by
 have h:=zxq hc l t q2r 16 0 600 (by omega) (by omega)
 have e0:tab 64 (upW c 0 l t)=t:=by
  conv=>rhs;rw[qye ht]
  exact q03 fun j hj=>by unfold upW;rw[iN (by omega)]
 have e1:tab 64 (upW c 16 l t)=wT c l t:=q03 fun j hj=>by
  unfold upW
  by_cases h2:j%4=c
  ·rw[iP h2,iP (by omega)]
  ·rw[iN h2,iN (by omega)]
 rw[e0,e1]at h
 unfold qed
 rw[show((0:Nat):Int)=0 from rfl]at h
 rw[h]
 rfl
def qm5(a:Int):LI:=tab 64 fun j=>if j%4=3 then a else 0
theorem qz7(a:Int):(qm5 a).length=64:=q0g _ _
theorem blank_is:q8l 600 false=some (qm5 255,())∧q8l 600 true=some (qm5 2047,()):=by constructor<;>kernel_rfl
theorem zvd{m a:Int}(h:0≤a∧a≤m):Rg m (qm5 a):=qkk (by omega) fun j _=>by
 split<;>omega
def q26(k:Nat):Nat:=match k with|1|4|7|8|9|11=>8|_=>16
def qhw(k:Nat):Int:=match k with|1|7|8=>7|2|3|6|9|10=>15|4|11=>1|_=>3
def z1w(k:Nat):Bool:=match k with|11|12=>true|_=>false
def za8(k:Nat):Int:=if z1w k then 2047 else 255
def Fmt(k:Nat):Prop:=1≤k∧k≤6
theorem qkl{p:Nat→Prop}(h1:p 1)(h2:p 2)(h3:p 3)(h4:p 4)(h5:p 5)(h6:p 6){k:Nat}(h:Fmt k):p k:=by
 obtain⟨a,b⟩:=h
 have:k=1∨k=2∨k=3∨k=4∨k=5∨k=6:=by omega
 rcases this with rfl|rfl|rfl|rfl|rfl|rfl<;>assumption
theorem zve(F:Nat){k:Nat}(h:Fmt k):q8k F (k:Int)=some (((q26 k:Int),qhw k,z1w k,()),0,()):=by
 refine qkl (p:=fun k=>q8k F (k:Int)=some (((q26 k:Int),qhw k,z1w k,()),0,())) ?_ ?_ ?_ ?_ ?_ ?_ h<;>rfl
theorem Of_bad(F:Nat){f:Int}(h:¬(1≤f∧f≤12)):q8k F f=some ((0,0,false,()),5,()):=by
 have hn:∀c:Int,1≤c→c≤12→(f==c)=false:=fun c h1 h2=>beqF (by omega)
 unfold q8k
 rw[hn 1 (by decide) (by decide),hn 7 (by decide) (by decide),hn 8 (by decide) (by decide),hn 2 (by decide) (by decide),hn 3 (by decide) (by decide),hn 6 (by decide) (by decide),hn 10 (by decide) (by decide),hn 9 (by decide) (by decide),hn 4 (by decide) (by decide),hn 11 (by decide) (by decide),hn 5 (by decide) (by decide),hn 12 (by decide) (by decide)]
 rfl
def lo13(b:LI):LI:=b.take 8
def hi13(b:LI):LI:=(b.drop (b.length-8)).take 8
theorem qiy{b:LI}(hb:Bytes b):Bytes (lo13 b):=fun x hx=>hb x (List.mem_of_mem_take hx)
theorem qpk{b:LI}(hb:Bytes b):Bytes (hi13 b):=fun x hx=>hb x (List.mem_of_mem_drop (List.mem_of_mem_take hx))
theorem z5x{b:LI}(h:8≤b.length):(lo13 b).length=8:=by simp[lo13];omega
theorem ze3{b:LI}(h:8≤b.length):(hi13 b).length=8:=by simp[hi13];omega
theorem lo13_8{b:LI}(h:b.length=8):lo13 b=b:=List.take_of_length_le (by omega)
theorem z8w(k:Nat):8≤q26 k∧q26 k≤16:=by
 unfold q26
 split<;>decide
def qum(b:LI)(four:Bool):LI:=zju (palV (lv b 0 16) (lv b 16 16) four) (oneW b)
theorem z5y(b:LI)(four:Bool):(qum b four).length=64:=zjx (qm3 _ _ _) (qre b)
theorem zrr(b:LI)(four:Bool):Rg 255 (qum b four):=rg_tileV (qm3 _ _ _) (qre b) (zxp _ _ _)
def qun(k:Nat)(b:LI):LI:=match k with
 |1=>qum b false
 |2=>wT 3 (z8o (lo13 b)) (qum (hi13 b) true)
 |3=>wT 3 (qay (lo13 b)) (qum (hi13 b) true)
 |4=>wT 0 (qay (lo13 b)) (qm5 255)
 |5=>wT 1 (qay (hi13 b)) (wT 0 (qay (lo13 b)) (qm5 255))
 |_=>qa5 b
theorem qz8{b:LI}(hb:Bytes b){k:Nat}(h:Fmt k):Rg (za8 k) (qun k b):=by
 have hlo:=qiy hb
 have hhi:=qpk hb
 refine qkl (p:=fun k=>Rg (za8 k) (qun k b)) ?_ ?_ ?_ ?_ ?_ ?_ h
 ·exact zrr _ _
 ·exact j4n (by decide) (rg_fours _) (zrr _ _)
 ·exact j4n (by decide) (z5w hlo) (zrr _ _)
 ·exact j4n (by decide) (z5w hlo) (zvd (by decide))
 ·exact j4n (by decide) (z5w hhi) (j4n (by decide) (z5w hlo) (zvd (by decide)))
 ·exact j4m b
theorem qfu{b t:LI}(hb:Bytes b)(hl:b.length=8)(ht:t.length=64){c:Nat}(hc:c<4)(x y:Int):q1v 600 t c b x y false=some (wT c (qay b) t,()):=by
 unfold q1v qgt
 simp only[cF,j12 (F:=600) (by decide) hb hl,y5,j4p hc ht]
section
variable {b:LI}
theorem d13_1(hb:Bytes b)(hl:b.length=8)(x):q15 600 1 x (lo13 b) (hi13 b) b=some (qun 1 b,0,()):=by
 have h:=z8s (F:=600) (by decide) hb hl false
 unfold q15
 simp only[Int.reduceBEq,cT,cF,h,y5]
 rfl
theorem d13_2(hb:Bytes b)(hl:b.length=16)(x):q15 600 2 x (lo13 b) (hi13 b) b=some (qun 2 b,0,()):=by
 have h1:=Fours_is (F:=600) (by decide) (qiy hb) (z5x (b:=b) (by omega))
 have h2:q6n 600 (hi13 b) true=some (qum (hi13 b) true,0,()):=z8s (F:=600) (by decide) (qpk hb) (ze3 (by omega)) true
 have h3:=fun e=>j4p (c:=3) (by decide) (l:=z8o (lo13 b)) (z5y (hi13 b) true) e
 simp only[yp]at h3
 unfold q15
 simp only[Int.reduceBEq,cT,cF,h1,h2,h3,qb7,y5]
 rfl
theorem d13_3(hb:Bytes b)(hl:b.length=16):q15 600 3 (16,15,false,()) (lo13 b) (hi13 b) b=some (qun 3 b,0,()):=by
 have h2:q6n 600 (hi13 b) true=some (qum (hi13 b) true,0,()):=z8s (F:=600) (by decide) (qpk hb) (ze3 (by omega)) true
 have h3:=fun x y=>qfu (qiy hb) (z5x (by omega)) (z5y (hi13 b) true) (c:=3) (by decide) x y
 simp only[yp]at h3
 unfold q15
 simp only[Int.reduceBEq,cT,cF,h2,h3,qb7,y5]
 rfl
theorem d13_4(hb:Bytes b)(hl:b.length=8):q15 600 4 (8,1,false,()) (lo13 b) (hi13 b) b=some (qun 4 b,0,()):=by
 have h3:=fun x y=>qfu (qiy hb) (z5x (by omega)) (qz7 255) (c:=0) (by decide) x y
 simp only[yq]at h3
 unfold q15
 simp only[Int.reduceBEq,cT,cF,blank_is.1,h3,y5]
 rfl
theorem d13_5(hb:Bytes b)(hl:b.length=16):q15 600 5 (16,3,false,()) (lo13 b) (hi13 b) b=some (qun 5 b,0,()):=by
 have h3:=fun x y=>qfu (qiy hb) (z5x (by omega)) (qz7 255) (c:=0) (by decide) x y
 have h4:=fun x y=>qfu (qpk hb) (ze3 (by omega)) (wT_len 0 (qay (lo13 b)) (qm5 255)) (c:=1) (by decide) x y
 simp only[yq,yp]at h3 h4
 unfold q15
 simp only[Int.reduceBEq,cT,cF,blank_is.1,h3,h4,y5]
 rfl
theorem d13_6(hb:Bytes b)(hl:b.length=16)(x):q15 600 6 x (lo13 b) (hi13 b) b=some (qun 6 b,0,()):=by
 have h:=qz5 hb hl
 unfold q15
 simp only[Int.reduceBEq,cT,cF,h,y5]
 rfl
theorem decode13(hb:Bytes b){k:Nat}(h:Fmt k):b.length=q26 k→q15 600 (k:Int) ((q26 k:Int),qhw k,z1w k,()) (lo13 b) (hi13 b) b=some (qun k b,0,()):=
 qkl (p:=fun k=>b.length=q26 k→q15 600 (k:Int) ((q26 k:Int),qhw k,z1w k,()) (lo13 b) (hi13 b) b=some (qun k b,0,()))
  (fun hl=>d13_1 hb hl _) (fun hl=>d13_2 hb hl _) (fun hl=>d13_3 hb hl) (fun hl=>d13_4 hb hl) (fun hl=>d13_5 hb hl) (fun hl=>d13_6 hb hl _) h
theorem zxr(hb:Bytes b){k:Nat}(h:Fmt k)(hl:b.length=q26 k):qic 600 (k:Int) b=some (qun k b,0,()):=by
 have g:=z8w k
 unfold qic
 rw[zve 600 h]
 have e1:y0 .i64 ((b.length:Int)-8)=((b.length-8:Nat):Int):=by rw[w64 (by omega) (by omega)];omega
 have e2:(((b.length:Nat):Int) !=(q26 k:Int))=false:=by rw[hl];simp
 have e3:psub b.length (b.length-8)=8:=by rw[zo7];omega
 simp only[y5,bne_self_eq_false,cF,e2,show 8≤b.length by omega,dT,cT,e1,yc,yb,show b.length-8≤b.length by omega,yd,e3]
 have h3:=decode13 hb h hl
 unfold lo13 hi13 at h3
 rw[h3]
 rfl
end
def scV(x:Int):Int:=8*x+x/32
def upS(n:Nat)(t:LI)(j:Nat):Int:=if j<n then scV (t.getD j 0)else t.getD j 0
theorem j4q{t:LI}{n:Nat}(hn:n<64):(tab 64 (upS n t)).set n (scV (t.getD n 0))=tab 64 (upS (n+1) t):=by
 rw[q4u]
 refine q03 fun j hj=> ?_
 unfold upS
 by_cases h:j=n
 ·subst h;rw[iP rfl,iP (by omega)]
 ·rw[iN h]
  by_cases h2:j<n
  ·rw[iP h2,iP (by omega)]
  ·rw[iN h2,iN (by omega)]
theorem zvf{t:LI}(ht:Rg 255 t)(T:LI){i:Nat}(hi:i<16)(y:Int):∀(d c k:Nat),c+d=4→d<k→
  q6i 600 k (tab 64 (upS (i*4+c) t)) T (i:Int) y (tab 4 fun c=>t.getD (i*4+c) 0) (c:Int)=some (tab 64 (upS (i*4+4) t),T,y,()):=by
 intro d
 induction d with
 |zero=>
  intro c k h1 h2
  obtain⟨k,rfl⟩:∃k',k=k' +1:=⟨k-1,by omega⟩
  obtain rfl:c=4:=by omega
  rfl
 |succ d ih=>
  intro c k h1 h2
  obtain⟨k,rfl⟩:∃k',k=k' +1:=⟨k-1,by omega⟩
  show qal 600 (q6i 600 k) (tab 64 (upS (i*4+c) t)) T i y (tab 4 fun c=>t.getD (i*4+c) 0) c=_
  unfold qal
  have h3:(i:Int)<16:=by omega
  have h4:(c:Int)<4:=by omega
  have hv:=ht (i*4+c)
  have e:y0 .i64 (y0 .i64 (8*t.getD (i*4+c) 0)+y0 .i64 (yv (t.getD (i*4+c) 0) 32))=scV (t.getD (i*4+c) 0):=by
   rw[q3s hv.1,w64 (x:=8*t.getD (i*4+c) 0) (by omega) (by omega),w64 (x:=t.getD (i*4+c) 0/32) (by omega) (by omega),w64 (by omega) (by omega)]
   rfl
  simp only[h3,h4,dT,cT,yc,yd,yb,q0d (show c<4 by omega),e,j4q (t:=t) (show i*4+c<64 by omega),q0j (show c<1000000000000 by omega)]
  exact ih (c+1) k (by omega) (by omega)
theorem zvg{t:LI}(ht:Rg 255 t)(T:LI):∀(d i k:Nat),i+d=16→d<k→q6j 600 k (tab 64 (upS (i*4) t)) T (i:Int)=some (tab 64 (upS 64 t),T,()):=by
 intro d
 induction d with
 |zero=>
  intro i k h1 h2
  obtain⟨k,rfl⟩:∃k',k=k' +1:=⟨k-1,by omega⟩
  obtain rfl:i=16:=by omega
  rfl
 |succ d ih=>
  intro i k h1 h2
  obtain⟨k,rfl⟩:∃k',k=k' +1:=⟨k-1,by omega⟩
  show qam 600 (q6j 600 k) (tab 64 (upS (i*4) t)) T i=_
  unfold qam
  have h3:(i:Int)<16:=by omega
  have e:y8 4 (y9 (i*4) (tab 64 (upS (i*4) t)))=tab 4 fun c=>t.getD (i*4+c) 0:=by
   rw[qaq (by omega)]
   exact q03 fun c hc=>by unfold upS;rw[iN (by omega)]
  have h:=zvf ht T (i:=i) (by omega) i 4 0 600 (by omega) (by omega)
  simp only[Nat.add_zero,yq]at h
  simp only[h3,dT,cT,yc,yd,yb,e,h,y5,q0j (show i<1000000000000 by omega)]
  rw[show i*4+4=(i+1)*4 by omega]
  exact ih (i+1) k (by omega) (by omega)
def scT(k:Nat)(t:LI):LI:=if z1w k then tab 64 fun j=>scV (t.getD j 0)else t
theorem scT_len{k:Nat}{t:LI}(ht:t.length=64):(scT k t).length=64:=by
 unfold scT
 split
 ·exact q0g _ _
 ·exact ht
theorem zzs{k:Nat}{t:LI}(ht:Rg 255 t):Rg (za8 k) (scT k t):=by
 unfold scT za8
 cases z1w k
 ·exact ht
 ·exact qkk (by decide) fun j _=>by
   have:=ht j
   unfold scV
   simp only[if_true]
   omega
theorem zzt{k:Nat}(h:Fmt k){t:LI}(hl:t.length=64)(ht:Rg 255 t):qg7 600 (k:Int) t=some (scT k t,()):=by
 unfold qg7 scT
 rw[zve 600 h]
 simp only[y5]
 cases z1w k
 ·rfl
 ·have h:=zvg ht q2r 16 0 600 (by omega) (by omega)
  have e0:tab 64 (upS (0*4) t)=t:=by
   conv=>rhs;rw[qye hl]
   exact q03 fun j hj=>by unfold upS;rw[iN (by omega)]
  have e1:tab 64 (upS 64 t)=tab 64 fun j=>scV (t.getD j 0):=q03 fun j hj=>by unfold upS;rw[iP hj]
  rw[e0,e1,show((0:Nat):Int)=0 from rfl]at h
  simp only[Bool.not_true,cF,h,y5,if_true]
def bitM(mask:Int)(c:Nat):Bool:=mask/2^c%2==1
def errT(mask:Int)(s u:LI)(j:Nat):Int:=if bitM mask (j%4)then(s.getD j 0-u.getD j 0)*(s.getD j 0-u.getD j 0)else 0
def sumN(f:Nat→Int):Nat→Int
 |0=>0
 |n+1=>sumN f n+f n
theorem q7u{f:Nat→Int}{m:Int}:∀{n:Nat},(∀i,i<n→0≤f i∧f i≤m)→0≤sumN f n∧sumN f n≤m*n
 |0,_=>by simp[sumN]
 |n+1,h=>by
  have h1:=q7u (n:=n) fun i hi=>h i (by omega)
  have h2:=h n (by omega)
  have e:m*((n+1:Nat):Int)=m*(n:Int)+m:=by
   rw[show((n+1:Nat):Int)=(n:Int)+1 by omega,Int.mul_add,Int.mul_one]
  unfold sumN
  rw[e]
  omega
theorem qz9{f g:Nat→Int}:∀{n:Nat},(∀i,i<n→f i=g i)→sumN f n=sumN g n
 |0,_=>rfl
 |n+1,h=>by unfold sumN;rw[qz9 fun i hi=>h i (by omega),h n (by omega)]
theorem qkm{f:Nat→Int}:∀{n:Nat},(∀i,i<n→0≤f i)→(sumN f n=0↔∀i,i<n→f i=0)
 |0,_=>by simp[sumN]
 |n+1,h=>by
  have h1:=qkm (n:=n) fun i hi=>h i (by omega)
  have h0:0≤sumN f n:=by
   have:∀m,m≤n→0≤sumN f m:=by
    intro m
    induction m with
    |zero=>intro _;exact Int.le_refl 0
    |succ m ih=>intro hm;unfold sumN;have:=ih (by omega);have:=h m (by omega);omega
   exact this n (wa _)
  have h2:=h n (by omega)
  unfold sumN
  constructor
  ·intro e i hi
   by_cases hin:i=n
   ·subst hin;omega
   ·exact h1.1 (by omega) i (by omega)
  ·intro e
   have:=h1.2 fun i hi=>e i (by omega)
   have:=e n (by omega)
   omega
theorem q88{x m:Int}(h: -m≤x∧x≤m):0≤x*x∧x*x≤m*m:=by
 have hm:0≤m:=by omega
 constructor
 ·rcases Int.le_total 0 x with h1|h1
  ·exact Int.mul_nonneg h1 h1
  ·have:=Int.mul_nonneg (a:= -x) (b:= -x) (by omega) (by omega)
   rwa [Int.neg_mul_neg]at this
 ·rcases Int.le_total 0 x with h1|h1
  ·exact Int.mul_le_mul h.2 h.2 h1 hm
  ·have:=Int.mul_le_mul (a:= -x) (b:= -x) (c:=m) (d:=m) (by omega) (by omega) (by omega) hm
   rwa [Int.neg_mul_neg]at this
theorem sq_zero{x:Int}:x*x=0↔x=0:=by
 rw[Int.mul_eq_zero]
 simp
theorem qza{mask:Int}{s u:LI}(hs:Rg 2047 s)(hu:Rg 2047 u)(j:Nat):0≤errT mask s u j∧errT mask s u j≤2047*2047:=by
 unfold errT
 split
 ·have h1:=hs j
  have h2:=hu j
  exact q88 (m:=2047) (by omega)
 ·decide
def errS(mask:Int)(s u:LI):Int:=sumN (errT mask s u) 64
theorem zxs{mask:Int}{s u:LI}(hs:Rg 2047 s)(hu:Rg 2047 u):0≤errS mask s u:=(q7u (n:=64) fun i _=>qza hs hu i).1
theorem zjz{mask:Int}{s u:LI}(hs:Rg 2047 s)(hu:Rg 2047 u):errS mask s u=0↔∀j,j<64→bitM mask (j%4)=true→s.getD j 0=u.getD j 0:=by
 unfold errS
 rw[qkm fun i _=>(qza hs hu i).1]
 constructor
 ·intro h j hj hb
  have:=h j hj
  unfold errT at this
  rw[iP hb,sq_zero]at this
  omega
 ·intro h j hj
  unfold errT
  split
  ·rename_i hb
   rw[sq_zero,h j hj hb]
   omega
  ·rfl
theorem zzu{mask:Int}{c:Nat}(hc:c≤62):(iand .i64 (ishr .i64 mask (c:Int)) 1==1)=bitM mask c:=by
 have h:=z5n (b:=1) (by decide) (x:=ishr .i64 mask (c:Int))
 rw[show((2:Int)^1-1)=1 from rfl]at h
 rw[h,ishr64' (by omega)]
 rfl
theorem zvh{mask:Int}{s u:LI}(hs:Rg 2047 s)(hu:Rg 2047 u){i:Nat}(hi:i<16)(y:Int):∀(d c k:Nat),c+d=4→d<k→
  q7l 600 k mask s u (sumN (errT mask s u) (i*4+c)) (i:Int) y (c:Int)=some (mask,s,u,sumN (errT mask s u) (i*4+4),y,()):=by
 intro d
 induction d with
 |zero=>
  intro c k h1 h2
  obtain⟨k,rfl⟩:∃k',k=k' +1:=⟨k-1,by omega⟩
  obtain rfl:c=4:=by omega
  rfl
 |succ d ih=>
  intro c k h1 h2
  obtain⟨k,rfl⟩:∃k',k=k' +1:=⟨k-1,by omega⟩
  show qch 600 (q7l 600 k) mask s u (sumN (errT mask s u) (i*4+c)) i y c=_
  unfold qch
  have h3:(i:Int)<16:=by omega
  have h4:(c:Int)<4:=by omega
  have b1:=hs (i*4+c)
  have b2:=hu (i*4+c)
  have b3:=q7u (n:=i*4+c) (f:=errT mask s u) fun j _=>qza hs hu j
  have b5:(2047*2047:Int)*((i*4+c:Nat):Int)≤2047*2047*64:=Int.mul_le_mul_of_nonneg_left (by omega) (by decide)
  have nx:=ih (c+1) k (by omega) (by omega)
  rw[show i*4+(c+1)=(i*4+c)+1 by omega]at nx
  rw[show sumN (errT mask s u) (i*4+c+1)=sumN (errT mask s u) (i*4+c)+errT mask s u (i*4+c)from rfl]at nx
  cases hb:bitM mask c with
  |true=>
   have e:errT mask s u (i*4+c)=(s.getD (i*4+c) 0-u.getD (i*4+c) 0)*(s.getD (i*4+c) 0-u.getD (i*4+c) 0):=by
    unfold errT
    rw[iP (by rw[show(i*4+c)%4=c by omega];exact hb)]
   have b4:=q88 (x:=s.getD (i*4+c) 0-u.getD (i*4+c) 0) (m:=2047) (by omega)
   have sq:q42 600 (y0 .i64 (s.getD (i*4+c) 0-u.getD (i*4+c) 0))=some ((s.getD (i*4+c) 0-u.getD (i*4+c) 0)*(s.getD (i*4+c) 0-u.getD (i*4+c) 0),()):=by
    unfold q42
    rw[w64 (x:=s.getD (i*4+c) 0-u.getD (i*4+c) 0) (by omega) (by omega),w64 (by omega) (by omega)]
   rw[e]at nx
   simp only[h3,h4,dT,cT,yc,yd,yb,zzu (mask:=mask) (show c≤62 by omega),hb,sq,y5,q0j (show c<1000000000000 by omega)]
   rw[w64 (by omega) (by omega)]
   exact nx
  |false=>
   have e:errT mask s u (i*4+c)=0:=by
    unfold errT
    rw[iN (by rw[show(i*4+c)%4=c by omega,hb];simp)]
   rw[e,Int.add_zero]at nx
   simp only[h3,h4,dT,cT,cF,yc,yd,yb,zzu (mask:=mask) (show c≤62 by omega),hb,q0j (show c<1000000000000 by omega)]
   exact nx
theorem zvi{mask:Int}{s u:LI}(hs:Rg 2047 s)(hu:Rg 2047 u):∀(d i k:Nat),i+d=16→d<k→q7m 600 k mask s u (sumN (errT mask s u) (i*4)) (i:Int)=some (errS mask s u,()):=by
 intro d
 induction d with
 |zero=>
  intro i k h1 h2
  obtain⟨k,rfl⟩:∃k',k=k' +1:=⟨k-1,by omega⟩
  obtain rfl:i=16:=by omega
  rfl
 |succ d ih=>
  intro i k h1 h2
  obtain⟨k,rfl⟩:∃k',k=k' +1:=⟨k-1,by omega⟩
  show qci 600 (q7m 600 k) mask s u (sumN (errT mask s u) (i*4)) i=_
  unfold qci
  have h3:(i:Int)<16:=by omega
  have h:=zvh hs hu (i:=i) (by omega) (i:Int) 4 0 600 (by omega) (by omega) (mask:=mask)
  simp only[Nat.add_zero,yq]at h
  simp only[h3,dT,cT,h,y5,q0j (show i<1000000000000 by omega)]
  rw[show i*4+4=(i+1)*4 by omega]
  exact ih (i+1) k (by omega) (by omega)
theorem j4r(mask:Int){s u:LI}(hs:Rg 2047 s)(hu:Rg 2047 u):qqg 600 s u mask=some (errS mask s u,()):=by
 have h:=zvi hs hu 16 0 600 (by omega) (by omega) (mask:=mask)
 unfold qqg
 simp only[Nat.zero_mul,yq,sumN]at h
 rw[h]
 rfl
theorem qdn(k:Nat):za8 k≤2047:=by
 unfold za8
 split<;>decide
def q82(k:Nat)(b t:LI):Int:=errS (qhw k) (scT k t) (qun k b)
theorem qpl{b t:LI}(hb:Bytes b){k:Nat}(h:Fmt k)(hl:b.length=q26 k)(htl:t.length=64)(ht:Rg 255 t):q6p 600 (k:Int) b t=some (q82 k b t,0,()):=by
 unfold q6p
 rw[zxr hb h hl,zve 600 h,zzt h htl ht]
 simp only[y5,bne_self_eq_false,cF,j4r (qhw k) (q3t (zzs (k:=k) ht) (qdn k)) (q3t (qz8 hb h) (qdn k))]
 rfl
theorem mbit_is{mask:Int}(hm:0≤mask∧mask≤15){c:Nat}(hc:c<4):(yu (y0 .i64 (yv mask (2^c))) 2==1)=bitM mask c:=by
 have hp:(0:Int)<2^c:=qgm c
 have h1:0≤mask/2^c:=Int.ediv_nonneg hm.1 (by omega)
 have h2:mask/2^c≤mask:=Int.ediv_le_self _ hm.1
 rw[q3s hm.1,w64 (by omega) (by omega),tmod_nonneg h1]
 rfl
theorem zvj(k:Nat):0≤qhw k∧qhw k≤15:=by
 unfold qhw
 split<;>decide
theorem j4s(F:Nat)(f:Int):qz1 F f=q8k F f∧∃r,q8k F f=some r:=by
 by_cases h:1≤f∧f≤12
 ·have:f=1∨f=2∨f=3∨f=4∨f=5∨f=6∨f=7∨f=8∨f=9∨f=10∨f=11∨f=12:=by omega
  rcases this with rfl|rfl|rfl|rfl|rfl|rfl|rfl|rfl|rfl|rfl|rfl|rfl<;>exact⟨rfl,_,rfl⟩
 ·rw[Of_bad F h]
  refine⟨?_,_,rfl⟩
  unfold qz1
  by_cases h1:f<1
  ·simp only[h1,dT,cT]
  ·have h2:12<f:=by omega
   simp only[h1,dF,cF,h2,dT,cT]
def q4w(g:Nat→Int):Nat→Nat
 |0=>0
 |n+1=>if n=0 then 0 else if g n<g (q4w g n)then n else q4w g n
theorem qpm(g:Nat→Int):∀{n:Nat},0<n→q4w g n<n
 |0,h=>by omega
 |n+1,_=>by
  unfold q4w
  split
  ·omega
  ·split
   ·omega
   ·have:=qpm g (n:=n) (by omega)
    omega
theorem zk0(g:Nat→Int):∀{n:Nat} {i:Nat},i<n→g (q4w g n)≤g i
 |0,i,h=>by omega
 |n+1,i,h=>by
  unfold q4w
  split
  ·have:i=0:=by omega
   subst this
   exact Int.le_refl _
  ·split
   ·by_cases hi:i=n
    ·subst hi;exact Int.le_refl _
    ·have:=zk0 g (n:=n) (i:=i) (by omega)
     omega
   ·by_cases hi:i=n
    ·subst hi;omega
    ·exact zk0 g (n:=n) (i:=i) (by omega)
def zrs(l:LI)(v:Int):Int:=sumN (fun i=>(l.getD i 0-v)*(l.getD i 0-v)) l.length
theorem zmy{l L:LI}(hl:Rg 2047 l)(hn:l.length≤64){p:Nat}(hp:p<L.length)(hv:0≤L.getD p 0∧L.getD p 0≤2047):∀(d i k:Nat),i+d=l.length→d<k→
  q3o 600 k (p:Int) L (sumN (fun i=>(l.getD i 0-L.getD p 0)*(l.getD i 0-L.getD p 0)) i) l (l.length:Int) (i:Int)=some (zrs l (L.getD p 0),()):=by
 intro d
 induction d with
 |zero=>
  intro i k h1 h2
  obtain⟨k,rfl⟩:∃k',k=k' +1:=⟨k-1,by omega⟩
  obtain rfl:i=l.length:=by omega
  show q4d 600 (q3o 600 k) _ _ _ _ _ _=_
  unfold q4d
  simp only[yt,dF,cF]
  rfl
 |succ d ih=>
  intro i k h1 h2
  obtain⟨k,rfl⟩:∃k',k=k' +1:=⟨k-1,by omega⟩
  show q4d 600 (q3o 600 k) _ _ _ _ _ _=_
  unfold q4d
  have h3:(i:Int)<(l.length:Int):=by omega
  have h4:(p:Int)<(L.length:Int):=by omega
  have b1:=hl i
  have b2:=q88 (x:=l.getD i 0-L.getD p 0) (m:=2047) (by omega)
  have b3:=q7u (n:=i) (f:=fun i=>(l.getD i 0-L.getD p 0)*(l.getD i 0-L.getD p 0)) (m:=2047*2047) fun j _=>q88 (m:=2047) (by have:=hl j;omega)
  have b4:(2047*2047:Int)*(i:Int)≤2047*2047*64:=Int.mul_le_mul_of_nonneg_left (by omega) (by decide)
  have sq:q42 600 (y0 .i64 (l.getD i 0-L.getD p 0))=some ((l.getD i 0-L.getD p 0)*(l.getD i 0-L.getD p 0),()):=by
   unfold q42
   rw[w64 (x:=l.getD i 0-L.getD p 0) (by omega) (by omega),w64 (by omega) (by omega)]
  simp only[h3,h4,dT,cT,yc,yd,yb,sq,y5,q0j (show i<1000000000000 by omega)]
  rw[w64 (by omega) (by omega)]
  exact ih (i+1) k (by omega) (by omega)
theorem znz{l L:LI}(hl:Rg 2047 l)(hn:l.length≤64){p:Nat}(hp:p<L.length)(hv:0≤L.getD p 0∧L.getD p 0≤2047):qid 600 (p:Int) l L=some (zrs l (L.getD p 0),()):=by
 have h:=zmy hl hn hp hv l.length 0 600 (by omega) (by omega)
 unfold qid
 simp only[yq,sumN]at h
 rw[h]
 rfl
def zdl(L l:LI):Nat:=q4w (fun i=>zrs l (L.getD i 0)) L.length
theorem z8x{l L:LI}(hl:Rg 2047 l)(hn:l.length≤64)(hL:Rg 2047 L)(hm:L.length≤300):∀(d i k:Nat),1≤i→i+d=L.length→d<k→
  q0x 600 k l L (q4w (fun i=>zrs l (L.getD i 0)) i:Int) (zrs l (L.getD (q4w (fun i=>zrs l (L.getD i 0)) i) 0)) (L.length:Int) (i:Int)=some ((zdl L l:Int),()):=by
 intro d
 induction d with
 |zero=>
  intro i k h0 h1 h2
  obtain⟨k,rfl⟩:∃k',k=k' +1:=⟨k-1,by omega⟩
  obtain rfl:i=L.length:=by omega
  show q13 600 (q0x 600 k) _ _ _ _ _ _=_
  unfold q13
  simp only[yt,dF,cF]
  rfl
 |succ d ih=>
  intro i k h0 h1 h2
  obtain⟨k,rfl⟩:∃k',k=k' +1:=⟨k-1,by omega⟩
  show q13 600 (q0x 600 k) _ _ _ _ _ _=_
  unfold q13
  have h3:(i:Int)<(L.length:Int):=by omega
  have nx:=ih (i+1) k (by omega) (by omega) (by omega)
  unfold q4w at nx
  rw[iN (by omega)]at nx
  simp only[h3,dT,cT,znz hl hn (show i<L.length by omega) (hL i),y5,beqF (show(i:Int)≠0 by omega),cF,q0j (show i<1000000000000 by omega)]
  by_cases hc:zrs l (L.getD i 0)<zrs l (L.getD (q4w (fun i=>zrs l (L.getD i 0)) i) 0)
  ·rw[iP hc]at nx
   simp only[hc,dT,cT]
   exact nx
  ·rw[iN hc]at nx
   simp only[hc,dF,cF]
   exact nx
theorem zxt{l L:LI}(hl:Rg 2047 l)(hn:l.length≤64)(hL:Rg 2047 L)(hm:1≤L.length∧L.length≤300):qb9 600 L l=some ((zdl L l:Int),()):=by
 have h:=z8x hl hn hL hm.2 (L.length-1) 1 599 (by omega) (by omega) (by omega)
 have e:q0x 600 600 l L 0 0 (L.length:Int) 0=some ((zdl L l:Int),()):=by
  show q13 600 (q0x 600 599) _ _ _ _ _ _=_
  unfold q13
  have h3:(0:Int)<(L.length:Int):=by omega
  have b0:=znz hl hn (p:=0) (show 0<L.length by omega) (hL 0)
  simp only[yq]at b0
  simp only[h3,dT,cT,b0,y5,beq_self_eq_true]
  exact h
 unfold qb9 qaw
 rw[e]
 rfl
theorem bestV_lt{L l:LI}(h:0<L.length):zdl L l<L.length:=qpm _ h
def colT(t:LI)(c:Nat):LI:=tab 16 fun i=>t.getD (i*4+c) 0
theorem zrt(t:LI)(c:Nat):(colT t c).length=16:=q0g _ _
theorem zk1{m:Int}{t:LI}(h:Rg m t)(c:Nat):Rg m (colT t c):=qkk (by have:=h 0;omega) fun i _=>h _
theorem ze4(N:Nat)(g:Nat→Int):tab N g++[g N]=tab (N+1) g:=by
 unfold tab
 rw[List.range_succ,List.map_append]
 rfl
theorem zvk{t:LI}(hl:t.length=64){i:Nat}(hi:i<16){c:Nat}(hc:c<4):(y8 4 (y9 (i*4) t)).getD c 0=t.getD (i*4+c) 0:=by
 rw[z8p hl (by omega),q0d hc]
section
variable {t:LI} (hl:t.length=64) {c:Nat} (hc:c<4)
include hl hc
theorem zxu(x1 x2:Int):∀(d i k:Nat),i+d=16→d<k→q2k 600 k (c:Int) x1 x2 (tab i fun i=>t.getD (i*4+c) 0) t (i:Int)=some (x1,x2,colT t c,()):=by
 intro d
 induction d with
 |zero=>
  intro i k h1 h2
  obtain⟨k,rfl⟩:∃k',k=k' +1:=⟨k-1,by omega⟩
  obtain rfl:i=16:=by omega
  rfl
 |succ d ih=>
  intro i k h1 h2
  obtain⟨k,rfl⟩:∃k',k=k' +1:=⟨k-1,by omega⟩
  show q5p 600 (q2k 600 k) _ _ _ _ _ _=_
  unfold q5p
  have h3:(i:Int)<16:=by omega
  have h4:(c:Int)<4:=by omega
  simp only[h3,h4,dT,cT,yc,yd,yb,q0g,show i+1≤1099511627776 by omega,zvk hl (show i<16 by omega) hc,q0j (show i<1000000000000 by omega)]
  rw[ze4 i fun i=>t.getD (i*4+c) 0]
  exact ih (i+1) k (by omega) (by omega)
theorem zvl(x1:Int):∀(d i k:Nat),i+d=16→d<k→q2a 600 k (c:Int) x1 (tab i fun i=>t.getD (i*4+c) 0) t (i:Int)=some (x1,colT t c,()):=by
 intro d
 induction d with
 |zero=>
  intro i k h1 h2
  obtain⟨k,rfl⟩:∃k',k=k' +1:=⟨k-1,by omega⟩
  obtain rfl:i=16:=by omega
  rfl
 |succ d ih=>
  intro i k h1 h2
  obtain⟨k,rfl⟩:∃k',k=k' +1:=⟨k-1,by omega⟩
  show q4z 600 (q2a 600 k) _ _ _ _ _=_
  unfold q4z
  have h3:(i:Int)<16:=by omega
  have h4:(c:Int)<4:=by omega
  simp only[h3,h4,dT,cT,yc,yd,yb,q0g,show i+1≤1099511627776 by omega,zvk hl (show i<16 by omega) hc,q0j (show i<1000000000000 by omega)]
  rw[ze4 i fun i=>t.getD (i*4+c) 0]
  exact ih (i+1) k (by omega) (by omega)
theorem zxv(x1 x2:Int):∀(d i k:Nat),i+d=16→d<k→q24 600 k (c:Int) x1 x2 (tab i fun i=>t.getD (i*4+c) 0) t (i:Int)=some (x1,x2,colT t c,()):=by
 intro d
 induction d with
 |zero=>
  intro i k h1 h2
  obtain⟨k,rfl⟩:∃k',k=k' +1:=⟨k-1,by omega⟩
  obtain rfl:i=16:=by omega
  rfl
 |succ d ih=>
  intro i k h1 h2
  obtain⟨k,rfl⟩:∃k',k=k' +1:=⟨k-1,by omega⟩
  show q3w 600 (q24 600 k) _ _ _ _ _ _=_
  unfold q3w
  have h3:(i:Int)<16:=by omega
  have h4:(c:Int)<4:=by omega
  simp only[h3,h4,dT,cT,yc,yd,yb,q0g,show i+1≤1099511627776 by omega,zvk hl (show i<16 by omega) hc,q0j (show i<1000000000000 by omega)]
  rw[ze4 i fun i=>t.getD (i*4+c) 0]
  exact ih (i+1) k (by omega) (by omega)
end
theorem zk2{α:Type}{m:Nat}(hm:m≤300)(g:Nat→Int)(L:Nat→LI→Int→Option α)(res:LI→Option α)
  (step:∀(k i:Nat),i<m→L (k+1) (tab i g) i=L k (tab i g++[g i]) ((i+1:Nat):Int)) (stop:∀k,L (k+1) (tab m g) m=res (tab m g)):L 600 [] 0=res (tab m g):=by
 have key:∀(d i k:Nat),i+d=m→d<k→L k (tab i g) i=res (tab m g):=by
  intro d
  induction d with
  |zero=>
   intro i k h1 h2
   obtain⟨k,rfl⟩:∃k',k=k' +1:=⟨k-1,by omega⟩
   obtain rfl:i=m:=by omega
   exact stop k
  |succ d ih=>
   intro i k h1 h2
   obtain⟨k,rfl⟩:∃k',k=k' +1:=⟨k-1,by omega⟩
   rw[step k i (by omega),ze4]
   exact ih (i+1) k (by omega) (by omega)
 exact key m 0 600 (by omega) (by omega)
def lvW(b:Nat):LI:=tab (2^b) fun i=>q3z b i
def lvP:LI:=tab 256 fun i=>(i:Int)
def lvS(bit:Int):LI:=tab 128 fun i=>2*(i:Int)+bit
theorem pow_b{b:Nat}(hb:1≤b∧b≤8):1≤2^b∧2^b≤256:=by
 have h:(2:Nat)^b≤2^8:=Nat.pow_le_pow_right (by decide) hb.2
 have:=Nat.pow_pos (n:=b) (show 0<2 by decide)
 omega
theorem rg_lvW{b:Nat}(hb:1≤b∧b≤8):Rg 255 (lvW b):=qkk (by decide) fun i _=>q79 hb _
theorem rg_lvP:Rg 255 lvP:=qkk (by decide) fun i hi=>by omega
theorem rg_lvS{bit:Int}(h:0≤bit∧bit≤1):Rg 255 (lvS bit):=qkk (by decide) fun i hi=>by omega
section
variable {t:LI} (hl:t.length=64) (ht:Rg 2047 t) {c:Nat} (hc:c<4)
include hl ht hc
theorem zvm{b:Nat}(hb:1≤b∧b≤8):q9e 600 t c ((2^b:Nat):Int) b=some ((zdl (lvW b) (colT t c):Int),()):=by
 have hp:=pow_b hb
 have h1:=zxu hl hc ((2^b:Nat):Int) (b:Int) 16 0 600 (by omega) (by omega)
 rw[show tab 0 (fun i=>t.getD (i*4+c) 0)=[]from rfl,show((0:Nat):Int)=0 from rfl]at h1
 have h2:=zk2 (m:=2^b) (by omega) (fun i=>q3z b i) (fun k w i=>q21 600 k (b:Int) (colT t c) w ((2^b:Nat):Int) i) (fun w=>some (colT t c,w,())) (fun k i hi=>by
   show q29 600 (q21 600 k) _ _ _ _ _=_
   unfold q29 qvs
   have h3:(i:Int)<((2^b:Nat):Int):=by omega
   simp only[h3,dT,cT,qrb (F:=600) (by decide) hb,y5,q0g,show i+1≤1099511627776 by omega,yd,q0j (show i<1000000000000 by omega)]) (fun k=>by
   show q29 600 (q21 600 k) _ _ _ _ _=_
   unfold q29
   simp only[yt,dF,cF])
 have h3:=zxt (l:=colT t c) (L:=lvW b) (zk1 ht c) (by rw[zrt];decide) (q3t (rg_lvW hb) (by decide)) (by unfold lvW;rw[q0g];omega)
 unfold q9e
 rw[h1]
 simp only[y5]
 rw[h2]
 simp only[y5]
 unfold lvW at h3⊢
 rw[h3]
 rfl
theorem z5z{b:Nat}(hb:1≤b∧b≤8):q9x 600 t c b=some ((zdl (lvW b) (colT t c):Int),()):=by
 have h:=zvm hl ht hc hb
 have e:ishl .i64 1 (b:Int)=((2^b:Nat):Int):=by
  rw[zdz (by omega)]
  exact(wg 2 b).symm
 unfold q9x
 simp only[yc,dT,cT,e,h,y5]
theorem j1b:qnq 600 t c=some ((zdl lvP (colT t c):Int),()):=by
 have h1:=zvl hl hc (256:Int) 16 0 600 (by omega) (by omega)
 rw[show tab 0 (fun i=>t.getD (i*4+c) 0)=[]from rfl,show((0:Nat):Int)=0 from rfl]at h1
 have h2:=zk2 (m:=256) (by omega) (fun i=>(i:Int)) (fun k w i=>q1l 600 k (colT t c) w 256 i) (fun w=>some (colT t c,w,())) (fun k i hi=>by
   show q23 600 (q1l 600 k) _ _ _ _=_
   unfold q23 qqh
   have h3:(i:Int)<256:=by omega
   simp only[h3,dT,cT,y5,q0g,show i+1≤1099511627776 by omega,yd,q0j (show i<1000000000000 by omega)]) (fun k=>by
   show q23 600 (q1l 600 k) _ _ _ _=_
   unfold q23
   rfl)
 have h3:=zxt (l:=colT t c) (L:=lvP) (zk1 ht c) (by rw[zrt];decide) (q3t rg_lvP (by decide)) (by unfold lvP;rw[q0g];decide)
 unfold qnq qcj
 rw[h1]
 simp only[y5]
 rw[h2]
 simp only[y5]
 unfold lvP at h3⊢
 rw[h3]
 rfl
theorem sixb_is{bit:Int}(hb:0≤bit∧bit≤1):q70 600 t c 128 bit=some ((zdl (lvS bit) (colT t c):Int),()):=by
 have h1:=zxv hl hc (128:Int) bit 16 0 600 (by omega) (by omega)
 rw[show tab 0 (fun i=>t.getD (i*4+c) 0)=[]from rfl,show((0:Nat):Int)=0 from rfl]at h1
 have h2:=zk2 (m:=128) (by omega) (fun i=>2*(i:Int)+bit) (fun k w i=>q1e 600 k bit (colT t c) w 128 i) (fun w=>some (colT t c,w,())) (fun k i hi=>by
   show q1x 600 (q1e 600 k) _ _ _ _ _=_
   unfold q1x qmj
   have h3:(i:Int)<128:=by omega
   have e:y0 .i64 (y0 .i64 (2*(i:Int))+bit)=2*(i:Int)+bit:=by rw[w64 (x:=2*(i:Int)) (by omega) (by omega),w64 (by omega) (by omega)]
   simp only[h3,dT,cT,y5,e,q0g,show i+1≤1099511627776 by omega,yd,q0j (show i<1000000000000 by omega)]) (fun k=>by
   show q1x 600 (q1e 600 k) _ _ _ _ _=_
   unfold q1x
   rfl)
 have h3:=zxt (l:=colT t c) (L:=lvS bit) (zk1 ht c) (by rw[zrt];decide) (q3t (rg_lvS hb) (by decide)) (by unfold lvS;rw[q0g];decide)
 unfold q70
 rw[h1]
 simp only[y5]
 rw[h2]
 simp only[y5]
 unfold lvS at h3⊢
 rw[h3]
 rfl
end
theorem qzb(n:Int):q5q 600 n=some (tab 16 fun _=>n,()):=by
 have key:∀T w:LI,w.length=16→q4o 600 600 n T w 0=some (T,tab 16 (fun _=>n),()):=by
  intro T w hw
  refine qki 16 (fun _=>n) (fun k w i=>q4o 600 k n T w i) (fun w=>some (T,w,())) ?_ ?_ w hw 600 (by omega)
  ·intro k i w hi hw
   show qan 600 (q4o 600 k) n T w i=_
   unfold qan
   have h3:(i:Int)<16:=by omega
   simp only[h3,dT,cT,yc,yd,yb,q0j (show i<1000000000000 by omega)]
  ·intro k w hw
   rfl
 unfold q5q
 rw[key _ _ rfl]
 rfl
def oneT(v:Nat→Int):LI:=tab 64 fun j=>v (j%4)
def qbt(n:Int):LI:=tab 16 fun _=>n
theorem qgo(n:Int){j:Nat}(hj:j<16):(qbt n).getD j 0=n:=q0d hj
theorem j4t(n:Int):(qbt n).length=16:=q0g _ _
theorem zru{n:Int}(h: -9223372036854775808≤n∧n≤9223372036854775807)(j:Nat): -9223372036854775808≤(qbt n).getD j 0∧(qbt n).getD j 0≤9223372036854775807:=by
 by_cases hj:j<16
 ·rw[qgo n hj]
  exact h
 ·rw[qpj (by rw[j4t];omega)]
  decide
theorem zrv{e:Nat}{n:Int}(h:0≤n∧n<2^e):∀j,j<16→okW e (qbt n) j:=fun j hj=>by
 unfold okW
 rw[qgo n hj]
 exact h
theorem qpn(e:Nat):∀j,j<16→okW e (qbt 0) j:=zrv ⟨Int.le_refl 0,Int.pow_pos (by decide)⟩
theorem qpo{low:Int}{from_ each:Nat}{w:LI}(hl:0≤low∧low<2^from_)(he:1≤each)(hfe:from_+each*16=64)(hw:∀j,j<16→okW each w j){a n:Nat}(h:a+n≤from_){v:Int}(hv' :0≤v∧v<2^n)
  (e:∀i,i<n→low/2^(a+i)%2=v/2^i%2):lv (qdk low from_ each w) a n=v:=by
 refine z8l hv' fun q h1 h2=> ?_
 rw[znr hl he hfe hw (by omega),iP (by omega)]
 have:=e (q-a) (by omega)
 rwa [show a+(q-a)=q by omega]at this
theorem qpp{low:Int}{from_ each:Nat}{w:LI}(hl:0≤low∧low<2^from_)(he:1≤each)(hfe:from_+each*16=64)(hw:∀j,j<16→okW each w j){i:Nat}(hi:i<16):lv (qdk low from_ each w) (from_+each*i) each=w.getD i 0:=by
 refine z8l (hw i hi) fun q h1 h2=> ?_
 have hm:each*i+each≤each*16:=by
  rw[←Nat.mul_succ]
  exact Nat.mul_le_mul_left _ (by omega)
 obtain⟨r,rfl⟩:∃r,q=from_+each*i+r:=⟨q-(from_+each*i),by omega⟩
 rw[znr hl he hfe hw (by omega),iN (by omega),show from_+each*i+r-from_=each*i+r by omega,Nat.mul_add_div (by omega),Nat.mul_add_mod,Nat.div_eq_of_lt (show r<each by omega),Nat.mod_eq_of_lt (show r<each by omega),Nat.add_zero,show from_+each*i+r-(from_+each*i)=r by omega]
theorem zxw{b:LI}(hb:Bytes b)(i:Nat):lv b (8*i) 8=b.getD i 0:=by
 have h:=hb.getD i
 unfold lv
 rw[z30 (g:=fun j=>b.getD i 0/2^j%2) fun j hj=>by unfold q48 bitL;rw[show(8*i+j)/8=i by omega,show(8*i+j)%8=j by omega],z8j _ h.1,Int.emod_eq_of_lt h.1 (by omega)]
def hexB(n:Int):LI:=qdk (n+n*2^16) 32 2 (qbt 0)
theorem z8y{n:Int}(hn:0≤n∧n≤65535)(four:Bool):qum (hexB n) four=oneT fun c=>(colV n).getD c 0:=by
 have hl:0≤n+n*2^16∧n+n*2^16<2^32:=by omega
 have e0:lv (hexB n) 0 16=n:=qpo hl (by decide) (by decide) (qpn 2) (by decide) (by omega) fun i hi=>by
  rw[q8x (by omega),iP (by omega),Nat.zero_add]
 unfold qum oneT
 rw[e0,qye (zjx (qm3 n (lv (hexB n) 16 16) four) (qre (hexB n)))]
 refine q03 fun j hj=> ?_
 have e1:lv (hexB n) (32+2*(j/4)) 2=(qbt 0).getD (j/4) 0:=qpp hl (by decide) (by decide) (qpn 2) (by omega)
 rw[zjy (qm3 _ _ _) (qre _) hj,zrj _ (by omega),e1,qgo 0 (by omega),show y6 0*4+j%4=j%4 by simp]
 unfold palV
 split
 ·simp only[ye]
  rw[yg (by show j%4<4;omega)]
 ·simp only[ye]
  rw[yg (by show j%4<4;omega)]
theorem hexB_is{n:Int}(hn:0≤n∧n≤65535):qb5 600 n n (qbt 0)=some (hexB n,0,()):=
 zzh (by decide) hn hn (zru (by decide)) (qpn 2)
def za9(n:Int):LI:=qdk 0 0 4 (qbt n)
theorem zvn{n:Int}(hn:0≤n∧n<16):z8o (za9 n)=qbt (q3z 4 n):=by
 show tab 16 _=tab 16 _
 refine q03 fun i hi=> ?_
 have e1:lv (za9 n) (0+4*i) 4=(qbt n).getD i 0:=qpp (low:=0) (by decide) (by decide) (by decide) (zrv hn) hi
 rw[Nat.zero_add,qgo n hi]at e1
 rw[e1]
theorem j4u{n:Int}(hn:0≤n∧n<16):q3m 600 (qbt n)=some (za9 n,0,()):=by
 have j1:=(z5q (F:=600) (by decide) (low:=0) (from_:=0) (each:=4) (w:=qbt n) (by decide) (by decide) (by decide) (zru (by omega))).1 (zrv hn)
 simp only[yp,yq]at j1
 unfold q3m
 simp only[and_self,if_true,j1,y5,za9]
def qpq(n:Int):LI:=qdk (n+n*2^8) 16 3 (qbt 0)
theorem zk3(a b:Int):(q5y a b).getD 0 0=a:=by
 unfold q5y j11 zx7
 split<;>rfl
theorem qrf{n:Int}(hn:0≤n∧n≤255):qay (qpq n)=qbt n:=by
 have hl:0≤n+n*2^8∧n+n*2^8<2^16:=by omega
 have e0:(qpq n).getD 0 0=n:=by
  rw[←zxw (b:=qpq n) (q5z _ _ _ _) 0]
  exact qpo hl (by decide) (by decide) (qpn 3) (by decide) (by omega) fun i hi=>by
   rw[q8x (by omega),iP (by omega),Nat.mul_zero,Nat.zero_add]
 show tab 16 _=tab 16 _
 refine q03 fun i hi=> ?_
 have e1:lv (qpq n) (16+3*i) 3=(qbt 0).getD i 0:=qpp hl (by decide) (by decide) (qpn 3) hi
 have e2:(qer (qpq n)).getD i 0=0:=by
  unfold qer
  rw[q64 _ hi,e1,qgo 0 hi]
 rw[e0,e2]
 exact zk3 _ _
theorem rampB_is{n:Int}(hn:0≤n∧n≤255):q6w 600 n n (qbt 0)=some (qpq n,0,()):=by
 obtain⟨t1,t2,t3,t4⟩:=lowTwo (a:=n) (b:=n) (by omega) (by omega)
 have j1:=(z5q (F:=600) (by decide) (low:=n+n*2^8) (from_:=16) (each:=3) (w:=qbt 0) ⟨t2,t3⟩ (by decide) (by decide) (zru (by decide))).1 (qpn 3)
 simp only[yp]at j1
 have c1:¬n<0:=by omega
 have c2:¬255<n:=by omega
 unfold q6w
 simp only[c1,c2,dF,cF,and_self,if_true,t1,j1,y5,qpq]
def sixB(w:LI)(bit:Int):LI:=sL (w++w) [bit,bit] (qbt 0) 26
theorem dbl_get{w:LI}(hl:w.length=4){c:Nat}(hc:c<4):(w++w).getD c 0=w.getD c 0∧(w++w).getD (4+c) 0=w.getD c 0:=by
 simp only[ye]
 rw[yg (by omega),yz (by omega),hl,show 4+c-4=c by omega]
 exact⟨rfl,rfl⟩
theorem j4v{w:LI}(hl:w.length=4)(hw:Rg 127 w){bit:Int}(hb:0≤bit∧bit≤1):okU (w++w) [bit,bit] (qbt 0) 26=true:=by
 unfold okU
 rw[List.all_eq_true]
 intro t ht
 have ht:=List.mem_range.1 ht
 have key:0≤sV (w++w) [bit,bit] (qbt 0) t∧sV (w++w) [bit,bit] (qbt 0) t<2^sN t:=by
  unfold sV sN
  by_cases h8:t<8
  ·rw[iP h8,iP h8]
   have hr:=qdm hw hw (t%2*4+t/2)
   omega
  rw[iN h8,iN h8]
  by_cases h10:t<10
  ·rw[iP h10,iP h10]
   have:t=8∨t=9:=by omega
   rcases this with rfl|rfl
   ·show 0≤bit∧bit<2^1
    omega
   ·show 0≤bit∧bit<2^1
    omega
  rw[iN h10,iN h10,qgo 0 (by omega)]
  split<;>decide
 simpa[okS,okV]using key
theorem j1c{w:LI}(hl:w.length=4)(hw:Rg 127 w){bit:Int}(hb:0≤bit∧bit≤1):qa5 (sixB w bit)=oneT fun c=>2*w.getD c 0+bit:=by
 have h1:=j4l (j4v hl hw hb)
 have h2:=qz5 (b:=sixB w bit) (q78 _ _ _ qdl 26) (znx _ _ _)
 unfold sixB at h2
 rw[h1]at h2
 have h3:=(Prod.mk.inj (Option.some.inj h2)).1
 unfold sixB
 rw[←h3]
 unfold oneT
 refine q03 fun j hj=> ?_
 have hc:j%4<4:=by omega
 have hg:=hw (j%4)
 have e1:endV (w++w) [bit,bit] (j%4)=2*w.getD (j%4) 0+bit:=by
  unfold endV
  rw[(dbl_get hl hc).1,show j%4/4=0 by omega,Int.emod_eq_of_lt (by omega) (by omega)]
  show 2*w.getD (j%4) 0+bit%2=_
  omega
 rw[e1,qgo 0 (by omega),zzq]
theorem zzv{x:Int}(h: -9223372036854775808≤x∧x≤9223372036854775807):IntKind.i64.has x:=has_iff.2 h
theorem sixB_is{w:LI}(hl:w.length=4)(hw:Rg 127 w){bit:Int}(hb:0≤bit∧bit≤1):q4g 600 (w++w) [bit,bit] (qbt 0)=some (sixB w bit,0,()):=by
 have hok:=j4v hl hw hb
 have h1:=zzp (ends:=w++w) (more:=[bit,bit]) (which:=qbt 0) (fun x hx=> ?_) (fun x hx=> ?_) (fun x hx=> ?_)
 ·rw[h1,iP hok]
  rfl
 ·obtain⟨i,hi,rfl⟩:=List.getElem_of_mem hx
  have hr:=qdm hw hw i
  rw[ye,yj hi]at hr
  simp only[wc]at hr
  exact zzv (by omega)
 ·simp only[yr,List.not_mem_nil,or_false,or_self]at hx
  exact zzv (by omega)
 ·obtain⟨i,_,rfl⟩:=List.mem_map.1 hx
  exact zzv (by omega)
theorem zvo{x:Int}(h:0≤x∧x≤255):qgn x=x:=by unfold qgn;omega
def bN(L s:LI)(c:Nat):Int:=(zdl L (colT s c):Int)
theorem zrw{L:LI}(h:0<L.length)(s:LI)(c:Nat):0≤bN L s c∧bN L s c<(L.length:Int):=by
 have:=bestV_lt (L:=L) (l:=colT s c) h
 unfold bN
 omega
theorem j4w(b:Nat):(lvW b).length=2^b:=q0g _ _
theorem j4x:lvP.length=256:=q0g _ _
theorem j4y(bit:Int):(lvS bit).length=128:=q0g _ _
theorem bN_W{b:Nat}(hb:1≤b∧b≤8)(s:LI)(c:Nat):0≤bN (lvW b) s c∧bN (lvW b) s c<((2^b:Nat):Int):=by
 have:=zrw (L:=lvW b) (by rw[j4w];have:=pow_b hb;omega) s c
 rwa [j4w]at this
theorem bN_P(s:LI)(c:Nat):0≤bN lvP s c∧bN lvP s c≤255:=by
 have:=zrw (L:=lvP) (by rw[j4x];decide) s c
 rw[j4x]at this
 omega
theorem bN_S(bit:Int)(s:LI)(c:Nat):0≤bN (lvS bit) s c∧bN (lvS bit) s c≤127:=by
 have:=zrw (L:=lvS bit) (by rw[j4y];decide) s c
 rw[j4y]at this
 omega
def hexN(s:LI):Int:=bN (lvW 5) s 0*2048+bN (lvW 6) s 1*32+bN (lvW 5) s 2
theorem qzc(s:LI):0≤hexN s∧hexN s≤65535:=by
 have h0:=bN_W (b:=5) (by decide) s 0
 have h1:=bN_W (b:=6) (by decide) s 1
 have h2:=bN_W (b:=5) (by decide) s 2
 unfold hexN
 omega
theorem hex_or{a b c:Int}(ha:0≤a∧a<32)(hb:0≤b∧b<64)(hc:0≤c∧c<32):ior .i64 (ior .i64 (ishl .i64 a 11) (ishl .i64 b 5)) c=a*2048+b*32+c:=by
 obtain⟨a,rfl⟩:=yh ha.1
 obtain⟨b,rfl⟩:=yh hb.1
 obtain⟨c,rfl⟩:=yh hc.1
 have s1:=zzf (a:=a) (k:=11) (by decide) (by omega)
 have s2:=zzf (a:=b) (k:=5) (by decide) (by omega)
 have o1:=ior64 (a:=a) (b:=b*2^5) (k:=11) (by omega) (by omega)
 have o2:=ior64 (a:=a*2^6+b) (b:=c) (k:=5) (by omega) (by omega)
 simp only[yp]at s1 s2
 rw[s1,s2,o1,show a*2^11+b*2^5=(a*2^6+b)*2^5 by omega,o2]
 omega
section
variable {t:LI} (hl:t.length=64) (ht:Rg 2047 t)
include hl ht
theorem zrx:qz2 600 t=some (hexB (hexN t),()):=by
 have h0:=z5z hl ht (c:=0) (by decide) (b:=5) (by decide)
 have h1:=z5z hl ht (c:=1) (by decide) (b:=6) (by decide)
 have h2:=z5z hl ht (c:=2) (by decide) (b:=5) (by decide)
 simp only[yp,yq,Int.natCast_one]at h0 h1 h2
 have b0:=bN_W (b:=5) (by decide) t 0
 have b1:=bN_W (b:=6) (by decide) t 1
 have b2:=bN_W (b:=5) (by decide) t 2
 have e:=hex_or (a:=bN (lvW 5) t 0) (b:=bN (lvW 6) t 1) (c:=bN (lvW 5) t 2) ⟨b0.1,b0.2⟩ ⟨b1.1,b1.2⟩ ⟨b2.1,b2.2⟩
 have hj:=hexB_is (qzc t)
 have hs:=qzb 0
 unfold bN at e
 unfold qbt at hj
 unfold qz2
 simp only[h0,h1,h2,y5,e,hs]
 have en:(zdl (lvW 5) (colT t 0):Int)*2048+(zdl (lvW 6) (colT t 1):Int)*32+(zdl (lvW 5) (colT t 2):Int)=hexN t:=rfl
 rw[en,hj]
 simp only[y5]
theorem z60{c:Nat}(hc:c<4):qjh 600 t c=some (qpq (bN lvP t c),()):=by
 have h0:=j1b hl ht hc
 have hs:=qzb 0
 have hj:=rampB_is (bN_P t c)
 unfold qbt bN at hj
 unfold qjh
 simp only[h0,y5,hs,hj]
 rfl
theorem j4z(bit:Int)(hb:0≤bit∧bit≤1)(A:LI)(hA:A.length=4):q61 600 600 t bit A 0=some (bit,tab 4 fun c=>bN (lvS bit) t c,()):=by
 refine qki 4 (fun c=>bN (lvS bit) t c) (fun k w i=>q61 600 k t bit w i) (fun w=>some (bit,w,())) ?_ ?_ A hA 600 (by omega)
 ·intro k i w hi hw
  show qck 600 (q61 600 k) _ _ _ _=_
  unfold qck
  have h3:(i:Int)<4:=by omega
  simp only[h3,dT,cT,sixb_is hl ht (show i<4 by omega) hb,y5,yc,yd,yb,q0j (show i<1000000000000 by omega)]
  rfl
 ·intro k w hw
  rfl
def siN(bit:Int)(s:LI):LI:=tab 4 fun c=>bN (lvS bit) s c
theorem zzw{bit:Int}(hb:0≤bit∧bit≤1):qji 600 bit t=some (sixB (siN bit t) bit,()):=by
 have hj:=sixB_is (w:=siN bit t) (q0g _ _) (qkk (by decide) fun c _=>bN_S bit t c) hb
 have hs:=qzb 0
 unfold qji
 rw[j4z hl ht bit hb _ rfl]
 simp only[y5]
 rw[hs]
 simp only[y5]
 rw[show(tab 16 fun _=>(0:Int))=qbt 0 from rfl,show(tab 4 fun c=>bN (lvS bit) t c)=siN bit t from rfl,hj]
 simp only[y5]
end
theorem zvp{t:LI}(hl:t.length=64){i:Nat}(hi:i<16):∀(d c k:Nat),c+d=4→d<k→
  q33 600 k t (i:Int) (y8 4 (y9 (i*4) t)) (c:Int)=some (.inl ())∨(q33 600 k t (i:Int) (y8 4 (y9 (i*4) t)) (c:Int)=some (.inr (t,(i:Int),()))∧∀c',c≤c' →c' <4→0≤t.getD (i*4+c') 0∧t.getD (i*4+c') 0≤255):=by
 intro d
 induction d with
 |zero=>
  intro c k h1 h2
  obtain⟨k,rfl⟩:∃k',k=k' +1:=⟨k-1,by omega⟩
  obtain rfl:c=4:=by omega
  exact .inr ⟨rfl,fun c' h h' =>by omega⟩
 |succ d ih=>
  intro c k h1 h2
  obtain⟨k,rfl⟩:∃k',k=k' +1:=⟨k-1,by omega⟩
  have e:q33 600 (k+1) t (i:Int) (y8 4 (y9 (i*4) t)) (c:Int)=q7n 600 (q33 600 k) t i (y8 4 (y9 (i*4) t)) c:=rfl
  rw[e]
  unfold q7n
  have h4:(c:Int)<4:=by omega
  simp only[h4,dT,cT,yc,yd,yb,q0j (show c<1000000000000 by omega),zvk hl hi (show c<4 by omega)]
  by_cases v1:t.getD (i*4+c) 0<0
  ·left
   simp only[v1,dT,cT]
  ·simp only[v1,dF,cF]
   by_cases v2:255<t.getD (i*4+c) 0
   ·left
    simp only[v2,dT,cT]
   ·simp only[v2,dF,cF]
    rcases ih (c+1) k (by omega) (by omega)with h|⟨h,h'⟩
    ·exact .inl h
    ·refine .inr ⟨h,fun c' g1 g2=> ?_⟩
     by_cases hc:c' =c
     ·subst hc;omega
     ·exact h' c' (by omega) g2
theorem zvq{t:LI}(hl:t.length=64):∀(d i k:Nat),i+d=16→d<k→
  q34 600 k t (i:Int)=some (.inl ())∨(q34 600 k t (i:Int)=some (.inr ())∧∀j,i*4≤j→j<64→0≤t.getD j 0∧t.getD j 0≤255):=by
 intro d
 induction d with
 |zero=>
  intro i k h1 h2
  obtain⟨k,rfl⟩:∃k',k=k' +1:=⟨k-1,by omega⟩
  obtain rfl:i=16:=by omega
  exact .inr ⟨rfl,fun j h h' =>by omega⟩
 |succ d ih=>
  intro i k h1 h2
  obtain⟨k,rfl⟩:∃k',k=k' +1:=⟨k-1,by omega⟩
  have e:q34 600 (k+1) t (i:Int)=q7o 600 (q34 600 k) t i:=rfl
  rw[e]
  unfold q7o
  have h3:(i:Int)<16:=by omega
  simp only[h3,dT,cT,yc,yd,yb]
  rcases zvp hl (i:=i) (by omega) 4 0 600 (by omega) (by omega)with h|⟨h,h'⟩
  ·left
   rw[show((0:Nat):Int)=0 from rfl]at h
   rw[h]
   rfl
  ·rw[show((0:Nat):Int)=0 from rfl]at h
   rw[h]
   simp only[y5,q0j (show i<1000000000000 by omega)]
   rcases ih (i+1) k (by omega) (by omega)with g|⟨g,g'⟩
   ·exact .inl g
   ·refine .inr ⟨g,fun j h1 h2=> ?_⟩
    by_cases hj:j<(i+1)*4
    ·have:=h' (j-i*4) (by omega) (by omega)
     rwa [show i*4+(j-i*4)=j by omega]at this
    ·exact g' j (by omega) h2
theorem zry{t:LI}(hl:t.length=64):(qb8 600 t=some (true,())∧Rg 255 t)∨qb8 600 t=some (false,()):=by
 unfold qb8
 rcases zvq hl 16 0 600 (by omega) (by omega)with h|⟨h,h'⟩
 ·right
  rw[show((0:Nat):Int)=0 from rfl]at h
  rw[h]
  rfl
 ·left
  rw[show((0:Nat):Int)=0 from rfl]at h
  rw[h]
  refine⟨rfl,fun j=> ?_⟩
  by_cases hj:j<64
  ·exact h' j (by omega) hj
  ·rw[qpj (by omega)]
   decide
def j50(k:Nat)(s a b:LI):LI:=if q82 k b s<q82 k a s then b else a
theorem near_is{k:Nat}(h:Fmt k){s a b:LI}(hl:s.length=64)(hs:Rg 255 s)(ha:Bytes a)(hb:Bytes b)(la:a.length=q26 k)(lb:b.length=q26 k):qjj 600 k s a b=some (j50 k s a b,()):=by
 unfold qjj j50
 rw[qpl ha h la hl hs,qpl hb h lb hl hs]
 simp only[y5]
 by_cases hlt:q82 k b s<q82 k a s
 ·simp only[hlt,dT,cT,if_true]
 ·simp only[hlt,dF,cF,if_false]
def qdt(k:Nat)(s:LI):LI:=match k with
 |1=>hexB (hexN s)
 |2=>za9 (bN (lvW 4) s 3)++hexB (hexN s)
 |3=>qpq (bN lvP s 3)++hexB (hexN s)
 |4=>qpq (bN lvP s 0)
 |5=>qpq (bN lvP s 0)++qpq (bN lvP s 1)
 |_=>j50 6 s (sixB (siN 0 s) 0) (sixB (siN 1 s) 1)
def Okb(n:Nat)(b:LI):Prop:=Bytes b∧b.length=n
theorem z8z{n m:Nat}{a b:LI}(ha:Okb n a)(hb:Okb m b):Okb (n+m) (a++b):=
 ⟨fun x hx=>(yk.1 hx).elim (ha.1 x) (hb.1 x),by rw[yo,ha.2,hb.2]⟩
theorem okb_near{n k:Nat}{s a b:LI}(ha:Okb n a)(hb:Okb n b):Okb n (j50 k s a b):=by
 unfold j50
 split
 ·exact hb
 ·exact ha
theorem z33(n:Int):Okb 8 (hexB n):=⟨q5z _ _ _ _,qix _ _ _ _⟩
theorem z61(n:Int):Okb 8 (za9 n):=⟨q5z _ _ _ _,qix _ _ _ _⟩
theorem qar(n:Int):Okb 8 (qpq n):=⟨q5z _ _ _ _,qix _ _ _ _⟩
theorem qzd(w:LI)(bit:Int):Okb 16 (sixB w bit):=⟨q78 _ _ _ qdl 26,znx _ _ _⟩
theorem qrg(s:LI){k:Nat}(h:Fmt k):Okb (q26 k) (qdt k s):=
 qkl (p:=fun k=>Okb (q26 k) (qdt k s)) (z33 _) (z8z (z61 _) (z33 _)) (z8z (qar _) (z33 _)) (qar _) (z8z (qar _) (qar _)) (okb_near (qzd _ _) (qzd _ _)) h
section
variable {t:LI} (hl:t.length=64)
include hl
theorem blk_1(ht:Rg 255 t):q2l 600 1 t=some (qdt 1 t,()):=by
 have h:=zrx hl (q3t ht (by decide))
 unfold q2l
 simp only[Int.reduceBEq,cF,h,y5]
 rfl
theorem blk_2(ht:Rg 255 t):q2l 600 2 t=some (qdt 2 t,()):=by
 have h:=zrx hl (q3t ht (by decide))
 have h1:=z5z hl (q3t ht (by decide)) (c:=3) (by decide) (b:=4) (by decide)
 have h2:=j4u (n:=bN (lvW 4) t 3) (bN_W (b:=4) (by decide) t 3)
 simp only[yp]at h1
 unfold qbt bN at h2
 unfold q2l
 simp only[Int.reduceBEq,cT,h1,qzb,h2,h,y5,(z61 _).2,(z33 _).2,show(8+8≤1099511627776)=True by simp,dT,yd]
 rfl
theorem blk_3(ht:Rg 255 t):q2l 600 3 t=some (qdt 3 t,()):=by
 have h:=zrx hl (q3t ht (by decide))
 have h1:=z60 hl (q3t ht (by decide)) (c:=3) (by decide)
 simp only[yp]at h1
 unfold q2l
 simp only[Int.reduceBEq,cT,cF,h1,h,y5,(qar _).2,(z33 _).2,show(8+8≤1099511627776)=True by simp,dT,yd]
 rfl
theorem blk_4(ht:Rg 255 t):q2l 600 4 t=some (qdt 4 t,()):=by
 have h1:=z60 hl (q3t ht (by decide)) (c:=0) (by decide)
 simp only[yq]at h1
 unfold q2l
 simp only[Int.reduceBEq,cT,cF,h1,y5]
 rfl
theorem blk_5(ht:Rg 255 t):q2l 600 5 t=some (qdt 5 t,()):=by
 have h1:=z60 hl (q3t ht (by decide)) (c:=0) (by decide)
 have h2:=z60 hl (q3t ht (by decide)) (c:=1) (by decide)
 simp only[yq,Int.natCast_one]at h1 h2
 unfold q2l
 simp only[Int.reduceBEq,cT,cF,h1,h2,y5,(qar _).2,show(8+8≤1099511627776)=True by simp,dT,yd]
 rfl
theorem blk_6(ht:Rg 255 t):q2l 600 6 t=some (qdt 6 t,()):=by
 have h1:=zzw hl (q3t ht (by decide)) (bit:=0) (by decide)
 have h2:=zzw hl (q3t ht (by decide)) (bit:=1) (by decide)
 have h3:=near_is (k:=6) ⟨by decide,by decide⟩ hl ht (qzd (siN 0 t) 0).1 (qzd (siN 1 t) 1).1 (qzd (siN 0 t) 0).2 (qzd (siN 1 t) 1).2
 simp only[yp]at h3
 unfold q2l zov
 simp only[Int.reduceBEq,cT,cF,h1,h2,h3,y5]
 rfl
theorem blk_is{k:Nat}(h:Fmt k):Rg (za8 k) t→q2l 600 k t=some (qdt k t,()):=
 qkl (p:=fun k=>Rg (za8 k) t→q2l 600 (k:Int) t=some (qdt k t,())) (fun h=>blk_1 hl h) (fun h=>blk_2 hl h) (fun h=>blk_3 hl h) (fun h=>blk_4 hl h) (fun h=>blk_5 hl h) (fun h=>blk_6 hl h) h
end
theorem z90{t:LI}(hl:t.length=64)(ht:Rg 255 t):qb8 600 t=some (true,()):=by
 have l2:∀(i:Nat),i<16→∀(d c k:Nat),c+d=4→d<k→q33 600 k t (i:Int) (y8 4 (y9 (i*4) t)) (c:Int)=some (.inr (t,(i:Int),())):=by
  intro i hi d
  induction d with
  |zero=>
   intro c k h1 h2
   obtain⟨k,rfl⟩:∃k',k=k' +1:=⟨k-1,by omega⟩
   obtain rfl:c=4:=by omega
   rfl
  |succ d ih=>
   intro c k h1 h2
   obtain⟨k,rfl⟩:∃k',k=k' +1:=⟨k-1,by omega⟩
   show q7n 600 (q33 600 k) t i (y8 4 (y9 (i*4) t)) c=_
   unfold q7n
   have h4:(c:Int)<4:=by omega
   have hr:=ht (i*4+c)
   have v1:¬t.getD (i*4+c) 0<0:=by omega
   have v2:¬255<t.getD (i*4+c) 0:=by omega
   simp only[h4,dT,cT,yc,yd,yb,q0j (show c<1000000000000 by omega),zvk hl hi (show c<4 by omega),v1,v2,dF,cF]
   exact ih (c+1) k (by omega) (by omega)
 have l0:∀(d i k:Nat),i+d=16→d<k→q34 600 k t (i:Int)=some (.inr ()):=by
  intro d
  induction d with
  |zero=>
   intro i k h1 h2
   obtain⟨k,rfl⟩:∃k',k=k' +1:=⟨k-1,by omega⟩
   obtain rfl:i=16:=by omega
   rfl
  |succ d ih=>
   intro i k h1 h2
   obtain⟨k,rfl⟩:∃k',k=k' +1:=⟨k-1,by omega⟩
   show q7o 600 (q34 600 k) t i=_
   unfold q7o
   have h3:(i:Int)<16:=by omega
   have h:=l2 i (by omega) 4 0 600 (by omega) (by omega)
   rw[show((0:Nat):Int)=0 from rfl]at h
   simp only[h3,dT,cT,yc,yd,yb,h,y5,q0j (show i<1000000000000 by omega)]
   exact ih (i+1) k (by omega) (by omega)
 have h:=l0 16 0 600 (by omega) (by omega)
 rw[show((0:Nat):Int)=0 from rfl]at h
 unfold qb8
 rw[h]
 rfl
theorem qze{k:Nat}(hk:Fmt k){t:LI}(hl:t.length=64)(ht:Rg 255 t)(hb:qb8 600 t=some (true,())):q5h 600 k t=some (qdt k (scT k t),0,()):=by
 unfold q5h
 rw[zve 600 hk,hb]
 simp only[y5,bne_self_eq_false,cF,Bool.not_true,zzt hk hl ht,blk_is (scT_len hl) hk (zzs ht)]
theorem j51{k:Nat}(hk:Fmt k){t:LI}(hl:t.length=64):(∃e,e≠0∧q5h 600 (k:Int) t=some ([],e,()))∨(Rg 255 t∧q5h 600 (k:Int) t=some (qdt k (scT k t),0,())):=by
 rcases zry hl with⟨h1,ht⟩|h1
 ·exact .inr ⟨ht,qze hk hl ht h1⟩
 ·left
  refine⟨1,by decide,?_⟩
  unfold q5h
  rw[zve 600 hk]
  simp only[y5,bne_self_eq_false,cF,h1,Bool.not_false,cT]
theorem j52{m:Int}(hm:0≤m){v:Nat→Int}(h:∀c,c<4→0≤v c∧v c≤m):Rg m (oneT v):=qkk hm fun j _=>h _ (by omega)
theorem qyi{k:Nat}(h:Fmt k){b s:LI}(hb:Bytes b)(hs:Rg 255 s):0≤q82 k b s:=
 zxs (q3t (zzs hs) (qdn k)) (q3t (qz8 hb h) (qdn k))
theorem qzf{p:Nat→Prop}(h0:p 0)(h1:p 1)(h2:p 2)(h3:p 3):∀c,c<4→p c:=fun c hc=>by
 have:c=0∨c=1∨c=2∨c=3:=by omega
 rcases this with rfl|rfl|rfl|rfl<;>assumption
theorem fmt6:Fmt 6:=⟨by decide,by decide⟩
theorem j53{a b:LI}(la:a.length=8):lo13 (a++b)=a:=by
 unfold lo13
 rw[←la,List.take_left]
theorem j54{a b:LI}(la:a.length=8)(lb:b.length=8):hi13 (a++b)=b:=by
 unfold hi13
 rw[yo,la,lb,show 8+8-8=8 from rfl]
 conv=>lhs;rw[←la]
 rw[List.drop_left,List.take_of_length_le (by omega)]
theorem oneT_get(v:Nat→Int){j:Nat}(hj:j<64):(oneT v).getD j 0=v (j%4):=q0d hj
theorem zvr(c:Nat)(n:Int)(v:Nat→Int):wT c (qbt n) (oneT v)=oneT fun q=>if q=c then n else v q:=by
 unfold wT
 show tab 64 _=tab 64 _
 refine q03 fun j hj=> ?_
 rw[qgo n (show j/4<16 by omega),oneT_get v hj]
theorem zvs(a:Int):qm5 a=oneT fun q=>if q=3 then a else 0:=rfl
def hxC(s:LI)(c:Nat):Int:=(colV (hexN s)).getD c 0
def siC(bit:Int)(s:LI)(c:Nat):Int:=2*(siN bit s).getD c 0+bit
def b6(s:LI):Prop:=q82 6 (sixB (siN 1 s) 1) s<q82 6 (sixB (siN 0 s) 0) s
instance (s:LI):Decidable (b6 s):=by unfold b6;exact inferInstance
def zxx(k:Nat)(s:LI):Nat→Int:=match k with
 |1=>hxC s
 |2=>fun q=>if q=3 then q3z 4 (bN (lvW 4) s 3)else hxC s q
 |3=>fun q=>if q=3 then bN lvP s 3 else hxC s q
 |4=>fun q=>if q=0 then bN lvP s 0 else if q=3 then 255 else 0
 |5=>fun q=>if q=1 then bN lvP s 1 else if q=0 then bN lvP s 0 else if q=3 then 255 else 0
 |_=>if b6 s then siC 1 s else siC 0 s
theorem si_dec{bit:Int}(hb:0≤bit∧bit≤1)(s:LI):qa5 (sixB (siN bit s) bit)=oneT (siC bit s):=j1c (q0g _ _) (qkk (by decide) fun c _=>bN_S bit s c) hb
theorem j55(s:LI){k:Nat}(h:Fmt k):qun k (qdt k s)=oneT (zxx k s):=by
 refine qkl (p:=fun k=>qun k (qdt k s)=oneT (zxx k s)) ?_ ?_ ?_ ?_ ?_ ?_ h
 ·exact z8y (qzc s) false
 ·show wT 3 (z8o (lo13 (za9 (bN (lvW 4) s 3)++hexB (hexN s)))) (qum (hi13 (za9 (bN (lvW 4) s 3)++hexB (hexN s))) true)=_
  rw[j53 (z61 _).2,j54 (z61 _).2 (z33 _).2,zvn (bN_W (b:=4) (by decide) s 3),z8y (qzc s) true,zvr]
  rfl
 ·show wT 3 (qay (lo13 (qpq (bN lvP s 3)++hexB (hexN s)))) (qum (hi13 (qpq (bN lvP s 3)++hexB (hexN s))) true)=_
  rw[j53 (qar _).2,j54 (qar _).2 (z33 _).2,qrf (bN_P s 3),z8y (qzc s) true,zvr]
  rfl
 ·show wT 0 (qay (lo13 (qpq (bN lvP s 0)))) (qm5 255)=_
  rw[lo13_8 (qar _).2,qrf (bN_P s 0),zvs,zvr]
  rfl
 ·show wT 1 (qay (hi13 (qpq (bN lvP s 0)++qpq (bN lvP s 1)))) (wT 0 (qay (lo13 (qpq (bN lvP s 0)++qpq (bN lvP s 1)))) (qm5 255))=_
  rw[j53 (qar _).2,j54 (qar _).2 (qar _).2,qrf (bN_P s 0),qrf (bN_P s 1),zvs,zvr,zvr]
  rfl
 ·show qa5 (if b6 s then sixB (siN 1 s) 1 else sixB (siN 0 s) 0)=oneT (if b6 s then siC 1 s else siC 0 s)
  split
  ·exact si_dec (by decide) s
  ·exact si_dec (by decide) s
theorem zaa(v:Nat→Int)(f:Int):∀(d i k:Nat),i+d=16→d<k→q9f 600 k f (tab 4 v) (tab 64 fun j=>if j<i*4 then v (j%4)else 0) (i:Int)=some (f,oneT v,()):=by
 intro d
 induction d with
 |zero=>
  intro i k h1 h2
  obtain⟨k,rfl⟩:∃k',k=k' +1:=⟨k-1,by omega⟩
  obtain rfl:i=16:=by omega
  show some (f,tab 64 _,())=_
  rw[q03 (g:=fun j=>if j<16*4 then v (j%4)else 0) (f:=fun j=>v (j%4)) fun j hj=>iP hj]
  rfl
 |succ d ih=>
  intro i k h1 h2
  obtain⟨k,rfl⟩:∃k',k=k' +1:=⟨k-1,by omega⟩
  show qfe 600 (q9f 600 k) _ _ _ _=_
  unfold qfe
  have h3:(i:Int)<16:=by omega
  simp only[h3,dT,cT,yc,yd,yb,q0j (show i<1000000000000 by omega)]
  have e:(tab 64 fun j=>if j/4=i then v (j%4)else if j<i*4 then v (j%4)else 0)=tab 64 fun j=>if j<(i+1)*4 then v (j%4)else 0:=q03 fun j hj=>by
   by_cases hj' :j/4=i
   ·rw[iP hj',iP (by omega)]
   ·rw[iN hj']
    by_cases hl:j<i*4
    ·rw[iP hl,iP (by omega)]
    ·rw[iN hl,iN (by omega)]
  rw[zre (show i*4+4≤64 by omega),e]
  exact ih (i+1) k (by omega) (by omega)
theorem j1d{k:Nat}(hk:Fmt k){v:Nat→Int}(hv:∀c,c<4→0≤v c∧v c≤255):qba 600 (k:Int) (tab 4 v)=some (q82 k (qdt k (scT k (oneT v))) (oneT v)==0,()):=by
 have h0:=zaa v (k:Int) 16 0 600 (by omega) (by omega)
 have e0:(tab 64 fun j=>if j<0*4 then v (j%4)else 0)=q2i:=by
  rw[q03 (f:=fun _=>0) fun j hj=>iN (by omega)]
  rfl
 rw[e0,show((0:Nat):Int)=0 from rfl]at h0
 have hl:(oneT v).length=64:=q0g _ _
 have hr:Rg 255 (oneT v):=j52 (by decide) hv
 have hB:=qze hk hl hr (z90 hl hr)
 unfold qba
 rw[h0]
 simp only[y5,hB,bne_self_eq_false,cF,qpl (qrg _ hk).1 hk (qrg _ hk).2 hl hr]
theorem zvt{c:Nat}(hc:c<4)(l t T:LI):∀(d i k:Nat),i+d=16→d<k→q9g 600 k c (tab 64 (upW c i l t)) l T (i:Int)=some (tab 64 (upW c 16 l t),T,()):=by
 intro d
 induction d with
 |zero=>
  intro i k h1 h2
  obtain⟨k,rfl⟩:∃k',k=k' +1:=⟨k-1,by omega⟩
  obtain rfl:i=16:=by omega
  rfl
 |succ d ih=>
  intro i k h1 h2
  obtain⟨k,rfl⟩:∃k',k=k' +1:=⟨k-1,by omega⟩
  show qff 600 (q9g 600 k) c (tab 64 (upW c i l t)) l T i=_
  unfold qff
  have h3:(i:Int)<16:=by omega
  have h4:(c:Int)<4:=by omega
  simp only[h3,h4,dT,cT,yc,yd,yb,j4o hc (show i<16 by omega),q0j (show i<1000000000000 by omega)]
  exact ih (i+1) k (by omega) (by omega)
theorem zrz{c:Nat}(hc:c<4){l t:LI}(ht:t.length=64):q14 600 t l c=some (wT c l t,()):=by
 have h:=zvt hc l t q2i 16 0 600 (by omega) (by omega)
 have e0:tab 64 (upW c 0 l t)=t:=by
  conv=>rhs;rw[qye ht]
  exact q03 fun j hj=>by unfold upW;rw[iN (by omega)]
 have e1:tab 64 (upW c 16 l t)=wT c l t:=q03 fun j hj=>by
  unfold upW
  by_cases h2:j%4=c
  ·rw[iP h2,iP (by omega)]
  ·rw[iN h2,iN (by omega)]
 rw[e0,e1]at h
 unfold q14
 rw[show((0:Nat):Int)=0 from rfl]at h
 rw[h]
 rfl
theorem rblank_is:q4p 600 255=some (qm5 255,())∧q4p 600 2047=some (qm5 2047,()):=by constructor<;>kernel_rfl
theorem zvu{b:LI}(hb:Bytes b){k:Nat}(h:Fmt k)(hl:b.length=q26 k):ql8 600 (k:Int) b=some (qun k b,0,()):=by
 have hlo:=qiy hb
 have hhi:=qpk hb
 have hg:=z8w k
 have l1:=z5x (b:=b) (by omega)
 have l2:=ze3 (b:=b) (by omega)
 have e8:y0 .i64 ((b.length:Int)-8)=((b.length-8:Nat):Int):=by rw[w64 (by omega) (by omega)];omega
 have r7:=zjo (F:=600) (by decide) hlo l1
 have r7' :=zjo (F:=600) (by decide) hhi l2
 have c1:((b.length:Int) !=(q26 k:Int))=false:=by rw[hl];simp
 have c2:8≤b.length:=by omega
 have c3:b.length-8≤b.length:=by omega
 have ht:psub b.length (b.length-8)=8:=by rw[zo7];omega
 have p3:∀{l t:LI},t.length=64→q14 600 t l 3=some (wT 3 l t,()):=fun ht=>zrz (c:=3) (by decide) ht
 have p0:∀{l t:LI},t.length=64→q14 600 t l 0=some (wT 0 l t,()):=fun ht=>zrz (c:=0) (by decide) ht
 have p1:∀{l t:LI},t.length=64→q14 600 t l 1=some (wT 1 l t,()):=fun ht=>zrz (c:=1) (by decide) ht
 have d6:q44 600 (hi13 b) true=some (qum (hi13 b) true,0,()):=zjv (F:=600) (by decide) hhi l2 true
 unfold ql8
 rw[(j4s 600 _).1,zve 600 h]
 simp only[y5,bne_self_eq_false,cF,c1,c2,c3,dT,cT,e8,yc,yb,yd,ht]
 rw[show y8 8 b=lo13 b from rfl,show y8 8 (y9 (b.length-8) b)=hi13 b from rfl,r7,r7']
 simp only[y5]
 refine qkl (p:=fun k=>b.length=q26 k→(cond ((k:Int)==(1:Int))
      ((q44 600 b false).bind fun r8365=>
      some (r8365.1,r8365.2.1,()))
      (cond ((k:Int)==(2:Int))
       ((q44 600 (hi13 b) true).bind fun r8367=>
       (qjc 600 (lo13 b)).bind fun r8394=>
       (q14 600 r8367.1 r8394.1 (3:Int)).bind fun r8418=>
       some (r8418.1,(0:Int),()))
       (cond ((k:Int)==(3:Int))
        ((q44 600 (hi13 b) true).bind fun r8420=>
        (q14 600 r8420.1 (qay (lo13 b)) (3:Int)).bind fun r8421=>
        some (r8421.1,(0:Int),()))
        (cond ((k:Int)==(4:Int))
         ((q4p 600 (255:Int)).bind fun r8437=>
         (q14 600 r8437.1 (qay (lo13 b)) (0:Int)).bind fun r8438=>
         some (r8438.1,(0:Int),()))
         (cond ((k:Int)==(5:Int))
          ((q4p 600 (255:Int)).bind fun r8440=>
          (q14 600 r8440.1 (qay (lo13 b)) (0:Int)).bind fun r8441=>
          (q14 600 r8441.1 (qay (hi13 b)) (1:Int)).bind fun r8442=>
          some (r8442.1,(0:Int),()))
          (cond ((k:Int)==(6:Int))
           ((qg3 600 b).bind fun r12176=>
           some (r12176.1,r12176.2.1,()))
           (cond ((k:Int)==(7:Int))
            ((qvm 600 b).bind fun r12480=>
            some (r12480.1,r12480.2.1,()))
            (cond ((k:Int)==(8:Int))
             ((q8i 600 b false).bind fun r13133=>
             some (r13133.1,r13133.2.1,()))
             (cond ((k:Int)==(9:Int))
              ((q8i 600 b true).bind fun r13135=>
              some (r13135.1,r13135.2.1,()))
              (cond ((k:Int)==(10:Int))
               ((q8i 600 (hi13 b) false).bind fun r13137=>
               (q8m 600 (lo13 b) false).bind fun r13248=>
               (q14 600 r13137.1 r13248.1 (3:Int)).bind fun r13249=>
               some (r13249.1,(0:Int),()))
               ((q8m 600 (lo13 b) true).bind fun r13250=>
               (q8m 600 (hi13 b) true).bind fun r13251=>
               cond ((k:Int)==(11:Int))
                ((q4p 600 (2047:Int)).bind fun r13253=>
                (q14 600 r13253.1 r13250.1 (0:Int)).bind fun r13254=>
                some (r13254.1,(0:Int),()))
                ((q4p 600 (2047:Int)).bind fun r13255=>
                (q14 600 r13255.1 r13250.1 (0:Int)).bind fun r13256=>
                (q14 600 r13256.1 r13251.1 (1:Int)).bind fun r13257=>
                some (r13257.1,(0:Int),())))))))))))))=some (qun k b,0,())) ?_ ?_ ?_ ?_ ?_ ?_ h hl
 ·intro hl
  simp only[Int.natCast_one,yp,Int.reduceBEq,cT,zjv (F:=600) (by decide) hb hl false,y5]
  rfl
 ·intro hl
  simp only[yp,Int.reduceBEq,cT,cF,d6,j40 (F:=600) (by decide) hlo l1,y5]
  rw[p3 (z5y (hi13 b) true)]
  rfl
 ·intro hl
  simp only[yp,Int.reduceBEq,cT,cF,d6,y5]
  rw[p3 (z5y (hi13 b) true)]
  rfl
 ·intro hl
  simp only[yp,Int.reduceBEq,cT,cF,rblank_is.1,p0 (qz7 255),y5]
  rfl
 ·intro hl
  simp only[yp,Int.reduceBEq,cT,cF,rblank_is.1,p0 (qz7 255),p1 (wT_len _ _ _),y5]
  rfl
 ·intro hl
  simp only[yp,Int.reduceBEq,cT,cF,j17 hb hl,y5]
  rfl
theorem zs0{t:LI}(ht:Rg 255 t)(T:LI)(y z:Int){i:Nat}(hi:i<16):∀(d c k:Nat),c+d=4→d<k→
  q7p 600 k (tab 64 (upS (i*4+c) t)) T y z true (i:Int) (c:Int) true=some (tab 64 (upS (i*4+4) t),T,y,z,true,(i:Int),true,()):=by
 intro d
 induction d with
 |zero=>
  intro c k h1 h2
  obtain⟨k,rfl⟩:∃k',k=k' +1:=⟨k-1,by omega⟩
  obtain rfl:c=4:=by omega
  rfl
 |succ d ih=>
  intro c k h1 h2
  obtain⟨k,rfl⟩:∃k',k=k' +1:=⟨k-1,by omega⟩
  show qcn 600 (q7p 600 k) (tab 64 (upS (i*4+c) t)) T y z true i c true=_
  unfold qcn
  have h3:(i:Int)<16:=by omega
  have h4:(c:Int)<4:=by omega
  have hv:=ht (i*4+c)
  have g:(tab 64 (upS (i*4+c) t)).getD (i*4+c) 0=t.getD (i*4+c) 0:=by
   rw[q0d (by omega)]
   unfold upS
   rw[iN (by omega)]
  have e:y0 .i64 (y0 .i64 (8*t.getD (i*4+c) 0)+y0 .i64 (yv (t.getD (i*4+c) 0) 32))=scV (t.getD (i*4+c) 0):=by
   rw[q3s hv.1,w64 (x:=8*t.getD (i*4+c) 0) (by omega) (by omega),w64 (x:=t.getD (i*4+c) 0/32) (by omega) (by omega),w64 (by omega) (by omega)]
   rfl
  simp only[h3,h4,dT,cT,yc,yd,yb,g,e,j4q (t:=t) (show i*4+c<64 by omega),q0j (show c<1000000000000 by omega)]
  exact ih (c+1) k (by omega) (by omega)
theorem zs1{t:LI}(ht:Rg 255 t)(T:LI)(y z:Int):∀(d i k:Nat),i+d=16→d<k→q7q 600 k (tab 64 (upS (i*4) t)) T y z true (i:Int)=some (tab 64 (upS 64 t),T,()):=by
 intro d
 induction d with
 |zero=>
  intro i k h1 h2
  obtain⟨k,rfl⟩:∃k',k=k' +1:=⟨k-1,by omega⟩
  obtain rfl:i=16:=by omega
  rfl
 |succ d ih=>
  intro i k h1 h2
  obtain⟨k,rfl⟩:∃k',k=k' +1:=⟨k-1,by omega⟩
  show qco 600 (q7q 600 k) (tab 64 (upS (i*4) t)) T y z true i=_
  unfold qco
  have h3:(i:Int)<16:=by omega
  have h:=zs0 ht T y z (i:=i) (by omega) 4 0 600 (by omega) (by omega)
  simp only[Nat.add_zero,yq]at h
  simp only[h3,dT,cT,h,y5,q0j (show i<1000000000000 by omega)]
  rw[show i*4+4=(i+1)*4 by omega]
  exact ih (i+1) k (by omega) (by omega)
theorem j56{k:Nat}(h:Fmt k){t:LI}(hl:t.length=64)(ht:Rg 255 t):qqj 600 (k:Int) t=some (scT k t,()):=by
 unfold qqj scT
 rw[(j4s 600 _).1,zve 600 h]
 simp only[y5]
 cases z1w k
 ·rfl
 ·have h:=zs1 ht q2i (q26 k:Int) (qhw k) 16 0 600 (by omega) (by omega)
  have e0:tab 64 (upS (0*4) t)=t:=by
   conv=>rhs;rw[qye hl]
   exact q03 fun j hj=>by unfold upS;rw[iN (by omega)]
  have e1:tab 64 (upS 64 t)=tab 64 fun j=>scV (t.getD j 0):=q03 fun j hj=>by unfold upS;rw[iP hj]
  rw[e0,e1,show((0:Nat):Int)=0 from rfl]at h
  simp only[h,y5,if_true]
theorem zs2{mask:Int}(hm:0≤mask∧mask≤15){s u:LI}(hs:Rg 2047 s)(hu:Rg 2047 u){i:Nat}(hi:i<16):∀(d c k:Nat),c+d=4→d<k→
  q7r 600 k mask s u (sumN (errT mask s u) (i*4+c)) (i:Int) (c:Int)=some (mask,s,u,sumN (errT mask s u) (i*4+4),(i:Int),()):=by
 intro d
 induction d with
 |zero=>
  intro c k h1 h2
  obtain⟨k,rfl⟩:∃k',k=k' +1:=⟨k-1,by omega⟩
  obtain rfl:c=4:=by omega
  rfl
 |succ d ih=>
  intro c k h1 h2
  obtain⟨k,rfl⟩:∃k',k=k' +1:=⟨k-1,by omega⟩
  show qcq 600 (q7r 600 k) mask s u (sumN (errT mask s u) (i*4+c)) i c=_
  unfold qcq
  have h3:(i:Int)<16:=by omega
  have h4:(c:Int)<4:=by omega
  have b1:=hs (i*4+c)
  have b2:=hu (i*4+c)
  have b3:=q7u (n:=i*4+c) (f:=errT mask s u) fun j _=>qza hs hu j
  have b5:(2047*2047:Int)*((i*4+c:Nat):Int)≤2047*2047*64:=Int.mul_le_mul_of_nonneg_left (by omega) (by decide)
  have hp:(0:Int)<2^c:=qgm c
  have hp0:((2:Int)^c==0)=false:=beqF (by omega)
  have m16:qjb 600 mask 16=some (mask,()):=by
   rw[zrc 600 (by decide) (by omega),Int.emod_eq_of_lt (by omega) (by omega)]
  have nx:=ih (c+1) k (by omega) (by omega)
  rw[show i*4+(c+1)=(i*4+c)+1 by omega]at nx
  rw[show sumN (errT mask s u) (i*4+c+1)=sumN (errT mask s u) (i*4+c)+errT mask s u (i*4+c)from rfl]at nx
  simp only[h3,h4,dT,cT,yc,yd,yb,m16,zjl (F:=600) (by decide) (show c≤8 by omega),y5,hp0,Bool.not_false,mbit_is hm (show c<4 by omega),q0j (show c<1000000000000 by omega)]
  cases hb:bitM mask c with
  |true=>
   have e:errT mask s u (i*4+c)=(s.getD (i*4+c) 0-u.getD (i*4+c) 0)*(s.getD (i*4+c) 0-u.getD (i*4+c) 0):=by
    unfold errT
    rw[iP (by rw[show(i*4+c)%4=c by omega];exact hb)]
   have b4:=q88 (x:=s.getD (i*4+c) 0-u.getD (i*4+c) 0) (m:=2047) (by omega)
   have sq:qjd 600 (y0 .i64 (s.getD (i*4+c) 0-u.getD (i*4+c) 0))=some ((s.getD (i*4+c) 0-u.getD (i*4+c) 0)*(s.getD (i*4+c) 0-u.getD (i*4+c) 0),()):=by
    unfold qjd
    rw[w64 (x:=s.getD (i*4+c) 0-u.getD (i*4+c) 0) (by omega) (by omega),w64 (by omega) (by omega)]
   rw[e]at nx
   simp only[cT,sq,y5]
   rw[w64 (by omega) (by omega)]
   exact nx
  |false=>
   have e:errT mask s u (i*4+c)=0:=by
    unfold errT
    rw[iN (by rw[show(i*4+c)%4=c by omega,hb];simp)]
   rw[e,Int.add_zero]at nx
   simp only[cF]
   exact nx
theorem zs3{mask:Int}(hm:0≤mask∧mask≤15){s u:LI}(hs:Rg 2047 s)(hu:Rg 2047 u):∀(d i k:Nat),i+d=16→d<k→q7s 600 k mask s u (sumN (errT mask s u) (i*4)) (i:Int)=some (errS mask s u,()):=by
 intro d
 induction d with
 |zero=>
  intro i k h1 h2
  obtain⟨k,rfl⟩:∃k',k=k' +1:=⟨k-1,by omega⟩
  obtain rfl:i=16:=by omega
  rfl
 |succ d ih=>
  intro i k h1 h2
  obtain⟨k,rfl⟩:∃k',k=k' +1:=⟨k-1,by omega⟩
  show qcr 600 (q7s 600 k) mask s u (sumN (errT mask s u) (i*4)) i=_
  unfold qcr
  have h3:(i:Int)<16:=by omega
  have h:=zs2 hm hs hu (i:=i) (by omega) 4 0 600 (by omega) (by omega)
  simp only[Nat.add_zero,yq]at h
  simp only[h3,dT,cT,h,y5,q0j (show i<1000000000000 by omega)]
  rw[show i*4+4=(i+1)*4 by omega]
  exact ih (i+1) k (by omega) (by omega)
theorem zxy{b t:LI}(hb:Bytes b){k:Nat}(h:Fmt k)(hl:b.length=q26 k)(htl:t.length=64)(ht:Rg 255 t):qqk 600 (k:Int) b t=some (q82 k b t,0,()):=by
 have e:=zs3 (zvj k) (q3t (zzs (k:=k) ht) (qdn k)) (q3t (qz8 hb h) (qdn k)) 16 0 600 (by omega) (by omega)
 simp only[Nat.zero_mul,yq,sumN]at e
 unfold qqk z2g
 rw[zvu hb h hl,(j4s 600 _).1,zve 600 h,j56 h htl ht]
 simp only[y5,bne_self_eq_false,cF,e]
 rfl
section
end
section
variable {t:LI} (hl:t.length=64) (ht:Rg 2047 t)
include hl ht
end
section
variable {t:LI} (hl:t.length=64) (ht:Rg 255 t)
include hl ht
end
section
variable {t:LI} (hl:t.length=64) (ht:Rg 255 t)
include hl ht
end
def farV(n:Nat)(a b:LI):Int:=sumN (fun c=>(a.getD c 0-b.getD c 0)*(a.getD c 0-b.getD c 0)) n
theorem j1e{a b:LI}(ha:Rg 255 a)(hb:Rg 255 b){n:Nat}(hn:n≤4):∀(d c k:Nat),c+d=n→d<k→q8o 600 k a b (farV c a b) (n:Int) (c:Int)=some (farV n a b,()):=by
 intro d
 induction d with
 |zero=>
  intro c k h1 h2
  obtain⟨k,rfl⟩:∃k',k=k' +1:=⟨k-1,by omega⟩
  obtain rfl:c=n:=by omega
  show q9h 600 (q8o 600 k) a b (farV c a b) c c=_
  unfold q9h
  simp only[yt,dF,cF]
 |succ d ih=>
  intro c k h1 h2
  obtain⟨k,rfl⟩:∃k',k=k' +1:=⟨k-1,by omega⟩
  show q9h 600 (q8o 600 k) a b (farV c a b) n c=_
  unfold q9h
  have h3:(c:Int)<(n:Int):=by omega
  have h4:(c:Int)<4:=by omega
  have b1:=ha c
  have b2:=hb c
  have b3:=q7u (n:=c) (f:=fun c=>(a.getD c 0-b.getD c 0)*(a.getD c 0-b.getD c 0)) (m:=255*255) fun j _=>q88 (by have:=ha j;have:=hb j;omega)
  have b4:=q88 (x:=a.getD c 0-b.getD c 0) (m:=255) (by omega)
  have nx:=ih (c+1) k (by omega) (by omega)
  have e1:y0 .i64 (a.getD c 0-b.getD c 0)=a.getD c 0-b.getD c 0:=w64 (by omega) (by omega)
  have e2:y0 .i64 ((a.getD c 0-b.getD c 0)*(a.getD c 0-b.getD c 0))=(a.getD c 0-b.getD c 0)*(a.getD c 0-b.getD c 0):=w64 (by omega) (by omega)
  have b5:(255*255:Int)*(c:Int)≤255*255*4:=Int.mul_le_mul_of_nonneg_left (by omega) (by decide)
  have e3:y0 .i64 (farV c a b+(a.getD c 0-b.getD c 0)*(a.getD c 0-b.getD c 0))=farV (c+1) a b:=by
   unfold farV
   rw[w64 (by omega) (by omega)]
   rfl
  simp only[h3,h4,dT,cT,yc,yd,yb,e1,e2,e3,q0j (show c<1000000000000 by omega)]
  exact nx
theorem zzx{a b:LI}(ha:Rg 255 a)(hb:Rg 255 b){n:Nat}(hn:n≤4):qjl 600 a b (n:Int)=some (farV n a b,()):=by
 unfold qjl
 have:=j1e ha hb hn n 0 600 (by omega) (by omega)
 rw[show farV 0 a b=0 from rfl,show((0:Nat):Int)=0 from rfl]at this
 rw[this]
 rfl
theorem qet{a b:LI}(ha:Rg 255 a)(hb:Rg 255 b)(n:Nat):0≤farV n a b:=
 (q7u (n:=n) (m:=255*255) fun j _=>q88 (by have:=ha j;have:=hb j;omega)).1
theorem qgp{a b:LI}(ha:Rg 255 a)(hb:Rg 255 b){n:Nat}:farV n a b=0↔∀c,c<n→a.getD c 0=b.getD c 0:=by
 unfold farV
 rw[qkm fun j _=>(q88 (m:=255) (by have:=ha j;have:=hb j;omega)).1]
 exact forall_congr' fun c=>forall_congr' fun _=>by rw[sq_zero];omega
theorem j57{N:Nat}(hN:1≤N∧N≤500){f:Nat→Int}{L:Nat→Int→Int→Option (Int×Unit)}
  (hL:∀(k s i:Nat),s<N→i<N→L (k+1) s i=cond (decide (f i<f s)) (L k i ((i+1:Nat):Int)) (L k s ((i+1:Nat):Int))) (hE:∀k s:Nat,L (k+1) s (N:Int)=some ((s:Int),())):L 600 0 0=some ((q4w f N:Int),()):=by
 have key:∀(d i k:Nat),i+d=N→d<k→L k (q4w f i:Int) (i:Int)=some ((q4w f N:Int),()):=by
  intro d
  induction d with
  |zero=>
   intro i k h1 h2
   obtain⟨k,rfl⟩:∃k',k=k' +1:=⟨k-1,by omega⟩
   obtain rfl:i=N:=by omega
   exact hE _ _
  |succ d ih=>
   intro i k h1 h2
   obtain⟨k,rfl⟩:∃k',k=k' +1:=⟨k-1,by omega⟩
   have hlt:q4w f i<N:=by
    by_cases hi:i=0
    ·subst hi
     show 0<N
     omega
    ·have:=qpm f (n:=i) (by omega)
     omega
   have nx:=ih (i+1) k (by omega) (by omega)
   rw[show q4w f (i+1)=if i=0 then 0 else if f i<f (q4w f i)then i else q4w f i from rfl]at nx
   rw[hL k _ i hlt (by omega)]
   by_cases hi:i=0
   ·subst hi
    rw[iP rfl]at nx
    rw[show q4w f 0=0 from rfl]
    simp only[yt,dF,cF]
    exact nx
   ·rw[iN hi]at nx
    by_cases hc' :f i<f (q4w f i)
    ·rw[iP hc']at nx
     simp only[hc',dT,cT]
     exact nx
    ·rw[iN hc']at nx
     simp only[hc',dF,cF]
     exact nx
 exact key N 0 600 (by omega) (by omega)
def rowP(p:LI)(i:Nat):LI:=y8 4 (y9 (i*4) p)
theorem q5b{m:Int}(hm:0≤m){p:LI}(h:Rg m p)(i:Nat):Rg m (rowP p i):=by
 intro j
 by_cases hj:j<4
 ·have:(rowP p i).getD j 0=p.getD (i*4+j) 0:=(z5s p hj).symm
  rw[this]
  exact h _
 ·have hl:(rowP p i).length≤j:=by unfold rowP;rw[List.length_take];omega
  rw[qpj hl]
  omega
theorem q2d{p:LI}{i c:Nat}(hc:c<4):(rowP p i).getD c 0=p.getD (i*4+c) 0:=(z5s p hc).symm
theorem nearH_is{p x:LI}(hp:p.length=16)(hr:Rg 255 p)(hx:Rg 255 x):q22 600 p x=some ((q4w (fun i=>farV 3 x (rowP p i)) 4:Int),()):=by
 have hl:ya p/4=4:=by omega
 have c1:∀i:Nat,qg9 600 (y8 4 (y9 (i*4) p)) x=some (farV 3 x (rowP p i),()):=fun i=>by
  unfold qg9
  have:=zzx hx (q5b (by decide) hr i) (n:=3) (by omega)
  rw[show(3:Int)=((3:Nat):Int)from rfl,show y8 4 (y9 (i*4) p)=rowP p i from rfl,this]
  rfl
 unfold q22
 rw[hl]
 have:=j57 (N:=4) (by omega) (f:=fun i=>farV 3 x (rowP p i)) (L:=fun k s i=>q0b 600 k p x s ((4:Nat):Int) i) (fun k s i hs hi=>by
  show q0m 600 (q0b 600 k) p x s _ i=_
  unfold q0m
  rw[hl]
  have h1:(i:Int)<((4:Nat):Int):=by omega
  have h2:(s:Int)<((4:Nat):Int):=by omega
  simp only[h1,h2,dT,cT,yc,yd,yb,c1,y5,q0j (show i<1000000000000 by omega)]) (fun k s=>by
  show q0m 600 (q0b 600 k) p x s _ _=_
  unfold q0m
  simp only[yt,dF,cF])
 rw[this]
 rfl
theorem nearS_is{p x:LI}(hp:p.length=64)(hr:Rg 255 p)(hx:Rg 255 x):q18 600 p x=some ((q4w (fun i=>farV 4 x (rowP p i)) 16:Int),()):=by
 have hl:ya p/4=16:=by omega
 have c1:∀i:Nat,qgb 600 (y8 4 (y9 (i*4) p)) x=some (farV 4 x (rowP p i),()):=fun i=>by
  unfold qgb
  have:=zzx hx (q5b (by decide) hr i) (n:=4) (by omega)
  rw[show(4:Int)=((4:Nat):Int)from rfl,show y8 4 (y9 (i*4) p)=rowP p i from rfl,this]
  rfl
 unfold q18
 rw[hl]
 have:=j57 (N:=16) (by omega) (f:=fun i=>farV 4 x (rowP p i)) (L:=fun k s i=>q0c 600 k p x s ((16:Nat):Int) i) (fun k s i hs hi=>by
  show q0n 600 (q0c 600 k) p x s _ i=_
  unfold q0n
  rw[hl]
  have h1:(i:Int)<((16:Nat):Int):=by omega
  have h2:(s:Int)<((16:Nat):Int):=by omega
  simp only[h1,h2,dT,cT,yc,yd,yb,c1,y5,q0j (show i<1000000000000 by omega)]) (fun k s=>by
  show q0n 600 (q0c 600 k) p x s _ _=_
  unfold q0n
  simp only[yt,dF,cF])
 rw[this]
 rfl
theorem nearR_is{p:LI}(hp:p.length=8)(hr:Rg 255 p){x:Int}(hx:0≤x∧x≤255):q1g 600 p x=some ((q4w (fun i=>(p.getD i 0-x)*(p.getD i 0-x)) 8:Int),()):=by
 have c1:∀i:Nat,q7c 600 (p.getD i 0) x=some ((p.getD i 0-x)*(p.getD i 0-x),()):=fun i=>by
  unfold q7c
  have:=hr i
  have b4:=q88 (x:=p.getD i 0-x) (m:=255) (by omega)
  have e1:y0 .i64 (p.getD i 0-x)=p.getD i 0-x:=w64 (by omega) (by omega)
  have e2:y0 .i64 ((p.getD i 0-x)*(p.getD i 0-x))=(p.getD i 0-x)*(p.getD i 0-x):=w64 (by omega) (by omega)
  simp only[e1,e2]
 unfold q1g
 rw[hp]
 have:=j57 (N:=8) (by omega) (f:=fun i=>(p.getD i 0-x)*(p.getD i 0-x)) (L:=fun k s i=>q0i 600 k p x s ((8:Nat):Int) i) (fun k s i hs hi=>by
  show q0q 600 (q0i 600 k) p x s _ i=_
  unfold q0q
  rw[hp]
  have h1:(i:Int)<((8:Nat):Int):=by omega
  have h2:(s:Int)<((8:Nat):Int):=by omega
  simp only[h1,h2,dT,cT,yc,yd,yb,c1,y5,q0j (show i<1000000000000 by omega)]) (fun k s=>by
  show q0q 600 (q0i 600 k) p x s _ _=_
  unfold q0q
  simp only[yt,dF,cF])
 rw[this]
 rfl
def hexW(t p:LI):LI:=tab 16 fun i=>(q4w (fun j=>farV 3 (rowP t i) (rowP p j)) 4:Int)
theorem j58(t p:LI):∀j,j<16→okW 2 (hexW t p) j:=fun j hj=>by
 unfold okW hexW
 rw[q0d hj]
 have:=qpm (fun j' =>farV 3 (rowP t j) (rowP p j')) (n:=4) (by decide)
 omega
def twoB(t:LI)(a b:Int)(four:Bool):LI:=qdk (a+b*2^16) 32 2 (hexW t (palV a b four))
theorem ze5(t:LI)(a b:Int)(four:Bool):Okb 8 (twoB t a b four):=⟨q5z _ _ _ _,qix _ _ _ _⟩
theorem j1f{t p:LI}(hp:p.length=16)(hr:Rg 255 p)(ht:Rg 255 t)(a b:Int):∀(d i k:Nat),i+d=16→d<k→
  q8p 600 k a b p (tab 16 (upT i fun i=>(q4w (fun j=>farV 3 (rowP t i) (rowP p j)) 4:Int))) t (i:Int)=some (a,b,hexW t p,()):=by
 intro d
 induction d with
 |zero=>
  intro i k h1 h2
  obtain⟨k,rfl⟩:∃k',k=k' +1:=⟨k-1,by omega⟩
  obtain rfl:i=16:=by omega
  rw[qhl]
  rfl
 |succ d ih=>
  intro i k h1 h2
  obtain⟨k,rfl⟩:∃k',k=k' +1:=⟨k-1,by omega⟩
  show qif 600 (q8p 600 k) a b p _ t i=_
  unfold qif
  have h3:(i:Int)<16:=by omega
  have nr:=nearH_is hp hr (x:=y8 4 (y9 (i*4) t)) (q5b (by decide) ht i)
  simp only[h3,dT,cT,yc,yd,yb,nr,y5,q0j (show i<1000000000000 by omega)]
  have nx:=ih (i+1) k (by omega) (by omega)
  rw[←qes]at nx
  exact nx
theorem joinH{a b:Int}(ha:0≤a∧a≤65535)(hb:0≤b∧b≤65535){w:LI}(hl:w.length=16)(hw:∀j,j<16→okW 2 w j):qb5 600 a b w=some (qdk (a+b*2^16) 32 2 w,0,()):=
 zzh (F:=600) (by decide) ha hb (fun j=>by
  by_cases hj:j<16
  ·have:=hw j hj
   unfold okW at this
   omega
  ·rw[qpj (l:=w) (by omega)]
   decide) hw
theorem hex15_of{t p w:LI}{a b:Int}{four:Bool}(h1:q93 600 a b four=some (p,()))(h2:q8p 600 600 a b p q1w t 0=some (a,b,w,())){c:LI}(h3:qb5 600 a b w=some (c,0,())):qns 600 t a b four=some (c,()):=by
 unfold qns
 simp only[h1,h2,h3,y5]
theorem zzy{t:LI}(ht:Rg 255 t){a b:Int}(ha:0≤a∧a≤65535)(hb:0≤b∧b≤65535)(four:Bool):qns 600 t a b four=some (twoB t a b four,()):=by
 have h0:=j1f (qm3 a b four) (zxp a b four) ht a b 16 0 600 (by decide) (by decide)
 rw[q87]at h0
 exact hex15_of (z8r (F:=600) (by decide) ha hb four).1 h0 (joinH ha hb (q0g _ _) (j58 t _))
theorem j59(n:Nat)(a b:LI):farV n a b=farV n b a:=by
 unfold farV
 refine qz9 fun c _=> ?_
 rw[show a.getD c 0-b.getD c 0= -(b.getD c 0-a.getD c 0) by omega,Int.neg_mul_neg]
theorem j5a(n:Nat)(a:LI):farV n a a=0:=by
 unfold farV
 rw[qz9 (g:=fun _=>0) fun c _=>by rw[Int.sub_self];rfl]
 induction n with
 |zero=>rfl
 |succ n ih=>show sumN _ n+0=0;omega
theorem z91{n:Nat}(hn:n≤4)(z1 z2:LI):∀(l:List (LI×LI)) (p q:LI),(∀x∈l,Rg 255 x.1∧Rg 255 x.2)→Rg 255 p→Rg 255 q→
  ∃p' q',runL (DX:=Unit) (fun x=>u5 (q7t 600 x)) l ((n:Int),z1,z2,p,q,())=some (.inl ((n:Int),z1,z2,p',q',()))∧((p',q')=(p,q)∨(p',q')∈l)∧farV n p q≤farV n p' q' ∧∀x∈l,farV n x.1 x.2≤farV n p' q'
 |[],p,q,_,hp,hq=>⟨p,q,rfl,.inl rfl,Int.le_refl _,fun x hx=>by cases hx⟩
 |x::l,p,q,hl,hp,hq=>by
  obtain⟨hx1,hx2⟩:=hl x (by simp)
  have e1:=zzx hx1 hx2 hn
  have e2:=zzx hp hq hn
  have hl' :∀y∈l,Rg 255 y.1∧Rg 255 y.2:=fun y hy=>hl y (by simp[hy])
  by_cases h:farV n p q<farV n x.1 x.2
  ·obtain⟨p',q',g1,g2,g3,g4⟩:=z91 hn z1 z2 l x.1 x.2 hl' hx1 hx2
   refine⟨p',q',?_,?_,by omega,fun y hy=> ?_⟩
   ·unfold runL
    simp only[u5,u4,u3,u2,u1,u0,q7t,e1,e2,y5,h,dT,cT]
    exact g1
   ·rcases g2 with g2|g2
    ·exact .inr (by rw[g2];simp)
    ·exact .inr (by simp[g2])
   ·rcases yr.1 hy with rfl|hy
    ·exact g3
    ·exact g4 y hy
  ·obtain⟨p',q',g1,g2,g3,g4⟩:=z91 hn z1 z2 l p q hl' hp hq
   refine⟨p',q',?_,?_,g3,fun y hy=> ?_⟩
   ·unfold runL
    simp only[u5,u4,u3,u2,u1,u0,q7t,e1,e2,y5,h,dF,cF]
    exact g1
   ·rcases g2 with g2|g2
    ·exact .inl g2
    ·exact .inr (by simp[g2])
   ·rcases yr.1 hy with rfl|hy
    ·omega
    ·exact g4 y hy
theorem zs4(t:LI)(i:Nat):txt t i=rowP t i:=by unfold txt rowP;rw[Nat.mul_comm]
theorem j1g{t:LI}{x:LI×LI}(h:x∈znj t):∃i j,i<16∧j<16∧x=(rowP t i,rowP t j):=by
 unfold znj at h
 obtain⟨i,hi,h⟩:=List.mem_flatMap.1 h
 obtain⟨j,hj,rfl⟩:=List.mem_map.1 h
 rw[List.mem_range]at hi hj
 exact⟨i,i+1+j,hi,by omega,by rw[zs4,zs4]⟩
theorem j1h{t:LI}{i j:Nat}(hij:i<j)(hj:j<16):(rowP t i,rowP t j)∈znj t:=by
 unfold znj
 refine List.mem_flatMap.2 ⟨i,List.mem_range.2 (by omega),List.mem_map.2 ⟨j-(i+1),List.mem_range.2 (by omega),?_⟩⟩
 rw[zs4,zs4,show i+1+(j-(i+1))=j by omega]
theorem pairs_l(t:LI):∃l,qfi 600 t=some l∧(∀x∈l,∃i j,i<16∧j<16∧x=(rowP t i,rowP t j))∧∀i j,i<j→j<16→(rowP t i,rowP t j)∈l:=
 ⟨znj t,rfl,fun x h=>j1g h,fun i j h1 h2=>j1h h1 h2⟩
theorem j5b{t p q r:LI}{n:Int}{l:List (LI×LI)}(hl:qfi 600 t=some l)(hr:y8 4 t=r)
  (h:runL (DX:=Unit) (fun x=>u5 (q7t 600 x)) l (n,[(0:Int),(0:Int),(0:Int),(0:Int)],[(0:Int),(0:Int),(0:Int),(0:Int)],r,r,())=some (.inl (n,[(0:Int),(0:Int),(0:Int),(0:Int)],[(0:Int),(0:Int),(0:Int),(0:Int)],p,q,()))):q6q 600 t n=some (p,q,()):=by
 unfold q6q
 simp only[hl,hr,h,y5]
theorem zvv{t:LI}(ht:Rg 255 t){n:Nat}(hn:n≤4):∃i j,i<16∧j<16∧q6q 600 t (n:Int)=some (rowP t i,rowP t j,())∧∀i' j',i' <16→j' <16→farV n (rowP t i') (rowP t j')≤farV n (rowP t i) (rowP t j):=by
 have r0:y8 4 t=rowP t 0:=by unfold rowP;rw[Nat.zero_mul,List.drop_zero]
 have hr:∀i,Rg 255 (rowP t i):=fun i=>q5b (by decide) ht i
 obtain⟨l,hl,hm,ha⟩:=pairs_l t
 obtain⟨p,q,g1,g2,g3,g4⟩:=z91 hn [(0:Int),(0:Int),(0:Int),(0:Int)] [(0:Int),(0:Int),(0:Int),(0:Int)] l (rowP t 0) (rowP t 0)
  (fun x hx=>by
   obtain⟨i,j,_,_,rfl⟩:=hm x hx
   exact⟨hr i,hr j⟩) (hr 0) (hr 0)
 have hw:=j5b hl r0 g1
 have key:∃i j,i<16∧j<16∧p=rowP t i∧q=rowP t j:=by
  rcases g2 with g2|g2
  ·exact⟨0,0,by decide,by decide,(Prod.mk.inj g2).1,(Prod.mk.inj g2).2⟩
  ·obtain⟨i,j,hi,hj,e⟩:=hm _ g2
   exact⟨i,j,hi,hj,(Prod.mk.inj e).1,(Prod.mk.inj e).2⟩
 obtain⟨i,j,hi,hj,rfl,rfl⟩:=key
 refine⟨i,j,hi,hj,hw,fun i' j' hi' hj' => ?_⟩
 rcases Nat.lt_trichotomy i' j' with h|h|h
 ·exact g4 (rowP t i',rowP t j') (ha i' j' h hj')
 ·subst h
  rw[j5a]
  exact qet (hr i) (hr j) n
 ·rw[j59]
  exact g4 (rowP t j',rowP t i') (ha j' i' h hi')
def InvB(k:Nat)(t b:LI)(n:Int):Prop:=Okb (q26 k) b∧n=q82 k b t
def AhdB(k:Nat)(ah:LI):Prop:=Bytes ah∧ah.length+8=q26 k
section
variable {k:Nat} (hk:Fmt k) {t:LI} (tl:t.length=64) (tr:Rg 255 t)
include hk tl tr
theorem qzg{b:LI}{n:Int}{new:LI}(hI:InvB k t b n)(hn:Okb (q26 k) new):∃f b' n',q0o 600 b (k:Int) t n new=some (f,(k:Int),t,b',n',())∧InvB k t b' n' ∧n' ≤n∧n' ≤q82 k new t:=by
 have e:=qpl hn.1 hk hn.2 tl tr
 unfold q0o
 rw[e]
 simp only[y5,bne_self_eq_false,cF]
 by_cases hlt:n≤q82 k new t
 ·exact⟨false,b,n,by simp only[hlt,dT,cT],hI,Int.le_refl _,hlt⟩
 ·exact⟨true,new,q82 k new t,by simp only[hlt,dF,cF],⟨hn,rfl⟩,by omega,Int.le_refl _⟩
abbrev Rn(n:Int):Prop:=0≤n∧n≤65535
theorem j5c{ah:LI}(ha:AhdB k ah)(four:Bool){b:LI}{n:Int}(hI:InvB k t b n){x y:Int}(hx:Rn x)(hy:Rn y):∃f b' n',q0f 600 x y b (k:Int) t n ah t four=some (f,(k:Int),t,b',n',())∧InvB k t b' n' ∧n' ≤n∧n' ≤q82 k (ah++twoB t x y four) t:=by
 have l8:∀x y,(twoB t x y four).length=8:=fun x y=>(ze5 t x y four).2
 have ok:∀x y,Okb (q26 k) (ah++twoB t x y four):=fun x y=>⟨fun z hz=>(yk.1 hz).elim (ha.1 z) ((ze5 t x y four).1 z),by rw[yo,l8];exact ha.2⟩
 obtain⟨f1,b1,n1,s1,i1,m1,e1⟩:=qzg hk tl tr hI (ok x y)
 obtain⟨f2,b2,n2,s2,i2,m2,e2⟩:=qzg hk tl tr i1 (ok y x)
 have hb:=z8w k
 have hal:ah.length≤8:=by have:=ha.2;omega
 have v0:(0:Int)≤((ah.length:Nat):Int):=yc _
 have c1:(ah.length+8≤1099511627776):=by omega
 unfold q0f
 simp only[zzy tr hx hy four,zzy tr hy hx four,l8,y5,yc,dT,yd,yb,wa,List.take_length,c1,cT,s1,s2,show decide (0<8)=true from rfl]
 cases f1
 ·exact⟨f2,b2,n2,rfl,i2,by omega,by omega⟩
 ·exact⟨true,b2,n2,rfl,i2,by omega,by omega⟩
end
abbrev Rec2:=LI→Int→LI→Int→Int→LI→LI→Bool→Int→Int→Int→Int→Bool→LI→Int→Option (LI×Int×LI×Int×Int×LI×LI×Bool×Int×Int×Int×Int×Bool×Unit)
def j1i(rec:Rec2)(x0:LI)(x1:Int)(x2:LI)(x3 x4:Int)(x5 x6:LI)(x7:Bool)(x8 x9 x10 x11:Int)(x12:Bool)(x13:LI)(i v:Int):Option (LI×Int×LI×Int×Int×LI×LI×Bool×Int×Int×Int×Int×Bool×Unit):=
 cond (decide ((0:Int)≤v))
  (cond ((ishr .i64 v (16:Int))==(0:Int))
   ((q0f 600 x8 v x0 x1 x2 x3 x5 x6 x7).bind fun r=>
   cond r.1
    (rec r.2.2.2.1 r.2.1 r.2.2.1 r.2.2.2.2.1 x4 x5 x6 x7 x8 v x10 x11 x12 x13 i)
    (rec r.2.2.2.1 r.2.1 r.2.2.1 r.2.2.2.2.1 x4 x5 x6 x7 x8 x9 x10 x11 x12 x13 i))
   (rec x0 x1 x2 x3 x4 x5 x6 x7 x8 x9 x10 x11 x12 x13 i))
  (rec x0 x1 x2 x3 x4 x5 x6 x7 x8 x9 x10 x11 x12 x13 i)
theorem l2S_eq(rec:Rec2)(x0:LI)(x1:Int)(x2:LI)(x3 x4:Int)(x5 x6:LI)(x7:Bool)(x8 x9 x10 x11:Int)(x12:Bool)(x13:LI)(x14:Int):
  q3x 600 rec x0 x1 x2 x3 x4 x5 x6 x7 x8 x9 x10 x11 x12 x13 x14=
  cond (decide (x14<(6:Int)))
   (cond ((decide ((0:Int)≤x14))&&(decide (x14<(6:Int))))
    (cond (decide ((0:Int)≤y0 .i64 (x8+y7 x13 (y6 x14) (0:Int))))
     (cond ((ishr .i64 (y0 .i64 (x8+y7 x13 (y6 x14) (0:Int))) (16:Int))==(0:Int))
      ((q0f 600 (y0 .i64 (x8+y7 x13 (y6 x14) (0:Int))) x9 x0 x1 x2 x3 x5 x6 x7).bind fun r=>
      cond r.1
       (j1i rec r.2.2.2.1 r.2.1 r.2.2.1 r.2.2.2.2.1 x4 x5 x6 x7 (y0 .i64 (x8+y7 x13 (y6 x14) (0:Int))) x9 x10 x11 x12 x13 (y0 .i64 (x14+(1:Int))) (y0 .i64 (x9+y7 x13 (y6 x14) (0:Int))))
       (j1i rec r.2.2.2.1 r.2.1 r.2.2.1 r.2.2.2.2.1 x4 x5 x6 x7 x8 x9 x10 x11 x12 x13 (y0 .i64 (x14+(1:Int))) (y0 .i64 (x9+y7 x13 (y6 x14) (0:Int)))))
      (j1i rec x0 x1 x2 x3 x4 x5 x6 x7 x8 x9 x10 x11 x12 x13 (y0 .i64 (x14+(1:Int))) (y0 .i64 (x9+y7 x13 (y6 x14) (0:Int)))))
     (j1i rec x0 x1 x2 x3 x4 x5 x6 x7 x8 x9 x10 x11 x12 x13 (y0 .i64 (x14+(1:Int))) (y0 .i64 (x9+y7 x13 (y6 x14) (0:Int)))))
    none)
   (some (x0,x1,x2,x3,x4,x5,x6,x7,x8,x9,x10,x11,x12,())):=rfl
theorem hex16{v:Int}(h: -9223372036854775808≤v∧v≤9223372036854775807):(∃g,(decide ((0:Int)≤v))=g∧(g=true→∃s,((ishr .i64 v (16:Int))==(0:Int))=s∧(s=true→Rn v))):=by
 refine⟨_,rfl,fun hg=>⟨_,rfl,fun hs=> ?_⟩⟩
 have h0:0≤v:=of_decide_eq_true hg
 rw[show(16:Int)=((16:Nat):Int)from rfl,j42 (by omega)]at hs
 have h1:v/2^16=0:=by simpa using hs
 exact⟨h0,by omega⟩
section
variable {k:Nat} (hk:Fmt k) {t:LI} (tl:t.length=64) (tr:Rg 255 t) {ah:LI} (ha:AhdB k ah) (four:Bool)
include hk tl tr ha
def zs5(k:Nat)(t:LI)(n:Int)(s:LI×Int×Int×Int):Prop:=InvB k t s.1 s.2.1∧s.2.1≤n∧Rn s.2.2.1∧Rn s.2.2.2
theorem zzz(rec:Rec2){n:Int}{s:LI×Int×Int×Int}(hs:zs5 k t n s)(eff x10 x11:Int)(x12:Bool)(x13:LI)(i:Int){v:Int}(hv: -9223372036854775808≤v∧v≤9223372036854775807):
  ∃s',zs5 k t n s' ∧j1i rec s.1 (k:Int) t s.2.1 eff ah t four s.2.2.1 s.2.2.2 x10 x11 x12 x13 i v=rec s'.1 (k:Int) t s'.2.1 eff ah t four s'.2.2.1 s'.2.2.2 x10 x11 x12 x13 i:=by
 obtain⟨i1,i2,i3,i4⟩:=hs
 obtain⟨g,hg,hg2⟩:=hex16 hv
 unfold j1i
 rw[hg]
 cases g
 ·exact⟨s,⟨i1,i2,i3,i4⟩,rfl⟩
 ·obtain⟨g2,hs2,hs3⟩:=hg2 rfl
  rw[hs2]
  cases g2
  ·exact⟨s,⟨i1,i2,i3,i4⟩,rfl⟩
  ·have hr:=hs3 rfl
   obtain⟨f,b',n',e,j1,j2,_⟩:=j5c hk tl tr ha four i1 i3 hr
   simp only[cT,e,y5]
   cases f
   ·exact⟨(b',n',s.2.2.1,s.2.2.2),⟨j1,Int.le_trans j2 i2,i3,i4⟩,rfl⟩
   ·exact⟨(b',n',s.2.2.1,v),⟨j1,Int.le_trans j2 i2,i3,hr⟩,rfl⟩
theorem zxz{i:Nat}: -2048≤bcfit_stepsT256328.getD i 0∧bcfit_stepsT256328.getD i 0≤2048:=by
 rcases i with _|_|_|_|_|_|i
 all_goals first|decide|skip
 rw[ye,w9 (by simp[bcfit_stepsT256328])]
 decide
theorem zvw{n:Int}{s:LI×Int×Int×Int}(hs:zs5 k t n s)(eff x10 x11:Int)(x12:Bool):∃r,(∃s',zs5 k t n s' ∧r=(s'.1,(k:Int),t,s'.2.1,eff,ah,t,four,s'.2.2.1,s'.2.2.2,x10,x11,x12,()))∧
  q0a 600 600 s.1 (k:Int) t s.2.1 eff ah t four s.2.2.1 s.2.2.2 x10 x11 x12 bcfit_stepsT256328 0=some r:=by
 refine qaz (N:=6) (by decide) (fun q (s:LI×Int×Int×Int) i=>q0a 600 q s.1 (k:Int) t s.2.1 eff ah t four s.2.2.1 s.2.2.2 x10 x11 x12 bcfit_stepsT256328 i) (fun _ s=>zs5 k t n s)
  (fun r=>∃s',zs5 k t n s' ∧r=(s'.1,(k:Int),t,s'.2.1,eff,ah,t,four,s'.2.2.1,s'.2.2.2,x10,x11,x12,())) (fun q i s hi hs=> ?_) (fun q s hs=>⟨_,⟨s,hs,rfl⟩,rfl⟩) hs
 have h3:(i:Int)<6:=by omega
 have sb:=zxz hk tl tr ha (i:=i)
 obtain⟨i1,i2,i3,i4⟩:=hs
 have w1:y0 .i64 (s.2.2.1+bcfit_stepsT256328.getD i 0)=s.2.2.1+bcfit_stepsT256328.getD i 0:=w64 (by have:=i3;omega) (by have:=i3;omega)
 have w2:y0 .i64 (s.2.2.2+bcfit_stepsT256328.getD i 0)=s.2.2.2+bcfit_stepsT256328.getD i 0:=w64 (by have:=i4;omega) (by have:=i4;omega)
 have b1: -9223372036854775808≤s.2.2.1+bcfit_stepsT256328.getD i 0∧s.2.2.1+bcfit_stepsT256328.getD i 0≤9223372036854775807:=by have:=i3;omega
 have b2: -9223372036854775808≤s.2.2.2+bcfit_stepsT256328.getD i 0∧s.2.2.2+bcfit_stepsT256328.getD i 0≤9223372036854775807:=by have:=i4;omega
 show∃s',zs5 k t n s' ∧q3x 600 (q0a 600 q) s.1 (k:Int) t s.2.1 eff ah t four s.2.2.1 s.2.2.2 x10 x11 x12 bcfit_stepsT256328 (i:Int)=q0a 600 q s'.1 (k:Int) t s'.2.1 eff ah t four s'.2.2.1 s'.2.2.2 x10 x11 x12 bcfit_stepsT256328 ((i+1:Nat):Int)
 rw[l2S_eq]
 simp only[h3,dT,cT,yc,yd,yb,w1,w2,q0j (show i<1000000000000 by omega)]
 obtain⟨g,hg,hg2⟩:=hex16 b1
 rw[hg]
 cases g
 ·exact zzz hk tl tr ha four (q0a 600 q) (s:=s) ⟨i1,i2,i3,i4⟩ eff x10 x11 x12 _ _ b2
 ·obtain⟨g2,hs2,hs3⟩:=hg2 rfl
  rw[hs2]
  cases g2
  ·exact zzz hk tl tr ha four (q0a 600 q) (s:=s) ⟨i1,i2,i3,i4⟩ eff x10 x11 x12 _ _ b2
  ·have hr:=hs3 rfl
   obtain⟨f,b',n',e,j1,j2,_⟩:=j5c hk tl tr ha four i1 hr i4
   simp only[cT,e,y5]
   cases f
   ·exact zzz hk tl tr ha four (q0a 600 q) (s:=(b',n',s.2.2.1,s.2.2.2)) ⟨j1,by show n' ≤n;omega,i3,i4⟩ eff x10 x11 x12 _ _ b2
   ·exact zzz hk tl tr ha four (q0a 600 q) (s:=(b',n',s.2.2.1+bcfit_stepsT256328.getD i 0,s.2.2.2)) ⟨j1,by show n' ≤n;omega,hr,i4⟩ eff x10 x11 x12 _ _ b2
theorem zvx{n:Int}{s:LI×Int×Int×Int}(hs:zs5 k t n s)(eff:Int):∃b' n',q0y 600 600 s.1 (k:Int) t s.2.1 eff ah t four s.2.2.1 s.2.2.2 0=some (b',(k:Int),t,n',())∧InvB k t b' n' ∧n' ≤n:=by
 have h:∃r,(∃b' n',r=(b',(k:Int),t,n',())∧InvB k t b' n' ∧n' ≤n)∧q0y 600 600 s.1 (k:Int) t s.2.1 eff ah t four s.2.2.1 s.2.2.2 0=some r:=by
  by_cases he:eff=2
  ·subst he
   refine qaz (N:=3) (by decide) (fun q (s:LI×Int×Int×Int) i=>q0y 600 q s.1 (k:Int) t s.2.1 2 ah t four s.2.2.1 s.2.2.2 i) (fun _ s=>zs5 k t n s)
    (fun r=>∃b' n',r=(b',(k:Int),t,n',())∧InvB k t b' n' ∧n' ≤n) (fun q i s hi hs=> ?_) (fun q s hs=>⟨_,⟨_,_,rfl,hs.1,hs.2.1⟩,rfl⟩) hs
   have h3:(i:Int)<3:=by omega
   obtain⟨r,⟨s',hs',rfl⟩,e⟩:=zvw hk tl tr ha four hs 2 i 2 true
   refine⟨s',hs',?_⟩
   show q1y 600 (q0y 600 q) s.1 (k:Int) t s.2.1 2 ah t four s.2.2.1 s.2.2.2 (i:Int)=_
   unfold q1y z2h
   simp only[h3,dT,cT,beq_self_eq_true,y5,e,q0j (show i<1000000000000 by omega)]
  ·refine⟨_,⟨s.1,s.2.1,rfl,hs.1,hs.2.1⟩,?_⟩
   show q1y 600 (q0y 600 599) s.1 (k:Int) t s.2.1 eff ah t four s.2.2.1 s.2.2.2 0=_
   unfold q1y
   simp only[beqF he,cF,show decide ((0:Int)<3)=true from rfl,cT]
 obtain⟨r,⟨b',n',rfl,h1,h2⟩,e⟩:=h
 exact⟨b',n',e,h1,h2⟩
theorem qrh(x:LI):Rn (q7g x):=by
 have h1:=qft (b:=5) (x.getD 0 0)
 have h2:=qft (b:=6) (x.getD 1 0)
 have h3:=qft (b:=5) (x.getD 2 0)
 rw[show(2:Nat)^5=32 from rfl]at h1 h3
 rw[show(2:Nat)^6=64 from rfl]at h2
 unfold q7g Rn
 omega
theorem z92{b:LI}{n:Int}(hI:InvB k t b n)(eff:Int):∃b' n' i j,q1a 600 b (k:Int) t n t ah four eff=some ((k:Int),t,b',n',())∧InvB k t b' n' ∧n' ≤n∧i<16∧j<16∧
  (∀i' j',i' <16→j' <16→farV 3 (rowP t i') (rowP t j')≤farV 3 (rowP t i) (rowP t j))∧n' ≤q82 k (ah++twoB t (q7g (rowP t i)) (q7g (rowP t j)) four) t:=by
 obtain⟨i,j,hi,hj,e1,hm⟩:=zvv tr (n:=3) (by decide)
 have pk:∀x,qiw 600 (rowP t x)=some (q7g (rowP t x),()):=fun x=>(Pack_is (F:=600) (by decide) fun c hc=>by have:=q5b (by decide) tr x c;omega).1
 obtain⟨f,b1,n1,e2,j1,j2,j3⟩:=j5c hk tl tr ha four hI (qrh hk tl tr ha (rowP t i)) (qrh hk tl tr ha (rowP t j))
 obtain⟨b',n',e3,l1,l2⟩:=zvx hk tl tr ha four (n:=n1) (s:=(b1,n1,q7g (rowP t i),q7g (rowP t j))) ⟨j1,Int.le_refl _,qrh hk tl tr ha _,qrh hk tl tr ha _⟩ eff
 refine⟨b',n',i,j,?_,l1,by omega,hi,hj,hm,by omega⟩
 have e1' :q6q 600 t 3=some (rowP t i,rowP t j,()):=e1
 unfold q1a
 simp only[e1',pk,e2,e3,y5]
end
theorem j5d{l:LI}{N:Nat}{m:Int}(hl:l.length=N)(hm:m≤9000000000000000000)(h:∀j,j<N→0≤l.getD j 0∧l.getD j 0≤m)(j:Nat): -9223372036854775808≤l.getD j 0∧l.getD j 0≤9223372036854775807:=by
 by_cases hj:j<N
 ·have:=h j hj
  omega
 ·rw[qpj (l:=l) (by omega)]
  decide
def zk4(t:LI):LI:=tab 16 fun i=>(q6m 4 (t.getD (i*4+3) 0) 16:Int)
theorem zvy(t:LI):∀j,j<16→okW 4 (zk4 t) j:=fun j hj=>by
 have:=qft (b:=4) (t.getD (j*4+3) 0)
 rw[show(2:Nat)^4=16 from rfl]at this
 unfold okW zk4
 rw[q0d hj]
 omega
def zab(t:LI):LI:=qdk 0 0 4 (zk4 t)
theorem j1j(t:LI):Okb 8 (zab t):=⟨q5z _ _ _ _,qix _ _ _ _⟩
theorem zvz{t:LI}(ht:Rg 255 t):∀(d i k:Nat),i+d=16→d<k→
  q62 600 k (tab 16 (upT i fun i=>(q6m 4 (t.getD (i*4+3) 0) 16:Int))) t (i:Int)=some (zk4 t,()):=by
 intro d
 induction d with
 |zero=>
  intro i k h1 h2
  obtain⟨k,rfl⟩:∃k',k=k' +1:=⟨k-1,by omega⟩
  obtain rfl:i=16:=by omega
  rw[qhl]
  rfl
 |succ d ih=>
  intro i k h1 h2
  obtain⟨k,rfl⟩:∃k',k=k' +1:=⟨k-1,by omega⟩
  show qcs 600 (q62 600 k) _ t i=_
  unfold qcs
  have h3:(i:Int)<16:=by omega
  have hb:=ht (i*4+3)
  have e:y7 (y8 4 (y9 (i*4) t)) 3 0=t.getD (i*4+3) 0:=q2d (p:=t) (i:=i) (c:=3) (by decide)
  have nr:q7i 600 (t.getD (i*4+3) 0) 4=some ((q6m 4 (t.getD (i*4+3) 0) 16:Int),()):=zjs (F:=600) (b:=4) (by decide) (by decide) (by omega)
  simp only[h3,dT,cT,yc,yd,yb,e,nr,y5,q0j (show i<1000000000000 by omega)]
  have nx:=ih (i+1) k (by omega) (by omega)
  rw[←qes]at nx
  exact nx
theorem fours_of{t w c:LI}(h1:q62 600 600 q1w t 0=some (w,()))(h2:q3m 600 w=some (c,0,())):qjm 600 t=some (c,()):=by
 unfold qjm
 simp only[h1,h2,y5]
theorem j1k{t:LI}(ht:Rg 255 t):qjm 600 t=some (zab t,()):=by
 have h0:=zvz ht 16 0 600 (by decide) (by decide)
 rw[q87]at h0
 refine fours_of h0 ?_
 have hw:=zvy t
 have j1:=(z5q (F:=600) (by decide) (low:=0) (from_:=0) (each:=4) (w:=zk4 t) (by decide) (by decide) (by decide) (j5d (m:=15) (q0g _ _) (by decide) fun j hj=>by have:=hw j hj;unfold okW at this;omega)).1 hw
 simp only[yp,yq]at j1
 unfold q3m zab
 simp only[and_self,if_true,j1,y5]
theorem zw0(t:LI){i:Nat}(hi:i<16):(z8o (zab t)).getD i 0=q3z 4 (q6m 4 (t.getD (i*4+3) 0) 16:Int):=by
 have e1:lv (zab t) (0+4*i) 4=(zk4 t).getD i 0:=qpp (low:=0) (by decide) (by decide) (by decide) (zvy t) hi
 rw[Nat.zero_add,zk4,q0d hi]at e1
 unfold z8o
 rw[q64 _ hi,e1]
def rI(r l:LI)(i:Nat):Nat:=q4w (fun j=>(r.getD j 0-l.getD i 0)*(r.getD j 0-l.getD i 0)) 8
theorem rI_lt(r l:LI)(i:Nat):rI r l i<8:=qpm _ (by decide)
def rT(r l:LI)(i:Nat):Int:=(r.getD (rI r l i) 0-l.getD i 0)*(r.getD (rI r l i) 0-l.getD i 0)
def rW(r l:LI):LI:=tab 16 fun i=>(rI r l i:Int)
def rS(r l:LI):Int:=sumN (rT r l) 16
def rB(A B:Int)(l:LI):LI:=qdk (A+B*2^8) 16 3 (rW (q5y A B) l)
theorem rW_ok(r l:LI):∀j,j<16→okW 3 (rW r l) j:=fun j hj=>by
 unfold okW rW
 rw[q0d hj]
 have:=rI_lt r l j
 omega
theorem rB_okb(A B:Int)(l:LI):Okb 8 (rB A B l):=⟨q5z _ _ _ _,qix _ _ _ _⟩
abbrev B8(x:Int):Prop:=0≤x∧x≤255
theorem ze6{r l:LI}(hr:Rg 255 r)(hl:Rg 255 l)(i:Nat):0≤rT r l i∧rT r l i≤255*255:=
 q88 (by have:=hr (rI r l i);have:=hl i;omega)
theorem rS_bound{r l:LI}(hr:Rg 255 r)(hl:Rg 255 l):0≤rS r l∧rS r l≤1100000:=by
 have:=q7u (n:=16) fun i _=>ze6 hr hl i
 unfold rS
 omega
theorem zy0{r l:LI}(hr:Rg 255 r)(h8:r.length=8)(hl:Rg 255 l)(A B less:Int)(best:LI):∀(d i k:Nat),i+d=16→d<k→
  q3r 600 k A B less best r (tab 16 (upT i fun i=>(rI r l i:Int))) (sumN (rT r l) i) l (i:Int)=some (A,B,less,best,rW r l,rS r l,()):=by
 intro d
 induction d with
 |zero=>
  intro i k h1 h2
  obtain⟨k,rfl⟩:∃k',k=k' +1:=⟨k-1,by omega⟩
  obtain rfl:i=16:=by omega
  rw[qhl]
  rfl
 |succ d ih=>
  intro i k h1 h2
  obtain⟨k,rfl⟩:∃k',k=k' +1:=⟨k-1,by omega⟩
  show q9k 600 (q3r 600 k) A B less best r _ _ l i=_
  unfold q9k
  have h3:(i:Int)<16:=by omega
  have nr:q1g 600 r (l.getD i 0)=some ((rI r l i:Int),()):=nearR_is h8 hr (hl i)
  have hlt:=rI_lt r l i
  have hlt' :((rI r l i:Nat):Int)<8:=by omega
  have gs:((tab 16 (upT i fun i=>(rI r l i:Int))).set i (rI r l i:Int)).getD i 0=(rI r l i:Int):=by
   rw[qz4 _ _ _ _ (by rw[q0g];omega),iP rfl]
  have b1:=hr (rI r l i)
  have b2:=hl i
  have b3:=q7u (n:=i) fun j _=>ze6 hr hl j
  have b4:=ze6 hr hl i
  have b5:(255*255:Int)*(i:Int)≤255*255*16:=Int.mul_le_mul_of_nonneg_left (by omega) (by decide)
  have e1:y0 .i64 (r.getD (rI r l i) 0-l.getD i 0)=r.getD (rI r l i) 0-l.getD i 0:=w64 (by omega) (by omega)
  have e2:y0 .i64 ((r.getD (rI r l i) 0-l.getD i 0)*(r.getD (rI r l i) 0-l.getD i 0))=rT r l i:=w64 (by unfold rT at b4;omega) (by unfold rT at b4;omega)
  have e3:y0 .i64 (sumN (rT r l) i+rT r l i)=sumN (rT r l) (i+1):=by
   rw[w64 (by omega) (by omega)]
   rfl
  simp only[h3,dT,cT,yc,yd,yb,nr,y5,gs,hlt',e1,e2,e3,q0j (show i<1000000000000 by omega)]
  have nx:=ih (i+1) k (by omega) (by omega)
  rw[←qes]at nx
  exact nx
theorem joinR{a b:Int}(ha:B8 a)(hb:B8 b){w:LI}(hl:w.length=16)(hw:∀j,j<16→okW 3 w j):q6w 600 a b w=some (qdk (a+b*2^8) 16 3 w,0,()):=by
 obtain⟨t1,t2,t3,t4⟩:=lowTwo ha hb
 have j1:=(z5q (F:=600) (by decide) (low:=a+b*2^8) (from_:=16) (each:=3) (w:=w) ⟨t2,t3⟩ (by decide) (by decide) (j5d (m:=7) hl (by decide) fun j hj=>by have:=hw j hj;unfold okW at this;omega)).1 hw
 simp only[yp]at j1
 have c1:¬a<0:=by have:=ha.1;omega
 have c2:¬255<a:=by have:=ha.2;omega
 have c3:¬b<0:=by have:=hb.1;omega
 have c4:¬255<b:=by have:=hb.2;omega
 unfold q6w
 simp only[c1,c2,c3,c4,dF,cF,and_self,if_true,t1,j1,y5]
theorem j5e(a b:Int):(q5y a b).length=8:=by
 unfold q5y
 rw[zuv]
 unfold zx7
 split<;>rfl
def errC(l b:LI):Int:=sumN (fun i=>((qay b).getD i 0-l.getD i 0)*((qay b).getD i 0-l.getD i 0)) 16
def RI(l:LI)(less:Int)(best:LI):Prop:=0≤less∧Okb 8 best∧errC l best=less
theorem rB_tells{A B:Int}(ha:B8 A)(hb:B8 B)(l:LI){i:Nat}(hi:i<16):(qay (rB A B l)).getD i 0=(q5y A B).getD (rI (q5y A B) l i) 0:=by
 have hl:0≤A+B*2^8∧A+B*2^8<2^16:=by have:=ha;have:=hb;omega
 have ok:=rW_ok (q5y A B) l
 have e0:(rB A B l).getD 0 0=A:=by
  rw[←zxw (b:=rB A B l) (q5z _ _ _ _) 0]
  exact qpo hl (by decide) (by decide) ok (by decide) (by have:=ha;omega) fun q hq=>by
   have:=q8x (x:=A) (v:=B) (m:=8) (by have:=ha;omega) q
   rw[Nat.mul_zero,Nat.zero_add,this,iP (by omega)]
 have e1:(rB A B l).getD 1 0=B:=by
  rw[←zxw (b:=rB A B l) (q5z _ _ _ _) 1]
  exact qpo hl (by decide) (by decide) ok (by decide) (by have:=hb;omega) fun q hq=>by
   have:=q8x (x:=A) (v:=B) (m:=8) (by have:=ha;omega) (8*1+q)
   rw[this,iN (by omega),show 8*1+q-8=q by omega]
 have e2:(qer (rB A B l)).getD i 0=(rI (q5y A B) l i:Int):=by
  rw[zuu _ hi]
  have:=qpp hl (by decide) (by decide) ok hi
  unfold rB
  rw[this]
  unfold rW
  rw[q0d hi]
 unfold qay
 rw[q64 _ hi,e0,e1,e2,yb]
theorem rB_err{A B:Int}(ha:B8 A)(hb:B8 B)(l:LI):errC l (rB A B l)=rS (q5y A B) l:=by
 unfold errC rS
 refine qz9 fun i hi=> ?_
 rw[rB_tells ha hb l hi]
 rfl
theorem tryR_of{A B less n:Int}{r l best w c:LI}{x y:Int}(h1:q20 600 x 255=some (A,()))(h2:q20 600 y 255=some (B,()))(h3:qe9 600 A B=some (r,()))
  (h4:q3r 600 600 A B less best r q1w 0 l 0=some (A,B,less,best,w,n,())) (h5:q6w 600 A B w=some (c,0,())):
  q1b 600 x y l less best=some (if less<0∨n<less then(n,c,())else(less,best,())):=by
 unfold q1b
 simp only[h1,h2,h3,h4,h5,y5]
 by_cases g1:less<0
 ·simp only[g1,dT,cT,true_or,if_true]
 ·by_cases g2:n<less
  ·simp only[g1,g2,dT,dF,cT,cF,or_true,if_true]
  ·simp only[g1,g2,dF,cF,or_self,if_false]
theorem tryR_is{l:LI}(hl:Rg 255 l)(x y less:Int)(best:LI):q1b 600 x y l less best=some (if less<0∨rS (q5y (qgn x) (qgn y)) l<less then(rS (q5y (qgn x) (qgn y)) l,rB (qgn x) (qgn y) l,())else(less,best,())):=by
 have h0:=zy0 (ze2 (q49 x) (q49 y)) (j5e _ _) hl (qgn x) (qgn y) less best 16 0 600 (by decide) (by decide)
 rw[q87]at h0
 exact tryR_of rfl rfl (j3z (F:=600) (by decide) (q49 x) (q49 y)) h0 (joinR (q49 x) (q49 y) (q0g _ _) (rW_ok _ _))
theorem qkn{l:LI}(hl:Rg 255 l)(x y:Int){less:Int}{best:LI}(h:less<0∨RI l less best):∃less' best',q1b 600 x y l less best=some (less',best',())∧RI l less' best' ∧(0≤less→less' ≤less)∧less' ≤rS (q5y (qgn x) (qgn y)) l:=by
 have hb:=rS_bound (ze2 (q49 x) (q49 y)) hl
 have e:=tryR_is hl x y less best
 by_cases g:less<0∨rS (q5y (qgn x) (qgn y)) l<less
 ·rw[iP g]at e
  exact⟨_,_,e,⟨hb.1,rB_okb _ _ _,rB_err (q49 x) (q49 y) l⟩,fun h0=>by omega,Int.le_refl _⟩
 ·rw[iN g]at e
  exact⟨_,_,e,h.resolve_left (by omega),fun _=>Int.le_refl _,by omega⟩
def minT(l:LI):Nat→Int
 |0=>255
 |n+1=>min (minT l n) (l.getD n 0)
def maxT(l:LI):Nat→Int
 |0=>0
 |n+1=>max (maxT l n) (l.getD n 0)
theorem zy1(l:LI):∀{n i:Nat},i<n→minT l n≤l.getD i 0
 |0,i,h=>by omega
 |n+1,i,h=>by
  show min (minT l n) (l.getD n 0)≤_
  by_cases hi:i=n
  ·subst hi;omega
  ·have:=zy1 l (n:=n) (i:=i) (by omega)
   omega
theorem zy2(l:LI):∀{n i:Nat},i<n→l.getD i 0≤maxT l n
 |0,i,h=>by omega
 |n+1,i,h=>by
  show _≤max (maxT l n) (l.getD n 0)
  by_cases hi:i=n
  ·subst hi;omega
  ·have:=zy2 l (n:=n) (i:=i) (by omega)
   omega
theorem j5f(l:LI):∀n,minT l n=255∨∃i,i<n∧l.getD i 0=minT l n
 |0=> .inl rfl
 |n+1=>by
  show min (minT l n) (l.getD n 0)=255∨∃i,i<n+1∧l.getD i 0=min (minT l n) (l.getD n 0)
  rcases j5f l n with h|⟨i,h1,h2⟩
  ·by_cases g:minT l n≤l.getD n 0
   ·exact .inl (by omega)
   ·exact .inr ⟨n,by omega,by omega⟩
  ·by_cases g:minT l n≤l.getD n 0
   ·exact .inr ⟨i,by omega,by omega⟩
   ·exact .inr ⟨n,by omega,by omega⟩
theorem j5g(l:LI):∀n,maxT l n=0∨∃i,i<n∧l.getD i 0=maxT l n
 |0=> .inl rfl
 |n+1=>by
  show max (maxT l n) (l.getD n 0)=0∨∃i,i<n+1∧l.getD i 0=max (maxT l n) (l.getD n 0)
  rcases j5g l n with h|⟨i,h1,h2⟩
  ·by_cases g:l.getD n 0≤maxT l n
   ·exact .inl (by omega)
   ·exact .inr ⟨n,by omega,by omega⟩
  ·by_cases g:l.getD n 0≤maxT l n
   ·exact .inr ⟨i,by omega,by omega⟩
   ·exact .inr ⟨n,by omega,by omega⟩
theorem zy3{t:LI}(tl:t.length=64){c:Nat}(hc:c<4)(eff:Int):∀(d i k:Nat),i+d=16→d<k→
  q71 600 k (c:Int) eff t (tab 16 (upT i fun i=>t.getD (i*4+c) 0)) (minT (colT t c) i) (maxT (colT t c) i) t (i:Int)=some ((c:Int),eff,t,colT t c,minT (colT t c) 16,maxT (colT t c) 16,()):=by
 intro d
 induction d with
 |zero=>
  intro i k h1 h2
  obtain⟨k,rfl⟩:∃k',k=k' +1:=⟨k-1,by omega⟩
  obtain rfl:i=16:=by omega
  rw[qhl]
  rfl
 |succ d ih=>
  intro i k h1 h2
  obtain⟨k,rfl⟩:∃k',k=k' +1:=⟨k-1,by omega⟩
  show qfj 600 (q71 600 k) c eff t _ _ _ t i=_
  unfold qfj
  have h3:(i:Int)<16:=by omega
  have h4:(c:Int)<4:=by omega
  have e:y7 (y8 4 (y9 (i*4) t)) c 0=t.getD (i*4+c) 0:=q2d (p:=t) (i:=i) hc
  have e2:(colT t c).getD i 0=t.getD (i*4+c) 0:=q0d (by omega)
  simp only[h3,h4,dT,cT,yc,yd,yb,e,q0j (show i<1000000000000 by omega)]
  have nx:=ih (i+1) k (by omega) (by omega)
  rw[←qes]at nx
  rw[show minT (colT t c) (i+1)=min (minT (colT t c) i) ((colT t c).getD i 0)from rfl,show maxT (colT t c) (i+1)=max (maxT (colT t c) i) ((colT t c).getD i 0)from rfl,e2]at nx
  exact nx
theorem zmz{t:LI}{c:Nat}(hc:c<4):∀(d i k:Nat) (w:LI),i+d=16→d<k→w.length=64→Rg 255 w→Rg 255 t→
  ∃w',q3q 600 k (c:Int) w t (i:Int)=some (w',())∧w'.length=64∧Rg 255 w' :=by
 intro d
 induction d with
 |zero=>
  intro i k w h1 h2 h3 h4 h5
  obtain⟨k,rfl⟩:∃k',k=k' +1:=⟨k-1,by omega⟩
  obtain rfl:i=16:=by omega
  exact⟨w,rfl,h3,h4⟩
 |succ d ih=>
  intro i k w h1 h2 h3 h4 h5
  obtain⟨k,rfl⟩:∃k',k=k' +1:=⟨k-1,by omega⟩
  have g3:(i:Int)<16:=by omega
  have g4:(c:Int)<4:=by omega
  have e:y7 (y8 4 (y9 (i*4) t)) c 0=t.getD (i*4+c) 0:=q2d (p:=t) (i:=i) hc
  obtain⟨w',q1,q2,q3⟩:=ih (i+1) k (w.set (i*4) (t.getD (i*4+c) 0)) (by omega) (by omega) (by rw[List.length_set];exact h3) (fun j=>by
   rw[qz4 _ _ _ _ (by omega)]
   split
   ·exact h5 _
   ·exact h4 j) h5
  refine⟨w',?_,q2,q3⟩
  show q9i 600 (q3q 600 k) c w t i=_
  unfold q9i
  simp only[g3,g4,dT,cT,yc,yd,yb,e,q0j (show i<1000000000000 by omega)]
  exact q1
theorem j1l{t w b:LI}{c:Int}(h1:q3q 600 600 c q12 t 0=some (w,()))(h2:q5h 600 4 w=some (b,0,()))(h3:b.length=8):q9j 600 t c=some (b.getD 0 0,()):=by
 unfold q9j
 simp only[h1,h2,h3,y5]
 rfl
theorem j1m{t:LI}(ht:Rg 255 t){c:Nat}(hc:c<4):∃v,q9j 600 t (c:Int)=some (v,())∧B8 v:=by
 have z:q12=tab 64 fun _=>0:=rfl
 obtain⟨w,h1,h2,h3⟩:=zmz (t:=t) hc 16 0 600 q12 (by decide) (by decide) rfl (by rw[z];exact qkk (by decide) fun _ _=>by decide) ht
 have hk4:Fmt 4:=⟨by decide,by decide⟩
 have h4:q5h 600 4 w=some (qdt 4 (scT 4 w),0,()):=qze hk4 h2 h3 (z90 h2 h3)
 have ok:=qrg (scT 4 w) hk4
 refine⟨_,j1l h1 h4 ok.2,ok.1.getD 0⟩
theorem z93{l:LI}(h:Rg 255 l):∀n,B8 (minT l n)
 |0=>(show B8 255 from⟨by decide,by decide⟩)
 |n+1=>by
  have h1:=z93 h n
  have h2:=h n
  show 0≤min (minT l n) (l.getD n 0)∧min (minT l n) (l.getD n 0)≤255
  have:=h1.1;have:=h1.2
  omega
theorem z94{l:LI}(h:Rg 255 l):∀n,B8 (maxT l n)
 |0=>(show B8 0 from⟨by decide,by decide⟩)
 |n+1=>by
  have h1:=z94 h n
  have h2:=h n
  show 0≤max (maxT l n) (l.getD n 0)∧max (maxT l n) (l.getD n 0)≤255
  have:=h1.1;have:=h1.2
  omega
theorem j1n{l:LI}(hl:Rg 255 l)(lo hi:Int){less:Int}{best:LI}(h:RI l less best):∃r,(∃b n,r=(b,())∧RI l n b∧n≤less)∧q5t 600 600 lo hi best l less 1=some r:=by
 have:=zns (N:=4) (by decide) (fun q (s:LI×Int) i=>q5t 600 q lo hi s.1 l s.2 i) (fun _ s=>RI l s.2 s.1∧s.2≤less) (fun r=>∃b n,r=(b,())∧RI l n b∧n≤less)
  (fun q i s hi' hs=>by
   obtain⟨s1,s2⟩:=hs
   by_cases h3:(i:Int)≤3
   ·obtain⟨a1,b1,e1,r1,m1,_⟩:=qkn hl (y0 .i64 (hi-i)) (y0 .i64 (lo+i)) (.inr s1)
    obtain⟨a2,b2,e2,r2,m2,_⟩:=qkn hl (y0 .i64 (lo+i)) (y0 .i64 (hi-i)) (.inr r1)
    obtain⟨a3,b3,e3,r3,m3,_⟩:=qkn hl (y0 .i64 (hi-i)) lo (.inr r2)
    obtain⟨a4,b4,e4,r4,m4,_⟩:=qkn hl hi (y0 .i64 (lo+i)) (.inr r3)
    have m1:=m1 s1.1
    have m2:=m2 r1.1
    have m3:=m3 r2.1
    have m4:=m4 r3.1
    refine⟨(b4,a4),⟨r4,by show a4≤less;omega⟩,?_⟩
    show qfk 600 (q5t 600 q) lo hi s.1 l s.2 i=_
    unfold qfk
    simp only[h3,dT,cT,e1,e2,e3,e4,y5,q0j (show i<1000000000000 by omega)]
   ·omega)
  (fun q s hs=>⟨_,⟨_,_,rfl,hs.1,hs.2⟩,rfl⟩) 1 (by decide) (s:=(best,less)) ⟨h,Int.le_refl _⟩ 600 (by decide)
 exact this
theorem ramp_of{t l b1 b2 b3:LI}{c eff lo hi v n1 n2 n3:Int}(h0:q71 600 600 c eff t q1w 255 0 t 0=some (c,eff,t,l,lo,hi,()))(hv:q9j 600 t c=some (v,()))
  (h1:q1b 600 v v l (-1) []=some (n1,b1,())) (h2:q1b 600 hi lo l n1 b1=some (n2,b2,())) (h3:q1b 600 lo hi l n2 b2=some (n3,b3,())):
  q5i 600 t c eff=if eff=2 then(q5t 600 600 lo hi b3 l n3 1).bind fun r=>some (r.1,())else some (b3,()):=by
 unfold q5i
 simp only[h0,hv,h1,h2,h3,y5]
 by_cases g:eff=2
 ·rw[iP g,beqT g]
  rfl
 ·rw[iN g,beqF g]
  rfl
theorem z62{t:LI}(tl:t.length=64)(ht:Rg 255 t){c:Nat}(hc:c<4)(eff:Int):∃b,q5i 600 t (c:Int) eff=some (b,())∧Okb 8 b∧0≤errC (colT t c) b∧errC (colT t c) b≤rS (q5y (maxT (colT t c) 16) (minT (colT t c) 16)) (colT t c):=by
 have hl:Rg 255 (colT t c):=zk1 ht c
 have h0:=zy3 tl hc eff 16 0 600 (by decide) (by decide)
 rw[q87]at h0
 obtain⟨v,hv,_⟩:=j1m ht hc
 obtain⟨n1,b1,e1,r1,_,_⟩:=qkn hl v v (less:= -1) (best:=[]) (.inl (by decide))
 obtain⟨n2,b2,e2,r2,m2,q2⟩:=qkn hl (maxT (colT t c) 16) (minT (colT t c) 16) (.inr r1)
 obtain⟨n3,b3,e3,r3,m3,_⟩:=qkn hl (minT (colT t c) 16) (maxT (colT t c) 16) (.inr r2)
 rw[zvo (z94 hl 16),zvo (z93 hl 16)]at q2
 have m3:=m3 r2.1
 have e:=ramp_of h0 hv e1 e2 e3
 by_cases g:eff=2
 ·rw[iP g]at e
  obtain⟨r,⟨b,n,rfl,hb,hn⟩,e4⟩:=j1n hl (minT (colT t c) 16) (maxT (colT t c) 16) r3
  rw[e4]at e
  refine⟨b,e,hb.2.1,?_,?_⟩
  ·rw[hb.2.2];exact hb.1
  ·rw[hb.2.2];omega
 ·rw[iN g]at e
  refine⟨b3,e,r3.2.1,?_,?_⟩
  ·rw[r3.2.2];exact r3.1
  ·rw[r3.2.2];omega
def zo0(x:Int):Int:=max 0 (min x 127)
theorem qgq(x:Int):0≤zo0 x∧zo0 x≤127:=by unfold zo0;omega
def eV(bit:Nat)(v:Int):Int:=zo0 ((v+1-bit)/2)
def dE(bit:Nat)(v:Int):Int:=(2*eV bit v+bit-v)*(2*eV bit v+bit-v)
def nE(x:LI)(bit c:Nat):Int:=sumN (fun c=>dE bit (x.getD c 0)) c
theorem ze7{bit:Nat}(hb:bit<2){v:Int}(hv:B8 v):0≤dE bit v∧dE bit v≤300*300:=by
 have:=qgq ((v+1-bit)/2)
 have:=hv
 exact q88 (x:=2*eV bit v+bit-v) (m:=300) (by unfold eV;omega)
theorem zs6{x:LI}(hx:Rg 255 x){bit:Nat}(hb:bit<2){c:Nat}(hc:c≤4):0≤nE x bit c∧nE x bit c≤360000:=by
 have:=q7u (n:=c) fun j _=>ze7 hb (hx j)
 unfold nE
 omega
def nT(x:LI)(bit c:Nat)(j:Nat):Int:=if j<bit then nE x j 4 else if j=bit then nE x bit c else 0
theorem nT_set{x:LI}{bit c:Nat}(hb:bit<2):(tab 2 (nT x bit c)).set bit (nE x bit (c+1))=tab 2 (nT x bit (c+1)):=by
 rw[q4u]
 refine q03 fun j hj=> ?_
 unfold nT
 by_cases h:j=bit
 ·subst h;rw[iP rfl,iN (by omega),iP rfl]
 ·rw[iN h,iN h,iN h]
theorem nT_next{x:LI}{bit:Nat}:tab 2 (nT x bit 4)=tab 2 (nT x (bit+1) 0):=q03 fun j hj=>by
 unfold nT
 by_cases h:j<bit
 ·rw[iP h,iP (by omega)]
 ·rw[iN h]
  by_cases h2:j=bit
  ·subst h2;rw[iP rfl,iP (by omega)]
  ·rw[iN h2,iN (by omega)]
   by_cases h3:j=bit+1
   ·rw[iP h3];rfl
   ·rw[iN h3]
def eT(x:LI)(j:Nat):Int:=eV (j/4) (x.getD (j%4) 0)
theorem j1o{x:LI}(hx:Rg 255 x)(x1:LI)(x5:Int){bit:Nat}(hb:bit<2):∀(d c k:Nat),c+d=4→d<k→
  qbb 600 k x x1 (tab 8 (upR bit c (eT x))) (tab 2 (nT x bit c)) (bit:Int) x5 x (c:Int)=some (x,x1,tab 8 (upR bit 4 (eT x)),tab 2 (nT x bit 4),x5,()):=by
 intro d
 induction d with
 |zero=>
  intro c k h1 h2
  obtain⟨k,rfl⟩:∃k',k=k' +1:=⟨k-1,by omega⟩
  obtain rfl:c=4:=by omega
  rfl
 |succ d ih=>
  intro c k h1 h2
  obtain⟨k,rfl⟩:∃k',k=k' +1:=⟨k-1,by omega⟩
  show qig 600 (qbb 600 k) x x1 _ _ bit x5 x c=_
  unfold qig
  have h4:(c:Int)<4:=by omega
  have h2' :(bit:Int)<2:=by omega
  have hv:=hx c
  have eb:=qgq ((x.getD c 0+1-bit)/2)
  have w1:y0 .i64 (x.getD c 0+1)=x.getD c 0+1:=w64 (by omega) (by omega)
  have w2:y0 .i64 (x.getD c 0+1-bit)=x.getD c 0+1-bit:=w64 (by omega) (by omega)
  have w3:y0 .i64 (yv (x.getD c 0+1-bit) 2)=(x.getD c 0+1-bit)/2:=by
   rw[q3s (by omega),w64 (by omega) (by omega)]
  have cl:q20 600 ((x.getD c 0+1-bit)/2) 127=some (eV bit (x.getD c 0),()):=rfl
  have ge:eT x (bit*4+c)=eV bit (x.getD c 0):=by
   unfold eT
   rw[(mul4 bit c (by omega)).1,(mul4 bit c (by omega)).2]
  have s1:(tab 8 (upR bit c (eT x))).set (bit*4+c) (eV bit (x.getD c 0))=tab 8 (upR bit (c+1) (eT x)):=by rw[←ge,zxa]
  have g1:(tab 8 (upR bit (c+1) (eT x))).getD (bit*4+c) 0=eV bit (x.getD c 0):=by
   rw[q0d (by omega)]
   unfold upR
   rw[iP (by omega),ge]
  have w4:y0 .i64 (2*eV bit (x.getD c 0))=2*eV bit (x.getD c 0):=w64 (by unfold eV;omega) (by unfold eV;omega)
  have w5:y0 .i64 (2*eV bit (x.getD c 0)+bit)=2*eV bit (x.getD c 0)+bit:=w64 (by unfold eV;omega) (by unfold eV;omega)
  have w6:y0 .i64 (2*eV bit (x.getD c 0)+bit-x.getD c 0)=2*eV bit (x.getD c 0)+bit-x.getD c 0:=w64 (by unfold eV;omega) (by unfold eV;omega)
  have db:=ze7 hb hv
  have w7:y0 .i64 ((2*eV bit (x.getD c 0)+bit-x.getD c 0)*(2*eV bit (x.getD c 0)+bit-x.getD c 0))=dE bit (x.getD c 0):=w64 (by unfold dE at db;omega) (by unfold dE at db;omega)
  have g2:(tab 2 (nT x bit c)).getD bit 0=nE x bit c:=by
   rw[q0d hb]
   unfold nT
   rw[iN (by omega),iP rfl]
  have nb:=zs6 hx hb (show c≤4 by omega)
  have w8:y0 .i64 (nE x bit c+dE bit (x.getD c 0))=nE x bit (c+1):=by
   rw[w64 (by omega) (by omega)]
   rfl
  simp only[h4,h2',dT,cT,yc,yd,yb,w1,w2,w3,cl,y5,s1,g1,w4,w5,w6,w7,g2,w8,nT_set hb,q0j (show c<1000000000000 by omega)]
  exact ih (c+1) k (by omega) (by omega)
theorem j1p{x:LI}(hx:Rg 255 x)(x1:LI):∀(d b k:Nat),b+d=2→d<k→
  q8q 600 k x x1 (tab 8 (upR b 0 (eT x))) (tab 2 (nT x b 0)) (b:Int)=some (x1,tab 8 (eT x),tab 2 (fun j=>nE x j 4),()):=by
 intro d
 induction d with
 |zero=>
  intro b k h1 h2
  obtain⟨k,rfl⟩:∃k',k=k' +1:=⟨k-1,by omega⟩
  obtain rfl:b=2:=by omega
  rw[zxb _ (by omega),q03 (g:=nT x 2 0) (f:=fun j=>nE x j 4) fun j hj=>by unfold nT;rw[iP hj]]
  rfl
 |succ d ih=>
  intro b k h1 h2
  obtain⟨k,rfl⟩:∃k',k=k' +1:=⟨k-1,by omega⟩
  show qih 600 (q8q 600 k) x x1 _ _ b=_
  unfold qih
  have h3:(b:Int)<2:=by omega
  have e:=j1o hx x1 b (show b<2 by omega) 4 0 600 (by omega) (by omega)
  rw[show((0:Nat):Int)=0 from rfl]at e
  simp only[h3,dT,cT,e,y5,q0j (show b<1000000000000 by omega)]
  rw[zrf,nT_next]
  exact ih (b+1) k (by omega) (by omega)
def endB(x:LI):Nat:=if nE x 1 4<nE x 0 4 then 1 else 0
theorem zs7(x:LI):endB x<2:=by unfold endB;split<;>omega
def endL(x:LI):LI:=tab 4 fun c=>eV (endB x) (x.getD c 0)
theorem qzh(x:LI):(endL x).length=4:=q0g _ _
theorem zs8(x:LI):Rg 127 (endL x):=qkk (by decide) fun c _=>qgq _
theorem end_of{x l:LI}{a b:Int}(h:q8q 600 600 x [(0:Int),(0:Int),(0:Int),(0:Int)] q1d [(0:Int),(0:Int)] 0=some ([(0:Int),(0:Int),(0:Int),(0:Int)],l,[a,b],())):
  qga 600 x=some (if b<a then(y8 4 (y9 4 l),1,())else(y8 4 l,0,())):=by
 unfold qga
 simp only[h,y5]
 show cond (decide (b<a)) _ _=_
 by_cases g:b<a
 ·rw[iP g];simp only[g,dT,cT]
 ·rw[iN g];simp only[g,dF,cF]
theorem j00{x:LI}(hx:Rg 255 x):qga 600 x=some (endL x,(endB x:Int),()):=by
 have h:=j1p hx [(0:Int),(0:Int),(0:Int),(0:Int)] 2 0 600 (by decide) (by decide)
 have z2:tab 2 (nT x 0 0)=[(0:Int),(0:Int)]:=rfl
 rw[zrg,z2]at h
 have e:=end_of (l:=tab 8 (eT x)) (a:=nE x 0 4) (b:=nE x 1 4) h
 have p0:=qaq (N:=8) (i:=0) (m:=4) (g:=eT x) (by omega)
 have p1:=qaq (N:=8) (i:=1) (m:=4) (g:=eT x) (by omega)
 rw[Nat.zero_mul,List.drop_zero]at p0
 rw[Nat.one_mul]at p1
 rw[e,p0,p1]
 unfold endL endB
 have q0:tab 4 (fun c=>eT x (0+c))=tab 4 fun c=>eV 0 (x.getD c 0):=q03 fun c hc=>by unfold eT;rw[show(0+c)/4=0 by omega,show(0+c)%4=c by omega]
 have q1:tab 4 (fun c=>eT x (4+c))=tab 4 fun c=>eV 1 (x.getD c 0):=q03 fun c hc=>by unfold eT;rw[show(4+c)/4=1 by omega,show(4+c)%4=c by omega]
 rw[q0,q1]
 split<;>rfl
theorem j5h{x:LI}(hx:Rg 255 x){p:Nat}(hp:p<2)(h:∀c,c<4→x.getD c 0%2=(p:Int)):∀c,c<4→2*(endL x).getD c 0+(endB x:Int)=x.getD c 0:=by
 have ex:∀c,c<4→2*eV p (x.getD c 0)+p-x.getD c 0=0:=fun c hc=>by
  have:=hx c
  have:=h c hc
  unfold eV zo0
  omega
 have np:nE x p 4=0:=by
  unfold nE
  refine(qkm fun c hc=>(ze7 hp (hx c)).1).2 fun c hc=> ?_
  unfold dE
  rw[ex c hc]
  rfl
 have other:p=1→0<nE x 0 4:=fun e=>by
  have nb:=zs6 hx (bit:=0) (by decide) (c:=4) (by decide)
  have hne:nE x 0 4≠0:=fun h0=>by
   have:=(qkm (n:=4) fun c hc=>(ze7 (bit:=0) (by decide) (hx c)).1).1 h0 0 (by decide)
   unfold dE at this
   rw[sq_zero]at this
   have h1:=h 0 (by decide)
   omega
  omega
 have eb:endB x=p:=by
  unfold endB
  by_cases e:p=1
  ·subst e
   rw[iP (by have:=other rfl;omega)]
  ·have e:p=0:=by omega
   subst e
   rw[iN (by have:=zs6 hx (bit:=1) (by decide) (c:=4) (by decide);omega)]
 intro c hc
 unfold endL
 rw[q0d hc,eb]
 have:=ex c hc
 omega
structure SixOk (ends more:LI):Prop where
 el:ends.length=8
 er:Rg 127 ends
 ml:more.length=2
 mr:Rg 1 more
def sixR(ends more:LI):LI:=tab 64 (qyh (endV ends more) fun c=>endV ends more (4+c))
theorem sixR_len(ends more:LI):(sixR ends more).length=64:=q0g _ _
theorem j5i(ends more:LI):Rg 255 (sixR ends more):=qkk (by decide) fun j hj=>zrm (n:=4) (qpi _ _ _) (qpi _ _ _) (by decide) (by omega)
def sixI(t r:LI)(i:Nat):Nat:=q4w (fun j=>farV 4 (rowP t i) (rowP r j)) 16
theorem zy4(t r:LI)(i:Nat):sixI t r i<16:=qpm _ (by decide)
def sixW(t r:LI):LI:=tab 16 fun i=>(sixI t r i:Int)
theorem j1q{t r:LI}(hr:Rg 255 r)(h64:r.length=64)(ht:Rg 255 t)(a b:LI):∀(d i k:Nat),i+d=16→d<k→
  q8r 600 k a b r (tab 16 (upT i fun i=>(sixI t r i:Int))) t (i:Int)=some (a,b,sixW t r,()):=by
 intro d
 induction d with
 |zero=>
  intro i k h1 h2
  obtain⟨k,rfl⟩:∃k',k=k' +1:=⟨k-1,by omega⟩
  obtain rfl:i=16:=by omega
  rw[qhl]
  rfl
 |succ d ih=>
  intro i k h1 h2
  obtain⟨k,rfl⟩:∃k',k=k' +1:=⟨k-1,by omega⟩
  show qii 600 (q8r 600 k) a b r _ t i=_
  unfold qii
  have h3:(i:Int)<16:=by omega
  have nr:q18 600 r (y8 4 (y9 (i*4) t))=some ((sixI t r i:Int),()):=nearS_is h64 hr (q5b (by decide) ht i)
  simp only[h3,dT,cT,yc,yd,yb,nr,y5,q0j (show i<1000000000000 by omega)]
  have nx:=ih (i+1) k (by omega) (by omega)
  rw[←qes]at nx
  exact nx
def zw1(w:LI):LI:=tab 16 fun i=>15-w.getD i 0
theorem j1r{w:LI}(hw:∀i,i<16→0≤w.getD i 0∧w.getD i 0<16)(a b:LI):∀(d i k:Nat),i+d=16→d<k→
  q6r 600 k a b (tab 16 fun j=>if j<i then 15-w.getD j 0 else w.getD j 0) w (i:Int)=some (a,b,zw1 w,()):=by
 intro d
 induction d with
 |zero=>
  intro i k h1 h2
  obtain⟨k,rfl⟩:∃k',k=k' +1:=⟨k-1,by omega⟩
  obtain rfl:i=16:=by omega
  rw[q03 (g:=fun j=>if j<16 then 15-w.getD j 0 else w.getD j 0) (f:=fun j=>15-w.getD j 0) fun j hj=>iP hj]
  rfl
 |succ d ih=>
  intro i k h1 h2
  obtain⟨k,rfl⟩:∃k',k=k' +1:=⟨k-1,by omega⟩
  show qij 600 (q6r 600 k) a b _ w i=_
  unfold qij
  have h3:(i:Int)<16:=by omega
  have hi:=hw i (by omega)
  have w1:y0 .i64 (15-w.getD i 0)=15-w.getD i 0:=w64 (by omega) (by omega)
  have s1:(tab 16 fun j=>if j<i then 15-w.getD j 0 else w.getD j 0).set i (15-w.getD i 0)=tab 16 fun j=>if j<i+1 then 15-w.getD j 0 else w.getD j 0:=by
   rw[q4u]
   refine q03 fun j hj=> ?_
   by_cases h:j=i
   ·subst h;rw[iP rfl,iP (by omega)]
   ·rw[iN h]
    by_cases h' :j<i
    ·rw[iP h',iP (by omega)]
    ·rw[iN h',iN (by omega)]
  simp only[h3,dT,cT,yc,yd,yb,w1,s1,q0j (show i<1000000000000 by omega)]
  exact ih (i+1) k (by omega) (by omega)
theorem okU_of{ends more w:LI}(h:SixOk ends more)(hw:∀i,i<16→0≤w.getD i 0∧w.getD i 0<16)(h0:w.getD 0 0<8):okU ends more w 26=true:=by
 unfold okU
 rw[List.all_eq_true]
 intro t ht
 have ht:=List.mem_range.1 ht
 have key:0≤sV ends more w t∧sV ends more w t<2^sN t:=by
  unfold sV sN
  by_cases h8:t<8
  ·rw[iP h8,iP h8]
   have hr:=h.er (t%2*4+t/2)
   omega
  rw[iN h8,iN h8]
  by_cases h10:t<10
  ·rw[iP h10,iP h10]
   have hr:=h.mr (t-8)
   omega
  rw[iN h10,iN h10]
  have hi:=hw (t-10) (by omega)
  by_cases ht10:t=10
  ·subst ht10
   rw[iP rfl]
   exact⟨(hw 0 (by decide)).1,h0⟩
  ·rw[iN ht10]
   omega
 simpa[okS,okV]using key
theorem j5j{m:Int}(hm:m≤9000000000000000000){l:LI}(h:Rg m l):∀x∈l,IntKind.i64.has x:=by
 intro x hx
 obtain⟨i,hi,rfl⟩:=List.getElem_of_mem hx
 have hr:=h i
 rw[ye,yj hi]at hr
 simp only[wc]at hr
 exact zzv (by omega)
theorem j01{ends more w:LI}(h:SixOk ends more)(hw:∀i,i<16→0≤w.getD i 0∧w.getD i 0<16)(wl:w.length=16)(h0:w.getD 0 0<8):q4g 600 ends more w=some (sL ends more w 26,0,()):=by
 have h1:=zzp (ends:=ends) (more:=more) (which:=w) (j5j (by decide) h.er) (j5j (by decide) h.mr) (j5j (m:=16) (by decide) fun j=>by
  by_cases hj:j<16
  ·have:=hw j hj
   omega
  ·rw[qpj (l:=w) (by omega)]
   decide)
 rw[h1,iP (okU_of h hw h0)]
theorem zw2{ends more w:LI}(h:SixOk ends more)(hw:∀i,i<16→0≤w.getD i 0∧w.getD i 0<16)(h0:w.getD 0 0<8):qa5 (sL ends more w 26)=tab 64 fun j=>mx (endV ends more (j%4)) (endV ends more (4+j%4)) (w.getD (j/4) 0) 4:=by
 have h1:=j4l (okU_of h hw h0)
 have h2:=qz5 (b:=sL ends more w 26) (q78 _ _ _ qdl 26) (znx _ _ _)
 rw[h1]at h2
 exact((Prod.mk.inj (Option.some.inj h2)).1).symm
theorem sL_okb(ends more w:LI):Okb 16 (sL ends more w 26):=⟨q78 _ _ _ qdl 26,znx _ _ _⟩
def z95(e:LI):LI:=y8 4 (y9 4 e)++y8 4 e
theorem zk5{e:LI}(hl:e.length=8){j:Nat}(hj:j<8):(z95 e).getD j 0=e.getD (if j<4 then 4+j else j-4) 0:=by
 have l1:(y8 4 (y9 4 e)).length=4:=by simp[hl]
 unfold z95
 by_cases h:j<4
 ·rw[iP h,ye,yg (by omega),←ye]
  exact(z5s e h).symm
 ·rw[iN h,ye,yz (by omega),l1,←ye]
  have:=z5s e (a:=0) (c:=j-4) (m:=4) (by omega)
  rw[List.drop_zero,Nat.zero_add]at this
  exact this.symm
theorem swap_ok{ends:LI}{m0 m1:Int}(h:SixOk ends [m0,m1]):SixOk (z95 ends) [m1,m0]:=by
 refine⟨by simp[z95,h.el],fun j=> ?_,rfl,fun j=> ?_⟩
 ·by_cases hj:j<8
  ·rw[zk5 h.el hj]
   exact h.er _
  ·rw[qpj (l:=z95 ends) (by simp[z95,h.el];omega)]
   decide
 ·have h0:=h.mr 0
  have h1:=h.mr 1
  rcases j with _|_|j
  ·exact h1
  ·exact h0
  ·rw[qpj (by simp)]
   decide
theorem six_of{t ends r w:LI}{m0 m1:Int}(el:ends.length=8)(h1:qg4 600 ends [m0,m1]=some (tab 8 (endV ends [m0,m1]),()))(h2:qb6 600 (y8 4 (tab 8 (endV ends [m0,m1]))) (y8 4 (y9 4 (tab 8 (endV ends [m0,m1]))))=some (r,()))
  (h3:q8r 600 600 ends [m0,m1] r q1w t 0=some (ends,[m0,m1],w,())) {c w' :LI}
  (h4:8≤w.getD 0 0→q6r 600 600 (z95 ends) [m1,m0] w w 0=some (z95 ends,[m1,m0],w',())∧q4g 600 (z95 ends) [m1,m0] w' =some (c,0,())) (h5:¬8≤w.getD 0 0→q4g 600 ends [m0,m1] w=some (c,0,())):
  qct 600 t ends [m0,m1]=some (c,()):=by
 have d8:∀(x:LI),x.length=4→y9 8 (((y8 0 ends)++x)++y9 4 ends)=[]:=fun x hx=>by simp[hx,el]
 have t4:∀(x:LI),x.length=4→y8 4 (((y8 0 ends)++x)++y9 4 ends)=x:=fun x hx=>by simp[←hx]
 have l1:(y8 4 (y9 4 ends)).length=4:=by simp[el]
 unfold qct
 simp only[h1,h2,h3,y5]
 by_cases g:8≤w.getD 0 0
 ·obtain⟨a,b⟩:=h4 g
  simp only[g,dT,cT,d8 _ l1,t4 _ l1,List.append_nil]
  show(q6r 600 600 (z95 ends) [m1,m0] w w 0).bind _=_
  rw[a]
  simp only[y5,b]
 ·simp only[g,dF,cF,h5 g,y5]
theorem mem2{l:LI}(h:l.length=2):l=[l.getD 0 0,l.getD 1 0]:=by
 match l,h with
 |[a,b],_=>rfl
theorem j02{t:LI}(ht:Rg 255 t){ends more:LI}(h:SixOk ends more):∃b,qct 600 t ends more=some (b,())∧Okb 16 b∧∀j,j<64→(qa5 b).getD j 0=(sixR ends more).getD (sixI t (sixR ends more) (j/4)*4+j%4) 0:=by
 obtain⟨m0,m1,rfl⟩:∃m0 m1,more=[m0,m1]:=⟨_,_,mem2 h.ml⟩
 have h1:=Ends_is ends [m0,m1] h.el
 obtain⟨r1,r2⟩:=rows8 ends [m0,m1]
 have h2:qb6 600 (y8 4 (tab 8 (endV ends [m0,m1]))) (y8 4 (y9 4 (tab 8 (endV ends [m0,m1]))))=some (sixR ends [m0,m1],()):=by
  rw[r1,r2]
  exact(Ramp9_is (fun c=>qpi _ _ _) (fun c=>qpi _ _ _)).1
 have h3:=j1q (j5i ends [m0,m1]) (sixR_len _ _) ht ends [m0,m1] 16 0 600 (by decide) (by decide)
 rw[q87]at h3
 have wi:∀i,i<16→(sixW t (sixR ends [m0,m1])).getD i 0=(sixI t (sixR ends [m0,m1]) i:Int):=fun i hi=>q0d hi
 have wb:∀i,i<16→0≤(sixW t (sixR ends [m0,m1])).getD i 0∧(sixW t (sixR ends [m0,m1])).getD i 0<16:=fun i hi=>by
  rw[wi i hi]
  have:=zy4 t (sixR ends [m0,m1]) i
  omega
 have rr:∀j,j<64→(sixR ends [m0,m1]).getD (sixI t (sixR ends [m0,m1]) (j/4)*4+j%4) 0=mx (endV ends [m0,m1] (j%4)) (endV ends [m0,m1] (4+j%4)) (sixI t (sixR ends [m0,m1]) (j/4):Int) 4:=fun j hj=>by
  have hlt:=zy4 t (sixR ends [m0,m1]) (j/4)
  generalize sixI t (sixR ends [m0,m1]) (j/4)=q at hlt⊢
  unfold sixR
  rw[q0d (by omega)]
  unfold qyh
  rw[show(q*4+j%4)%4=j%4 by omega,show(q*4+j%4)/4=q by omega]
 by_cases g:8≤(sixW t (sixR ends [m0,m1])).getD 0 0
 ·have so:=swap_ok h
  have tb:∀i,i<16→0≤(zw1 (sixW t (sixR ends [m0,m1]))).getD i 0∧(zw1 (sixW t (sixR ends [m0,m1]))).getD i 0<16:=fun i hi=>by
   unfold zw1
   rw[q0d hi]
   have:=wb i hi
   omega
  have t0:(zw1 (sixW t (sixR ends [m0,m1]))).getD 0 0<8:=by
   unfold zw1
   rw[q0d (by decide)]
   omega
  have h4:=j1r wb (z95 ends) [m1,m0] 16 0 600 (by decide) (by decide)
  rw[q03 (g:=fun j=>if j<0 then 15-(sixW t (sixR ends [m0,m1])).getD j 0 else(sixW t (sixR ends [m0,m1])).getD j 0) (f:=fun j=>(sixW t (sixR ends [m0,m1])).getD j 0) fun j hj=>iN (by omega),←qye (show(sixW t (sixR ends [m0,m1])).length=16 from q0g _ _)]at h4
  refine⟨_,six_of h.el h1 h2 h3 (fun _=>⟨h4,j01 so tb (q0g _ _) t0⟩) (fun n=>absurd g n),sL_okb _ _ _,fun j hj=> ?_⟩
  rw[zw2 so tb t0,q0d hj,rr j hj]
  have hlt:=zy4 t (sixR ends [m0,m1]) (j/4)
  have e1:(zw1 (sixW t (sixR ends [m0,m1]))).getD (j/4) 0=((15-sixI t (sixR ends [m0,m1]) (j/4):Nat):Int):=by
   unfold zw1
   rw[q0d (by omega),wi _ (by omega)]
   omega
  have e2:endV (z95 ends) [m1,m0] (j%4)=endV ends [m0,m1] (4+j%4):=by
   unfold endV
   rw[zk5 h.el (by omega),iP (by omega),show j%4/4=0 by omega,show(4+j%4)/4=1 by omega]
   rfl
  have e3:endV (z95 ends) [m1,m0] (4+j%4)=endV ends [m0,m1] (j%4):=by
   unfold endV
   rw[zk5 h.el (by omega),iN (by omega),show j%4/4=0 by omega,show(4+j%4)/4=1 by omega,show 4+j%4-4=j%4 by omega]
   rfl
  rw[e1,e2,e3,←mx_turn _ _ hlt]
 ·refine⟨_,six_of (w' :=[]) h.el h1 h2 h3 (fun n=>absurd n g) (fun _=>j01 h wb (q0g _ _) (by omega)),sL_okb _ _ _,fun j hj=> ?_⟩
  rw[zw2 h wb (by omega),q0d hj,rr j hj,wi _ (by omega)]
theorem j5k{ends more:LI}(h:SixOk ends more)(i:Nat){v:Int}(hv:0≤v∧v≤127):SixOk (ends.set i v) more:=
 ⟨by rw[List.length_set];exact h.el,fun j=>by
  by_cases hi:i<ends.length
  ·rw[qz4 _ _ _ _ hi]
   split
   ·exact hv
   ·exact h.er j
  ·rw[List.set_eq_of_length_le (by omega)]
   exact h.er j,h.ml,h.mr⟩
theorem six_more{ends more:LI}(h:SixOk ends more)(i:Nat){v:Int}(hv:0≤v∧v≤1):SixOk ends (more.set i v):=
 ⟨h.el,h.er,by rw[List.length_set];exact h.ml,fun j=>by
  by_cases hi:i<more.length
  ·rw[qz4 _ _ _ _ hi]
   split
   ·exact hv
   ·exact h.mr j
  ·rw[List.set_eq_of_length_le (by omega)]
   exact h.mr j⟩
section
variable {t:LI} (tl:t.length=64) (tr:Rg 255 t)
include tl tr
abbrev S6:=LI×Int×LI×LI
def z04(t:LI)(n:Int)(s:S6):Prop:=InvB 6 t s.1 s.2.1∧s.2.1≤n∧SixOk s.2.2.1 s.2.2.2
theorem show6{n:Int}{b:LI}{m:Int}(hI:InvB 6 t b m)(hm:m≤n){ends more:LI}(h:SixOk ends more):∃c f b' n',qct 600 t ends more=some (c,())∧q0o 600 b 6 t m c=some (f,6,t,b',n',())∧InvB 6 t b' n' ∧n' ≤n∧n' ≤m∧n' ≤q82 6 c t∧
  ∀j,j<64→(qa5 c).getD j 0=(sixR ends more).getD (sixI t (sixR ends more) (j/4)*4+j%4) 0:=by
 obtain⟨c,e1,ok,hd⟩:=j02 tr h
 obtain⟨f,b',n',e2,i1,m1,m2⟩:=qzg fmt6 tl tr hI (show Okb (q26 6) c from ok)
 exact⟨c,f,b',n',e1,e2,i1,by omega,m1,m2,hd⟩
theorem zy5{n:Int}{s:S6}(hs:z04 t n s)(eff x7 x9 x11:Int)(x10:Bool){kk:Nat}(hkk:kk<8):∃r,(∃s',z04 t n s' ∧r=(s'.1,(6:Int),t,s'.2.1,eff,s'.2.2.1,s'.2.2.2,x7,x9,x10,x11,()))∧
  q1m 600 600 s.1 6 t s.2.1 eff s.2.2.1 s.2.2.2 x7 (kk:Int) x9 x10 x11 [(1:Int),(-(1:Int))] 0=some r:=by
 refine qaz (N:=2) (by decide) (fun q (s:S6) i=>q1m 600 q s.1 6 t s.2.1 eff s.2.2.1 s.2.2.2 x7 (kk:Int) x9 x10 x11 [(1:Int),(-(1:Int))] i) (fun _ s=>z04 t n s)
  (fun r=>∃s',z04 t n s' ∧r=(s'.1,(6:Int),t,s'.2.1,eff,s'.2.2.1,s'.2.2.2,x7,x9,x10,x11,())) (fun q i s hi hs=> ?_) (fun q s hs=>⟨_,⟨s,hs,rfl⟩,rfl⟩) hs
 have h3:(i:Int)<2:=by omega
 obtain⟨i1,i2,i3⟩:=hs
 have d1:y0 .i64 (yv (kk:Int) 4)=((kk/4:Nat):Int):=by
  rw[q3s (by omega),w64 (by omega) (by omega)]
  omega
 have d2:yu (kk:Int) 4=((kk%4:Nat):Int):=by
  rw[tmod_nonneg (by omega)]
  omega
 have d3:((kk/4:Nat):Int)<2:=by omega
 have d4:((kk%4:Nat):Int)<4:=by omega
 have d5:kk/4*4+kk%4=kk:=by omega
 obtain⟨c,f,b',n',e1,e2,j1,j2,_⟩:=show6 tl tr i1 i2 (j5k i3 kk (qgq (y0 .i64 (y7 s.2.2.1 kk 0+y7 [(1:Int),(-(1:Int))] i 0))))
 have cl:q20 600 (y0 .i64 (y7 s.2.2.1 kk 0+y7 [(1:Int),(-(1:Int))] i 0)) 127=some (zo0 (y0 .i64 (y7 s.2.2.1 kk 0+y7 [(1:Int),(-(1:Int))] i 0)),()):=rfl
 show∃s',z04 t n s' ∧q52 600 (q1m 600 q) s.1 6 t s.2.1 eff s.2.2.1 s.2.2.2 x7 (kk:Int) x9 x10 x11 [(1:Int),(-(1:Int))] (i:Int)=_
 unfold q52
 simp only[h3,d1,d2,d3,d4,d5,dT,cT,yc,yd,yb,cl,e1,e2,y5,q0j (show i<1000000000000 by omega)]
 cases f
 ·exact⟨(b',n',s.2.2.1,s.2.2.2),⟨j1,j2,i3⟩,rfl⟩
 ·exact⟨(b',n',_,s.2.2.2),⟨j1,j2,j5k i3 kk (qgq _)⟩,rfl⟩
theorem zy6{n:Int}{s:S6}(hs:z04 t n s)(eff x7 x8:Int)(x9:Bool):∃r,(∃s',z04 t n s' ∧r=(s'.1,(6:Int),t,s'.2.1,eff,s'.2.2.1,s'.2.2.2,x7,x8,x9,()))∧
  q1n 600 600 s.1 6 t s.2.1 eff s.2.2.1 s.2.2.2 x7 x8 x9 0=some r:=by
 refine qaz (N:=8) (by decide) (fun q (s:S6) i=>q1n 600 q s.1 6 t s.2.1 eff s.2.2.1 s.2.2.2 x7 x8 x9 i) (fun _ s=>z04 t n s)
  (fun r=>∃s',z04 t n s' ∧r=(s'.1,(6:Int),t,s'.2.1,eff,s'.2.2.1,s'.2.2.2,x7,x8,x9,())) (fun q i s hi hs=> ?_) (fun q s hs=>⟨_,⟨s,hs,rfl⟩,rfl⟩) hs
 have h3:(i:Int)<8:=by omega
 obtain⟨r,⟨s',hs',rfl⟩,e⟩:=zy5 tl tr hs eff x7 x8 i x9 hi
 refine⟨s',hs',?_⟩
 show q53 600 (q1n 600 q) s.1 6 t s.2.1 eff s.2.2.1 s.2.2.2 x7 x8 x9 (i:Int)=_
 unfold q53
 simp only[h3,dT,cT,e,y5,q0j (show i<1000000000000 by omega)]
theorem zy7{n:Int}{s:S6}(hs:z04 t n s)(eff x7 x8:Int)(x9:Bool):∃r,(∃s',z04 t n s' ∧r=(s'.1,(6:Int),t,s'.2.1,eff,s'.2.2.1,s'.2.2.2,x7,x8,x9,()))∧
  q1o 600 600 s.1 6 t s.2.1 eff s.2.2.1 s.2.2.2 x7 x8 x9 0=some r:=by
 refine qaz (N:=2) (by decide) (fun q (s:S6) i=>q1o 600 q s.1 6 t s.2.1 eff s.2.2.1 s.2.2.2 x7 x8 x9 i) (fun _ s=>z04 t n s)
  (fun r=>∃s',z04 t n s' ∧r=(s'.1,(6:Int),t,s'.2.1,eff,s'.2.2.1,s'.2.2.2,x7,x8,x9,())) (fun q i s hi hs=> ?_) (fun q s hs=>⟨_,⟨s,hs,rfl⟩,rfl⟩) hs
 have h3:(i:Int)<2:=by omega
 obtain⟨i1,i2,i3⟩:=hs
 have mb:=i3.mr i
 have w1:y0 .i64 (1-y7 s.2.2.2 i 0)=1-y7 s.2.2.2 i 0:=w64 (by omega) (by omega)
 have s6:=six_more i3 i (v:=1-y7 s.2.2.2 i 0) (by omega)
 obtain⟨c,f,b',n',e1,e2,j1,j2,_⟩:=show6 tl tr i1 i2 s6
 show∃s',z04 t n s' ∧q54 600 (q1o 600 q) s.1 6 t s.2.1 eff s.2.2.1 s.2.2.2 x7 x8 x9 (i:Int)=_
 unfold q54
 simp only[h3,w1,dT,cT,yc,yd,yb,e1,e2,y5,q0j (show i<1000000000000 by omega)]
 cases f
 ·exact⟨(b',n',s.2.2.1,s.2.2.2),⟨j1,j2,i3⟩,rfl⟩
 ·exact⟨(b',n',s.2.2.1,s.2.2.2.set i (1-y7 s.2.2.2 i 0)),⟨j1,j2,s6⟩,rfl⟩
theorem zy8{n:Int}{s:S6}(hs:z04 t n s)(eff:Int):∃b' n',q0s 600 600 s.1 6 t s.2.1 eff s.2.2.1 s.2.2.2 0=some (b',(6:Int),t,n',())∧InvB 6 t b' n' ∧n' ≤n:=by
 have h:∃r,(∃b' n',r=(b',(6:Int),t,n',())∧InvB 6 t b' n' ∧n' ≤n)∧q0s 600 600 s.1 6 t s.2.1 eff s.2.2.1 s.2.2.2 0=some r:=by
  by_cases he:eff=2
  ·subst he
   refine qaz (N:=3) (by decide) (fun q (s:S6) i=>q0s 600 q s.1 6 t s.2.1 2 s.2.2.1 s.2.2.2 i) (fun _ s=>z04 t n s)
    (fun r=>∃b' n',r=(b',(6:Int),t,n',())∧InvB 6 t b' n' ∧n' ≤n) (fun q i s hi hs=> ?_) (fun q s hs=>⟨_,⟨_,_,rfl,hs.1,hs.2.1⟩,rfl⟩) hs
   have h3:(i:Int)<3:=by omega
   obtain⟨r,⟨s',hs',rfl⟩,e⟩:=zy6 tl tr hs 2 i 2 true
   obtain⟨r2,⟨s2,hs2,rfl⟩,e2⟩:=zy7 tl tr hs' 2 i 2 true
   refine⟨s2,hs2,?_⟩
   show q25 600 (q0s 600 q) s.1 6 t s.2.1 2 s.2.2.1 s.2.2.2 (i:Int)=_
   unfold q25
   simp only[h3,dT,cT,beq_self_eq_true,y5,e,e2,q0j (show i<1000000000000 by omega)]
  ·refine⟨_,⟨s.1,s.2.1,rfl,hs.1,hs.2.1⟩,?_⟩
   show q25 600 (q0s 600 599) s.1 6 t s.2.1 eff s.2.2.1 s.2.2.2 0=_
   unfold q25
   simp only[beqF he,cF,show decide ((0:Int)<3)=true from rfl,cT]
 obtain⟨r,⟨b',n',rfl,h1,h2⟩,e⟩:=h
 exact⟨b',n',e,h1,h2⟩
theorem ends8{a z:LI}(ha:a.length=4)(hz:z.length=4):((y8 4 (((y8 0 q1d)++a)++(y9 4 q1d)))++z)++(y9 8 (((y8 0 q1d)++a)++(y9 4 q1d)))=a++z:=by
 match a,z,ha,hz with
 |[a0,a1,a2,a3],[z0,z1,z2,z3],_,_=>rfl
theorem modes_of{b p q e1 e2 c b' b2:LI}{n n' n2 eff m1 m2:Int}{f:Bool}(h1:q6q 600 t 4=some (p,q,()))(h2:qga 600 p=some (e1,m1,()))(h3:qga 600 q=some (e2,m2,()))(l1:e1.length=4)(l2:e2.length=4)
  (h4:qct 600 t (e1++e2) [m1,m2]=some (c,())) (h5:q0o 600 b 6 t n c=some (f,6,t,b',n',())) (h6:q0s 600 600 b' 6 t n' eff (e1++e2) [m1,m2] 0=some (b2,(6:Int),t,n2,())):
  q5u 600 b 6 t n eff=some (6,t,b2,n2,()):=by
 unfold q5u
 simp only[h1,h2,h3,y5,ends8 tl tr l1 l2,h4,h5,h6]
theorem j5l{b:LI}{n:Int}(hI:InvB 6 t b n)(eff:Int):∃b' n' i j c,q5u 600 b 6 t n eff=some (6,t,b',n',())∧InvB 6 t b' n' ∧n' ≤n∧i<16∧j<16∧
  (∀i' j',i' <16→j' <16→farV 4 (rowP t i') (rowP t j')≤farV 4 (rowP t i) (rowP t j))∧n' ≤q82 6 c t∧Okb 16 c∧
  ∀q,q<64→(qa5 c).getD q 0=(sixR (endL (rowP t i)++endL (rowP t j)) [(endB (rowP t i):Int),(endB (rowP t j):Int)]).getD (sixI t (sixR (endL (rowP t i)++endL (rowP t j)) [(endB (rowP t i):Int),(endB (rowP t j):Int)]) (q/4)*4+q%4) 0:=by
 obtain⟨i,j,hi,hj,e1,hm⟩:=zvv tr (n:=4) (by decide)
 have r1:=q5b (by decide) tr i
 have r2:=q5b (by decide) tr j
 have ok:SixOk (endL (rowP t i)++endL (rowP t j)) [(endB (rowP t i):Int),(endB (rowP t j):Int)]:=by
  refine⟨by rw[yo,qzh,qzh],qdm (zs8 _) (zs8 _),rfl,?_⟩
  have b1:=zs7 (rowP t i)
  have b2:=zs7 (rowP t j)
  exact q3h (by omega) (q3h (by omega) (zzr (by decide)))
 obtain⟨c,g1,ok16,hd⟩:=j02 tr ok
 obtain⟨f,b1,n1,g2,j1,j2,j3⟩:=qzg fmt6 tl tr hI (show Okb (q26 6) c from ok16)
 obtain⟨b',n',g3,l1,l2⟩:=zy8 tl tr (n:=n1) (s:=(b1,n1,endL (rowP t i)++endL (rowP t j),[(endB (rowP t i):Int),(endB (rowP t j):Int)])) ⟨j1,Int.le_refl _,ok⟩ eff
 exact⟨b',n',i,j,c,modes_of tl tr e1 (j00 r1) (j00 r2) (qzh _) (qzh _) g1 g2 g3,l1,by omega,hi,hj,hm,by omega,ok16,hd⟩
end
theorem qeu{f:Nat→Int}{N j:Nat}(hj:j<N)(h0:f j=0)(hn:∀i,0≤f i):f (q4w f N)=0:=by
 have:=zk0 f (n:=N) (i:=j) hj
 have:=hn (q4w f N)
 omega
def Dual(t:LI)(u v:Nat→Int):Prop:=∀i,i<16→(∀c,c<4→t.getD (i*4+c) 0=u c)∨∀c,c<4→t.getD (i*4+c) 0=v c
theorem zw3{t:LI}{u v:Nat→Int}(hd:Dual t u v)(ht:Rg 255 t){n i j:Nat}(hn:n≤4)(hi:i<16)(hj:j<16)(hm:∀i' j',i' <16→j' <16→farV n (rowP t i') (rowP t j')≤farV n (rowP t i) (rowP t j)):
  ∀q,q<16→(∀c,c<n→t.getD (q*4+c) 0=t.getD (i*4+c) 0)∨∀c,c<n→t.getD (q*4+c) 0=t.getD (j*4+c) 0:=by
 intro q hq
 have hr:∀i,Rg 255 (rowP t i):=fun i=>q5b (by decide) ht i
 have far0:∀a b,(∀c,c<n→t.getD (a*4+c) 0=t.getD (b*4+c) 0)→farV n (rowP t a) (rowP t b)=0:=fun a b h=>(qgp (hr a) (hr b)).2 fun c hc=>by
  rw[q2d (by omega),q2d (by omega)]
  exact h c hc
 have back:∀a b,farV n (rowP t a) (rowP t b)=0→∀c,c<n→t.getD (a*4+c) 0=t.getD (b*4+c) 0:=fun a b h c hc=>by
  have:=(qgp (hr a) (hr b)).1 h c hc
  rwa [q2d (by omega),q2d (by omega)]at this
 have same:(∀c,c<n→t.getD (i*4+c) 0=t.getD (j*4+c) 0)→∀c,c<n→t.getD (q*4+c) 0=t.getD (i*4+c) 0:=fun h=>back q i (by
  have h1:=hm q i hq hi
  rw[far0 i j h]at h1
  have:=qet (hr q) (hr i) n
  omega)
 rcases hd q hq with hq' |hq' <;>rcases hd i hi with hi' |hi' <;>rcases hd j hj with hj' |hj'
 ·exact .inl fun c hc=>by rw[hq' c (by omega),hi' c (by omega)]
 ·exact .inl fun c hc=>by rw[hq' c (by omega),hi' c (by omega)]
 ·exact .inr fun c hc=>by rw[hq' c (by omega),hj' c (by omega)]
 ·exact .inl (same fun c hc=>by rw[hi' c (by omega),hj' c (by omega)])
 ·exact .inl (same fun c hc=>by rw[hi' c (by omega),hj' c (by omega)])
 ·exact .inr fun c hc=>by rw[hq' c (by omega),hj' c (by omega)]
 ·exact .inl fun c hc=>by rw[hq' c (by omega),hi' c (by omega)]
 ·exact .inl fun c hc=>by rw[hq' c (by omega),hi' c (by omega)]
def ExC(u:Nat→Int):Prop:=(∃a:Nat,a<32∧u 0=qkr 5 a)∧(∃a:Nat,a<64∧u 1=qkr 6 a)∧∃a:Nat,a<32∧u 2=qkr 5 a
theorem qyj{b n:Nat}(h:n<2^b):q3z b (n:Int)=qkr b n:=by
 unfold q3z
 have:(n:Int)%2^b=(n:Int):=Int.emod_eq_of_lt (by omega) (by
  have e:((2^b:Nat):Int)=(2:Int)^b:=by simp
  rw[←e]
  omega)
 rw[this,yb]
theorem zk6{x:LI}{u:Nat→Int}(hu:ExC u)(hx:∀c,c<3→x.getD c 0=u c):∀c,c<3→(colV (q7g x)).getD c 0=x.getD c 0:=by
 obtain⟨⟨a,ha,ea⟩,⟨b,hb,eb⟩,⟨d,hd,ed⟩⟩:=hu
 have na:q6m 5 (x.getD 0 0) 32=a:=by
  rw[hx 0 (by decide),ea]
  simpa using List.all_eq_true.1 near5 a (List.mem_range.2 ha)
 have nb:q6m 6 (x.getD 1 0) 64=b:=by
  rw[hx 1 (by decide),eb]
  simpa using List.all_eq_true.1 near6 b (List.mem_range.2 hb)
 have nd:q6m 5 (x.getD 2 0) 32=d:=by
  rw[hx 2 (by decide),ed]
  simpa using List.all_eq_true.1 near5 d (List.mem_range.2 hd)
 have pv:q7g x=2048*(a:Int)+32*(b:Int)+(d:Int):=by
  unfold q7g
  rw[na,nb,nd]
 rw[pv]
 intro c hc
 have hc' :c=0∨c=1∨c=2:=by omega
 rcases hc' with rfl|rfl|rfl
 ·show q3z 5 ((2048*(a:Int)+32*(b:Int)+(d:Int))/2048)=_
  rw[show(2048*(a:Int)+32*(b:Int)+(d:Int))/2048=(a:Int) by omega,qyj (by omega),hx 0 (by decide),ea]
 ·show q3z 6 ((2048*(a:Int)+32*(b:Int)+(d:Int))/32)=_
  rw[qyf (b:=6) (y:=(b:Int)) (by omega),qyj (by omega),hx 1 (by decide),eb]
 ·show q3z 5 (2048*(a:Int)+32*(b:Int)+(d:Int))=_
  rw[qyf (b:=5) (y:=(d:Int)) (by omega),qyj (by omega),hx 2 (by decide),ed]
theorem zo1(a b:Int)(four:Bool){c:Nat}(hc:c<4):(palV a b four).getD c 0=(colV a).getD c 0∧(palV a b four).getD (4+c) 0=(colV b).getD c 0:=by
 have hc' :c=0∨c=1∨c=2∨c=3:=by omega
 unfold palV
 split<;>rcases hc' with rfl|rfl|rfl|rfl<;>exact⟨rfl,rfl⟩
theorem j1s{t:LI}{a b:Int}(ha:Rn a)(hb:Rn b)(four:Bool){j:Nat}(hj:j<64):
  (qum (twoB t a b four) four).getD j 0=(palV a b four).getD (q4w (fun q=>farV 3 (rowP t (j/4)) (rowP (palV a b four) q)) 4*4+j%4) 0:=by
 have hl:0≤a+b*2^16∧a+b*2^16<2^32:=by have:=ha;have:=hb;omega
 have ok:=j58 t (palV a b four)
 have e0:lv (twoB t a b four) 0 16=a:=qpo hl (by decide) (by decide) ok (by decide) (by have:=ha;omega) fun i hi=>by
  have:=q8x (x:=a) (v:=b) (m:=16) (by have:=ha;omega) (0+i)
  rw[this,iP (by omega),Nat.zero_add]
 have e1:lv (twoB t a b four) 16 16=b:=qpo hl (by decide) (by decide) ok (by decide) (by have:=hb;omega) fun i hi=>by
  have:=q8x (x:=a) (v:=b) (m:=16) (by have:=ha;omega) (16+i)
  rw[this,iN (by omega),show 16+i-16=i by omega]
 unfold qum
 rw[e0,e1,zjy (qm3 _ _ _) (qre _) hj,zrj _ (by omega)]
 have e2:lv (twoB t a b four) (32+2*(j/4)) 2=(hexW t (palV a b four)).getD (j/4) 0:=qpp hl (by decide) (by decide) ok (by omega)
 rw[e2]
 unfold hexW
 rw[q0d (by omega),yb]
theorem zw4{t:LI}(ht:Rg 255 t){u v:Nat→Int}(hd:Dual t u v)(hu:ExC u)(hv:ExC v){i j:Nat}(hi:i<16)(hj:j<16)
  (hm:∀i' j',i' <16→j' <16→farV 3 (rowP t i') (rowP t j')≤farV 3 (rowP t i) (rowP t j)) (four:Bool):∀q,q<64→q%4<3→(qum (twoB t (q7g (rowP t i)) (q7g (rowP t j)) four) four).getD q 0=t.getD q 0:=by
 intro q hq hc
 have pb:∀x,Rn (q7g x):=fun x=>by
  have h1:=qft (b:=5) (x.getD 0 0)
  have h2:=qft (b:=6) (x.getD 1 0)
  have h3:=qft (b:=5) (x.getD 2 0)
  rw[show(2:Nat)^5=32 from rfl]at h1 h3
  rw[show(2:Nat)^6=64 from rfl]at h2
  unfold q7g Rn
  omega
 have ex:∀i,i<16→∀c,c<3→(colV (q7g (rowP t i))).getD c 0=t.getD (i*4+c) 0:=fun i hi c hc=>by
  rw[←q2d (p:=t) (show c<4 by omega)]
  rcases hd i hi with h|h
  ·exact zk6 hu (fun c hc=>by rw[q2d (by omega)];exact h c (by omega)) c hc
  ·exact zk6 hv (fun c hc=>by rw[q2d (by omega)];exact h c (by omega)) c hc
 rw[j1s (pb _) (pb _) four hq]
 have hr:=q5b (p:=t) (m:=255) (by decide) ht (q/4)
 have hp:=zxp (q7g (rowP t i)) (q7g (rowP t j)) four
 have hz:farV 3 (rowP t (q/4)) (rowP (palV (q7g (rowP t i)) (q7g (rowP t j)) four) (q4w (fun x=>farV 3 (rowP t (q/4)) (rowP (palV (q7g (rowP t i)) (q7g (rowP t j)) four) x)) 4))=0:=by
  rcases zw3 hd ht (n:=3) (by decide) hi hj hm (q/4) (by omega)with h|h
  ·refine qeu (f:=fun x=>farV 3 (rowP t (q/4)) (rowP (palV (q7g (rowP t i)) (q7g (rowP t j)) four) x)) (j:=0) (by decide) ((qgp hr (q5b (by decide) hp 0)).2 fun c hc=> ?_) fun x=>qet hr (q5b (by decide) hp x) 3
   rw[q2d (by omega),q2d (by omega),Nat.zero_mul,Nat.zero_add,(zo1 _ _ four (by omega)).1,ex i hi c hc]
   exact h c hc
  ·refine qeu (f:=fun x=>farV 3 (rowP t (q/4)) (rowP (palV (q7g (rowP t i)) (q7g (rowP t j)) four) x)) (j:=1) (by decide) ((qgp hr (q5b (by decide) hp 1)).2 fun c hc=> ?_) fun x=>qet hr (q5b (by decide) hp x) 3
   rw[q2d (by omega),q2d (by omega),Nat.one_mul,(zo1 _ _ four (by omega)).2,ex j hj c hc]
   exact h c hc
 have:=(qgp hr (q5b (by decide) hp _)).1 hz (q%4) hc
 rw[q2d (by omega),q2d (by omega),show q/4*4+q%4=q by omega]at this
 exact this.symm
theorem zw5(a b:Int):(q5y a b).getD 1 0=b:=by
 by_cases h:a≤b
 ·rw[zzd h];rfl
 ·rw[zze h];rfl
theorem rS_two{l:LI}(hl:Rg 255 l){x y:Int}(h:∀i,i<16→l.getD i 0=x∨l.getD i 0=y):rS (q5y (maxT l 16) (minT l 16)) l=0:=by
 have hmx:=z94 hl 16
 have hmn:=z93 hl 16
 have at1:∃i,i<16∧l.getD i 0=minT l 16:=by
  rcases j5f l 16 with g|g
  ·refine⟨0,by decide,?_⟩
   have h1:=zy1 l (n:=16) (i:=0) (by decide)
   have h2:=hl 0
   omega
  ·exact g
 have at2:∃i,i<16∧l.getD i 0=maxT l 16:=by
  rcases j5g l 16 with g|g
  ·refine⟨0,by decide,?_⟩
   have h1:=zy2 l (n:=16) (i:=0) (by decide)
   have h2:=hl 0
   omega
  ·exact g
 obtain⟨i1,g1,g2⟩:=at1
 obtain⟨i2,g3,g4⟩:=at2
 unfold rS
 have hr:=ze2 hmx hmn
 refine(qkm fun i _=>(ze6 hr hl i).1).2 fun i hi=> ?_
 have a1:=zy1 l hi
 have a2:=zy2 l hi
 have b0:=h i hi
 have b1:=h i1 g1
 have b2:=h i2 g3
 have nn:∀j,0≤((q5y (maxT l 16) (minT l 16)).getD j 0-l.getD i 0)*((q5y (maxT l 16) (minT l 16)).getD j 0-l.getD i 0):=fun j=>(q88 (m:=255) (by have:=hr j;have:=hl i;omega)).1
 by_cases e:l.getD i 0=maxT l 16
 ·exact qeu (f:=fun j=>((q5y (maxT l 16) (minT l 16)).getD j 0-l.getD i 0)*((q5y (maxT l 16) (minT l 16)).getD j 0-l.getD i 0)) (j:=0) (by decide) (sq_zero.2 (by rw[zk3,e];omega)) nn
 ·have e:l.getD i 0=minT l 16:=by omega
  exact qeu (f:=fun j=>((q5y (maxT l 16) (minT l 16)).getD j 0-l.getD i 0)*((q5y (maxT l 16) (minT l 16)).getD j 0-l.getD i 0)) (j:=1) (by decide) (sq_zero.2 (by rw[zw5,e];omega)) nn
theorem qzi{t b:LI}(ht:Rg 255 t){c:Nat}(hc:c<4){u v:Nat→Int}(hd:Dual t u v)(hb:Bytes b)(h0:0≤errC (colT t c) b)(h1:errC (colT t c) b≤rS (q5y (maxT (colT t c) 16) (minT (colT t c) 16)) (colT t c)):
  ∀i,i<16→(qay b).getD i 0=t.getD (i*4+c) 0:=by
 have hl:Rg 255 (colT t c):=zk1 ht c
 rw[rS_two hl (x:=u c) (y:=v c) fun i hi=>by
  unfold colT
  rw[q0d hi]
  exact(hd i hi).imp (fun h=>h c hc) fun h=>h c hc]at h1
 have hz:errC (colT t c) b=0:=by omega
 intro i hi
 have hf:=z5w hb
 have:=(qkm (n:=16) fun i _=>(q88 (x:=(qay b).getD i 0-(colT t c).getD i 0) (m:=255) (by have:=hf i;have:=hl i;omega)).1).1 hz i hi
 rw[sq_zero]at this
 have e:(colT t c).getD i 0=t.getD (i*4+c) 0:=q0d hi
 omega
def ExS(u:Nat→Int):Prop:=∃p:Nat,p<2∧∀c,c<4→u c%2=(p:Int)
theorem j5m{t c:LI}(ht:Rg 255 t){u v:Nat→Int}(hd:Dual t u v)(hu:ExS u)(hv:ExS v){i j:Nat}(hi:i<16)(hj:j<16)
  (hm:∀i' j',i' <16→j' <16→farV 4 (rowP t i') (rowP t j')≤farV 4 (rowP t i) (rowP t j))
  (hdec:∀q,q<64→(qa5 c).getD q 0=(sixR (endL (rowP t i)++endL (rowP t j)) [(endB (rowP t i):Int),(endB (rowP t j):Int)]).getD (sixI t (sixR (endL (rowP t i)++endL (rowP t j)) [(endB (rowP t i):Int),(endB (rowP t j):Int)]) (q/4)*4+q%4) 0):
  ∀q,q<64→(qa5 c).getD q 0=t.getD q 0:=by
 intro q hq
 rw[hdec q hq]
 have ex:∀i,i<16→∀c,c<4→2*(endL (rowP t i)).getD c 0+(endB (rowP t i):Int)=t.getD (i*4+c) 0:=fun i hi c hc=>by
  have key:∀w:Nat→Int,ExS w→(∀c,c<4→t.getD (i*4+c) 0=w c)→2*(endL (rowP t i)).getD c 0+(endB (rowP t i):Int)=t.getD (i*4+c) 0:=fun w ⟨p,hp,h⟩ hw=>by
   rw[←q2d (p:=t) hc]
   exact j5h (q5b (by decide) ht i) hp (fun c hc=>by rw[q2d hc,hw c hc];exact h c hc) c hc
  exact(hd i hi).elim (key u hu) (key v hv)
 have el:∀i,(rowP t i).length=4∨True:=fun i=> .inr trivial
 have e0:∀c,c<4→endV (endL (rowP t i)++endL (rowP t j)) [(endB (rowP t i):Int),(endB (rowP t j):Int)] c=t.getD (i*4+c) 0:=fun c hc=>by
  have l1:=qzh (rowP t i)
  have g:(endL (rowP t i)++endL (rowP t j)).getD c 0=(endL (rowP t i)).getD c 0:=by
   simp only[ye]
   rw[yg (by omega)]
  have hb:=zs8 (rowP t i) c
  have hb2:=zs7 (rowP t i)
  unfold endV
  rw[g,show c/4=0 by omega]
  show 2*((endL (rowP t i)).getD c 0%128)+(endB (rowP t i):Int)%2=_
  have:=ex i hi c hc
  omega
 have e1:∀c,c<4→endV (endL (rowP t i)++endL (rowP t j)) [(endB (rowP t i):Int),(endB (rowP t j):Int)] (4+c)=t.getD (j*4+c) 0:=fun c hc=>by
  have l1:=qzh (rowP t i)
  have g:(endL (rowP t i)++endL (rowP t j)).getD (4+c) 0=(endL (rowP t j)).getD c 0:=by
   simp only[ye]
   rw[yz (by omega),l1,show 4+c-4=c by omega]
  have hb:=zs8 (rowP t j) c
  have hb2:=zs7 (rowP t j)
  unfold endV
  rw[g,show(4+c)/4=1 by omega]
  show 2*((endL (rowP t j)).getD c 0%128)+(endB (rowP t j):Int)%2=_
  have:=ex j hj c hc
  omega
 have hr:=q5b (p:=t) (m:=255) (by decide) ht (q/4)
 have hp:=j5i (endL (rowP t i)++endL (rowP t j)) [(endB (rowP t i):Int),(endB (rowP t j):Int)]
 have r0:∀c,c<4→(sixR (endL (rowP t i)++endL (rowP t j)) [(endB (rowP t i):Int),(endB (rowP t j):Int)]).getD (0*4+c) 0=t.getD (i*4+c) 0:=fun c hc=>by
  unfold sixR
  rw[q0d (by omega)]
  unfold qyh
  rw[show(0*4+c)%4=c by omega,show(0*4+c)/4=0 by omega]
  show mx _ _ 0 4=_
  rw[zzq,e0 c hc]
 have r15:∀c,c<4→(sixR (endL (rowP t i)++endL (rowP t j)) [(endB (rowP t i):Int),(endB (rowP t j):Int)]).getD (15*4+c) 0=t.getD (j*4+c) 0:=fun c hc=>by
  unfold sixR
  rw[q0d (by omega)]
  unfold qyh
  rw[show(15*4+c)%4=c by omega,show(15*4+c)/4=15 by omega]
  show mx _ _ 15 4=_
  rw[mx_last]
  exact e1 c hc
 generalize sixR (endL (rowP t i)++endL (rowP t j)) [(endB (rowP t i):Int),(endB (rowP t j):Int)]=r at hp r0 r15⊢
 have hz:farV 4 (rowP t (q/4)) (rowP r (sixI t r (q/4)))=0:=by
  rcases zw3 hd ht (n:=4) (by decide) hi hj hm (q/4) (by omega)with h|h
  ·refine qeu (f:=fun x=>farV 4 (rowP t (q/4)) (rowP r x)) (j:=0) (by decide) ((qgp hr (q5b (by decide) hp 0)).2 fun c hc=> ?_) fun x=>qet hr (q5b (by decide) hp x) 4
   rw[q2d hc,q2d hc,r0 c hc]
   exact h c hc
  ·refine qeu (f:=fun x=>farV 4 (rowP t (q/4)) (rowP r x)) (j:=15) (by decide) ((qgp hr (q5b (by decide) hp 15)).2 fun c hc=> ?_) fun x=>qet hr (q5b (by decide) hp x) 4
   rw[q2d hc,q2d hc,r15 c hc]
   exact h c hc
 have:=(qgp hr (q5b (by decide) hp _)).1 hz (q%4) (by omega)
 rw[q2d (by omega),q2d (by omega),show q/4*4+q%4=q by omega]at this
 exact this.symm
def ExB(k:Nat)(u:Nat→Int):Prop:=(k≤3→ExC u)∧(k=2→∃a:Nat,a<16∧u 3=qkr 4 a)∧(k=6→ExS u)
theorem zs9(b:Nat)(n:Int):∃a:Nat,a<2^b∧q3z b n=qkr b a:=by
 obtain⟨v,h1,h2,h3⟩:=zdy (x:=n) (b:=b)
 exact⟨v,h2,by unfold q3z;rw[h3]⟩
theorem zsa(v:Nat→Int){c:Nat}(hc:c<4):(oneT v).getD c 0=v c:=by
 unfold oneT
 rw[q0d (by omega),show c%4=c by omega]
theorem ex_of{k:Nat}(hk:1≤k∧k≤6){u:Nat→Int}(hu:∀c,c<4→0≤u c∧u c≤255)(h:q82 k (qdt k (scT k (oneT u))) (oneT u)=0):ExB k u:=by
 have hf:Fmt k:=⟨hk.1,by omega⟩
 have hw:z1w k=false:=by
  have:k=1∨k=2∨k=3∨k=4∨k=5∨k=6:=by omega
  rcases this with rfl|rfl|rfl|rfl|rfl|rfl<;>rfl
 have hs:scT k (oneT u)=oneT u:=by unfold scT;rw[hw];rfl
 have hr:Rg 255 (oneT u):=j52 (by decide) hu
 unfold q82 at h
 rw[hs]at h
 have hd:=qz8 (qrg (oneT u) hf).1 hf
 have hz:=(zjz (mask:=qhw k) (q3t hr (by decide)) (q3t hd (qdn k))).1 h
 rw[j55 _ hf]at hz
 have at_:∀c,c<4→bitM (qhw k) c=true→u c=zxx k (oneT u) c:=fun c hc hb=>by
  have:=hz c (by omega) (by rw[show c%4=c by omega];exact hb)
  rwa [zsa _ hc,zsa _ hc]at this
 have rgb:(∀c,c<3→u c=hxC (oneT u) c)→ExC u:=fun g=>by
  obtain⟨a,a1,a2⟩:=zs9 5 (hexN (oneT u)/2048)
  obtain⟨b,b1,b2⟩:=zs9 6 (hexN (oneT u)/32)
  obtain⟨d,d1,d2⟩:=zs9 5 (hexN (oneT u))
  exact⟨⟨a,a1,by rw[g 0 (by decide),←a2];rfl⟩,⟨b,b1,by rw[g 1 (by decide),←b2];rfl⟩,⟨d,d1,by rw[g 2 (by decide),←d2];rfl⟩⟩
 have hc3:∀{p:Nat→Prop},p 0→p 1→p 2→∀c,c<3→p c:=fun h0 h1 h2 c hc=>by
  have:c=0∨c=1∨c=2:=by omega
  rcases this with rfl|rfl|rfl
  ·exact h0
  ·exact h1
  ·exact h2
 refine⟨fun h3=>rgb ?_,fun h2=> ?_,fun h6=> ?_⟩
 ·have:k=1∨k=2∨k=3:=by omega
  rcases this with rfl|rfl|rfl
  ·exact hc3 (at_ 0 (by decide) rfl) (at_ 1 (by decide) rfl) (at_ 2 (by decide) rfl)
  ·exact hc3 (at_ 0 (by decide) rfl) (at_ 1 (by decide) rfl) (at_ 2 (by decide) rfl)
  ·exact hc3 (at_ 0 (by decide) rfl) (at_ 1 (by decide) rfl) (at_ 2 (by decide) rfl)
 ·subst h2
  obtain⟨a,a1,a2⟩:=zs9 4 (bN (lvW 4) (oneT u) 3)
  exact⟨a,a1,by rw[at_ 3 (by decide) rfl,←a2];rfl⟩
 ·subst h6
  have par:∀bit:Int,(bit=0∨bit=1)→(∀c,c<4→u c=siC bit (oneT u) c)→ExS u:=fun bit hb g=>
   ⟨bit.toNat,by omega,fun c hc=>by
    have:=g c hc
    unfold siC at this
    omega⟩
  by_cases hb:b6 (oneT u)
  ·exact par 1 (.inr rfl) fun c hc=>by
    have:=at_ c hc (qzf (p:=fun c=>bitM (qhw 6) c=true) rfl rfl rfl rfl c hc)
    rw[this]
    show(if b6 (oneT u)then siC 1 (oneT u)else siC 0 (oneT u)) c=_
    rw[iP hb]
  ·exact par 0 (.inl rfl) fun c hc=>by
    have:=at_ c hc (qzf (p:=fun c=>bitM (qhw 6) c=true) rfl rfl rfl rfl c hc)
    rw[this]
    show(if b6 (oneT u)then siC 1 (oneT u)else siC 0 (oneT u)) c=_
    rw[iN hb]
theorem zk7{k:Nat}(hk:Fmt k)(v:Nat→Int):qba 600 (k:Int) (tab 4 v)=some (false,())∨((∀c,c<4→0≤v c∧v c≤255)∧qba 600 (k:Int) (tab 4 v)=some (q82 k (qdt k (scT k (oneT v))) (oneT v)==0,())):=by
 have h0:=zaa v (k:Int) 16 0 600 (by omega) (by omega)
 have e0:(tab 64 fun j=>if j<0*4 then v (j%4)else 0)=q2i:=by
  rw[q03 (f:=fun _=>0) fun j hj=>iN (by omega)]
  rfl
 rw[e0,show((0:Nat):Int)=0 from rfl]at h0
 have hl:(oneT v).length=64:=q0g _ _
 rcases j51 hk hl with⟨e,he,hB⟩|⟨hr,_⟩
 ·left
  unfold qba
  rw[h0]
  simp only[y5,hB,bneT he,cT]
 ·right
  have hv:∀c,c<4→0≤v c∧v c≤255:=fun c hc=>by
   have:=hr c
   rwa [zsa v hc]at this
  exact⟨hv,j1d hk hv⟩
theorem j03{a b:LI}(ha:a.length=8)(hb:b.length=8):lo13 (a++b)=a∧hi13 (a++b)=b:=by
 constructor
 ·unfold lo13
  rw[←ha,List.take_left']
  rfl
 ·unfold hi13
  rw[yo,ha,hb,show 8+8-8=8 from rfl]
  rw[show(8:Nat)=a.length from ha.symm,List.drop_left',ha,←hb,List.take_length]
  rfl
theorem z63{k:Nat}(hk:1≤k∧k≤6){t b:LI}(tr:Rg 255 t)(hb:Okb (q26 k) b)(h:∀q,q<64→bitM (qhw k) (q%4)=true→(qun k b).getD q 0=t.getD q 0):q82 k b t=0:=by
 have hf:Fmt k:=⟨hk.1,by omega⟩
 have hs:scT k t=t:=by
  have:k=1∨k=2∨k=3∨k=4∨k=5∨k=6:=by omega
  rcases this with rfl|rfl|rfl|rfl|rfl|rfl<;>rfl
 unfold q82
 rw[hs]
 exact(zjz (q3t tr (by decide)) (q3t (qz8 hb.1 hf) (qdn k))).2 fun j hj hm=>(h j hj hm).symm
def Pair(k:Nat)(t:LI):Prop:=∃u v,Dual t u v∧ExB k u∧ExB k v
section
variable {t:LI} (tl:t.length=64) (tr:Rg 255 t)
include tl tr
def RndB(k:Nat)(t b:LI)(n now:Int)(b' :LI)(n' :Int):Prop:=∀q a2,now≤a2→
 q1p 600 (q+1) (k:Int) a2 t b (k:Int) t n now=q1p 600 q (k:Int) a2 t b' (k:Int) t n' (y0 .i64 (now+1))
theorem round_1{b:LI}{n:Int}(hI:InvB 1 t b n)(now:Int):∃b' n',RndB 1 t b n now b' n' ∧InvB 1 t b' n' ∧n' ≤n∧(Pair 1 t→n' ≤0):=by
 have hk:Fmt 1:=⟨by decide,by decide⟩
 obtain⟨b',n',i,j,e,i1,l1,hi,hj,hm,l2⟩:=z92 hk tl tr (ah:=[]) ⟨fun x hx=>absurd hx List.not_mem_nil,rfl⟩ false hI now
 have e' :q1a 600 b 1 t n t [] false now=some (1,t,b',n',()):=e
 refine⟨b',n',fun q a2 h=> ?_,i1,l1,fun⟨u,v,hd,hu,hv⟩=> ?_⟩
 ·show q16 600 (q1p 600 q) 1 a2 t b 1 t n now=_
  unfold q16
  simp only[h,dT,cT,show((1:Int)==1)=true from rfl,e',y5]
  rfl
 ·rw[List.nil_append]at l2
  have hz:q82 1 (twoB t (q7g (rowP t i)) (q7g (rowP t j)) false) t=0:=z63 ⟨by decide,by decide⟩ tr (show Okb (q26 1) (twoB t (q7g (rowP t i)) (q7g (rowP t j)) false)from ze5 t (q7g (rowP t i)) (q7g (rowP t j)) false) fun q hq hm' =>
   zw4 tr hd (hu.1 (by decide)) (hv.1 (by decide)) hi hj hm false q hq (by
    have:q%4≠3:=fun e=>by rw[e]at hm';cases hm'
    omega)
  omega
theorem j04{k:Nat}(hk:k=2∨k=3){ah:LI}(ha:Okb 8 ah){i j:Nat}(hi:i<16)(hj:j<16)(hm:∀i' j',i' <16→j' <16→farV 3 (rowP t i') (rowP t j')≤farV 3 (rowP t i) (rowP t j))
  {u v:Nat→Int} (hd:Dual t u v) (hu:ExB k u) (hv:ExB k v) {l:LI} (hdec:∀b:LI,hi13 (ah++b)=b→lo13 (ah++b)=ah→qun k (ah++b)=wT 3 l (qum b true)) (hl:∀i,i<16→l.getD i 0=t.getD (i*4+3) 0):
  q82 k (ah++twoB t (q7g (rowP t i)) (q7g (rowP t j)) true) t=0:=by
 have o2:=ze5 t (q7g (rowP t i)) (q7g (rowP t j)) true
 obtain⟨g1,g2⟩:=j03 ha.2 o2.2
 have h16:q26 k=16:=by rcases hk with rfl|rfl<;>rfl
 refine z63 (by omega) tr (by rw[h16];exact z8z ha o2) fun q hq hm' => ?_
 rw[hdec _ g2 g1]
 unfold wT
 rw[q0d hq]
 by_cases h3:q%4=3
 ·rw[iP h3,hl _ (by omega),show q/4*4+3=q by omega]
 ·rw[iN h3]
  exact zw4 tr hd (hu.1 (by omega)) (hv.1 (by omega)) hi hj hm true q hq (by omega)
theorem round_2{b:LI}{n:Int}(hI:InvB 2 t b n)(now:Int):∃b' n',RndB 2 t b n now b' n' ∧InvB 2 t b' n' ∧n' ≤n∧(Pair 2 t→n' ≤0):=by
 have hk:Fmt 2:=⟨by decide,by decide⟩
 have fo:=j1j t
 obtain⟨b',n',i,j,e,i1,l1,hi,hj,hm,l2⟩:=z92 hk tl tr (ah:=zab t) ⟨fo.1,by rw[fo.2];rfl⟩ true hI now
 have e' :q1a 600 b 2 t n t (zab t) true now=some (2,t,b',n',()):=e
 refine⟨b',n',fun q a2 h=> ?_,i1,l1,fun⟨u,v,hd,hu,hv⟩=> ?_⟩
 ·show q16 600 (q1p 600 q) 2 a2 t b 2 t n now=_
  unfold q16
  simp only[h,dT,cT,cF,show((2:Int)==1)=false from rfl,show((2:Int)==2)=true from rfl,j1k tr,e',y5]
  rfl
 ·have hz:=j04 tl tr (k:=2) (.inl rfl) fo hi hj hm hd hu hv (l:=z8o (zab t)) (fun b h1 h2=>by show wT 3 (z8o (lo13 _)) (qum (hi13 _) true)=_;rw[h1,h2]) fun i hi=>by
   rw[zw0 t hi]
   have key:∀w:Nat→Int,ExB 2 w→(∀c,c<4→t.getD (i*4+c) 0=w c)→q3z 4 (q6m 4 (t.getD (i*4+3) 0) 16:Int)=t.getD (i*4+3) 0:=fun w hw h=>by
    obtain⟨a,a1,a2⟩:=hw.2.1 rfl
    have hs:q6m 4 (qkr 4 a) 16=a:=by
     have hn:q7i 600 (qkr 4 a) 4=some ((q6m 4 (qkr 4 a) 16:Int),()):=zjs (F:=600) (b:=4) (by decide) (by decide) (by
      have:=q79 (b:=4) (by decide) (a:Int)
      rw[qyj (by omega)]at this
      omega)
     have hc:=List.all_eq_true.1 zx8 a (List.mem_range.2 a1)
     rw[hn,beq_iff_eq]at hc
     have:=(Prod.mk.inj (Option.some.inj hc)).1
     omega
    rw[h 3 (by decide),a2,hs,qyj (by omega)]
   exact(hd i hi).elim (key u hu) (key v hv)
  omega
theorem round_3{b:LI}{n:Int}(hI:InvB 3 t b n)(now:Int):∃b' n',RndB 3 t b n now b' n' ∧InvB 3 t b' n' ∧n' ≤n∧(Pair 3 t→n' ≤0):=by
 have hk:Fmt 3:=⟨by decide,by decide⟩
 obtain⟨r,er,ok,r0,r1⟩:=z62 tl tr (c:=3) (by decide) now
 have er' :q5i 600 t 3 now=some (r,()):=er
 obtain⟨b',n',i,j,e,i1,l1,hi,hj,hm,l2⟩:=z92 hk tl tr (ah:=r) ⟨ok.1,by rw[ok.2];rfl⟩ true hI now
 have e' :q1a 600 b 3 t n t r true now=some (3,t,b',n',()):=e
 refine⟨b',n',fun q a2 h=> ?_,i1,l1,fun⟨u,v,hd,hu,hv⟩=> ?_⟩
 ·show q16 600 (q1p 600 q) 3 a2 t b 3 t n now=_
  unfold q16
  simp only[h,dT,cT,cF,show((3:Int)==1)=false from rfl,show((3:Int)==2)=false from rfl,show((3:Int)==3)=true from rfl,er',e',y5]
  rfl
 ·have hz:=j04 tl tr (k:=3) (.inr rfl) ok hi hj hm hd hu hv (l:=qay r) (fun b h1 h2=>by show wT 3 (qay (lo13 _)) (qum (hi13 _) true)=_;rw[h1,h2]) (qzi tr (by decide) hd ok.1 r0 r1)
  omega
theorem round_4{b:LI}{n:Int}(hI:InvB 4 t b n)(now:Int):∃b' n',RndB 4 t b n now b' n' ∧InvB 4 t b' n' ∧n' ≤n∧(Pair 4 t→n' ≤0):=by
 have hk:Fmt 4:=⟨by decide,by decide⟩
 obtain⟨r,er,ok,r0,r1⟩:=z62 tl tr (c:=0) (by decide) now
 have er' :q5i 600 t 0 now=some (r,()):=er
 obtain⟨f,b',n',e,i1,l1,l2⟩:=qzg hk tl tr hI (show Okb (q26 4) r from ok)
 have e' :q0o 600 b 4 t n r=some (f,4,t,b',n',()):=e
 refine⟨b',n',fun q a2 h=> ?_,i1,l1,fun⟨u,v,hd,hu,hv⟩=> ?_⟩
 ·show q16 600 (q1p 600 q) 4 a2 t b 4 t n now=_
  unfold q16
  simp only[h,dT,cT,cF,show((4:Int)==1)=false from rfl,show((4:Int)==2)=false from rfl,show((4:Int)==3)=false from rfl,show((4:Int)==4)=true from rfl,er',e',y5]
  rfl
 ·have hz:q82 4 r t=0:=z63 ⟨by decide,by decide⟩ tr ok fun q hq hm' =>by
   have h0:q%4=0:=by
    have:q%4=0∨q%4=1∨q%4=2∨q%4=3:=by omega
    rcases this with h|h|h|h
    ·exact h
    all_goals (rw[h]at hm';cases hm')
   show(wT 0 (qay (lo13 r)) (qm5 255)).getD q 0=_
   rw[lo13_8 ok.2]
   unfold wT
   rw[q0d hq,iP h0,qzi tr (by decide) hd ok.1 r0 r1 _ (by omega),show q/4*4+0=q by omega]
  omega
theorem round_5{b:LI}{n:Int}(hI:InvB 5 t b n)(now:Int):∃b' n',RndB 5 t b n now b' n' ∧InvB 5 t b' n' ∧n' ≤n∧(Pair 5 t→n' ≤0):=by
 have hk:Fmt 5:=⟨by decide,by decide⟩
 obtain⟨r,er,ok,r0,r1⟩:=z62 tl tr (c:=0) (by decide) now
 obtain⟨s,es,oks,s0,s1⟩:=z62 tl tr (c:=1) (by decide) now
 have er' :q5i 600 t 0 now=some (r,()):=er
 have es' :q5i 600 t 1 now=some (s,()):=es
 obtain⟨f,b',n',e,i1,l1,l2⟩:=qzg hk tl tr hI (show Okb (q26 5) (r++s)from z8z ok oks)
 have e' :q0o 600 b 5 t n (r++s)=some (f,5,t,b',n',()):=e
 refine⟨b',n',fun q a2 h=> ?_,i1,l1,fun⟨u,v,hd,hu,hv⟩=> ?_⟩
 ·show q16 600 (q1p 600 q) 5 a2 t b 5 t n now=_
  unfold q16
  simp only[h,dT,cT,cF,show((5:Int)==1)=false from rfl,show((5:Int)==2)=false from rfl,show((5:Int)==3)=false from rfl,show((5:Int)==4)=false from rfl,show((5:Int)==5)=true from rfl,er',es',ok.2,oks.2,e',y5,show(decide (8+8≤1099511627776)&&true)=true from rfl]
  rfl
 ·obtain⟨g1,g2⟩:=j03 ok.2 oks.2
  have hz:q82 5 (r++s) t=0:=z63 ⟨by decide,by decide⟩ tr (z8z ok oks) fun q hq hm' =>by
   have h0:q%4=0∨q%4=1:=by
    have:q%4=0∨q%4=1∨q%4=2∨q%4=3:=by omega
    rcases this with h|h|h|h
    ·exact .inl h
    ·exact .inr h
    all_goals (rw[h]at hm';cases hm')
   show(wT 1 (qay (hi13 (r++s))) (wT 0 (qay (lo13 (r++s))) (qm5 255))).getD q 0=_
   rw[g1,g2]
   unfold wT
   rw[q0d hq]
   rcases h0 with h0|h0
   ·rw[iN (by omega),q0d hq,iP h0,qzi tr (by decide) hd ok.1 r0 r1 _ (by omega),show q/4*4+0=q by omega]
   ·rw[iP h0,qzi tr (by decide) hd oks.1 s0 s1 _ (by omega),show q/4*4+1=q by omega]
  omega
theorem round_6{b:LI}{n:Int}(hI:InvB 6 t b n)(now:Int):∃b' n',RndB 6 t b n now b' n' ∧InvB 6 t b' n' ∧n' ≤n∧(Pair 6 t→n' ≤0):=by
 obtain⟨b',n',i,j,c,e,i1,l1,hi,hj,hm,l2,ok,hd6⟩:=j5l tl tr hI now
 refine⟨b',n',fun q a2 h=> ?_,i1,l1,fun⟨u,v,hd,hu,hv⟩=> ?_⟩
 ·show q16 600 (q1p 600 q) 6 a2 t b 6 t n now=_
  unfold q16
  simp only[h,dT,cT,cF,show((6:Int)==1)=false from rfl,show((6:Int)==2)=false from rfl,show((6:Int)==3)=false from rfl,show((6:Int)==4)=false from rfl,show((6:Int)==5)=false from rfl,e,y5]
  rfl
 ·have hz:q82 6 c t=0:=z63 ⟨by decide,by decide⟩ tr ok fun q hq _=>j5m tr hd (hu.2.2 rfl) (hv.2.2 rfl) hi hj hm hd6 q hq
  omega
theorem j05{k:Nat}(hk:1≤k∧k≤6){b:LI}{n:Int}(hI:InvB k t b n)(now:Int):∃b' n',RndB k t b n now b' n' ∧InvB k t b' n' ∧n' ≤n∧(Pair k t→n' ≤0):=by
 have:k=1∨k=2∨k=3∨k=4∨k=5∨k=6:=by omega
 rcases this with rfl|rfl|rfl|rfl|rfl|rfl
 ·exact round_1 tl tr hI now
 ·exact round_2 tl tr hI now
 ·exact round_3 tl tr hI now
 ·exact round_4 tl tr hI now
 ·exact round_5 tl tr hI now
 ·exact round_6 tl tr hI now
theorem j5n{k:Nat}(hk:1≤k∧k≤6):∃b1 n1 b2 n2,q2x 600 (k:Int) t 0=some (qdt k (scT k t),q82 k (qdt k (scT k t)) t,0,())∧q2x 600 (k:Int) t 1=some (b1,n1,0,())∧q2x 600 (k:Int) t 2=some (b2,n2,0,())∧
  InvB k t b1 n1∧InvB k t b2 n2∧n1≤q82 k (qdt k (scT k t)) t∧n2≤n1∧(Pair k t→n1≤0):=by
 have hf:Fmt k:=⟨hk.1,by omega⟩
 have hok:=qrg (scT k t) hf
 obtain⟨b1,n1,r1,i1,l1,z1⟩:=j05 tl tr hk (b:=qdt k (scT k t)) (n:=q82 k (qdt k (scT k t)) t) ⟨hok,rfl⟩ 1
 obtain⟨b2,n2,r2,i2,l2,_⟩:=j05 tl tr hk i1 2
 have h1:¬(k:Int)<1:=by omega
 have h6:¬(6:Int)<(k:Int):=by omega
 have e:∀a2:Int,0≤a2→a2≤2→q2x 600 (k:Int) t a2=(q1p 600 600 (k:Int) a2 t (qdt k (scT k t)) (k:Int) t (q82 k (qdt k (scT k t)) t) 1).bind fun r=>some (r.1,r.2.2.2.1,(0:Int),()):=by
  intro a2 h0 h2
  unfold q2x
  rw[qze hf tl tr (z90 tl tr)]
  simp only[qpl hok.1 hf hok.2 tl tr,h1,h6,dF,cF,y5,bne_self_eq_false,show¬a2<0 by omega,show¬2<a2 by omega]
 have stop:∀q (a2 x:Int) b n,a2<x→q1p 600 (q+1) (k:Int) a2 t b (k:Int) t n x=some (b,(k:Int),t,n,()):=by
  intro q a2 x b n h
  show q16 600 (q1p 600 q) _ _ _ _ _ _ _ _=_
  unfold q16
  simp only[show¬x≤a2 by omega,dF,cF]
 refine⟨b1,n1,b2,n2,?_,?_,?_,i1,i2,l1,l2,z1⟩
 ·rw[e 0 (by decide) (by decide),stop 599 0 1 _ _ (by decide)]
  rfl
 ·rw[e 1 (by decide) (by decide),r1 599 1 (by decide),show y0 .i64 (1+1)=2 from rfl,stop 598 1 2 _ _ (by decide)]
  rfl
 ·rw[e 2 (by decide) (by decide),r1 599 2 (by decide),show y0 .i64 (1+1)=2 from rfl,r2 598 2 (by decide),show y0 .i64 (2+1)=3 from rfl,stop 597 2 3 _ _ (by decide)]
  rfl
end
theorem j5o{f:Int}(h:¬(1≤f∧f≤6))(t:LI)(e:Int):q2x 600 f t e=some ([],0,5,()):=by
 unfold q2x
 by_cases h7:f<1
 ·simp only[h7,dT,cT]
 ·simp only[h7,show 6<f by omega,dT,dF,cT,cF]
theorem j06{k:Nat}(hk:1≤k∧k≤6){t:LI}(tl:t.length=64)(tr:Rg 255 t){e:Int}(he:e=0∨e=1∨e=2):∃b n,q2x 600 (k:Int) t e=some (b,n,0,())∧InvB k t b n∧((e=1∨e=2)→Pair k t→n≤0):=by
 obtain⟨b1,n1,b2,n2,e0,e1,e2,i1,i2,l1,l2,z⟩:=j5n tl tr hk
 rcases he with rfl|rfl|rfl
 ·exact⟨_,_,e0,⟨qrg _ ⟨hk.1,by omega⟩,rfl⟩,fun h=>by omega⟩
 ·exact⟨_,_,e1,i1,fun _=>z⟩
 ·exact⟨_,_,e2,i2,fun _ h=>Int.le_trans l2 (z h)⟩
theorem Two_is(u v:Nat→Int)(which:Int):∃T,qg8 600 (tab 4 u) (tab 4 v) which=some (T,())∧T.length=64∧Dual T u v:=by
 obtain⟨r,⟨T,hr,hl,hd⟩,e⟩:=qaz (N:=16) (by decide) (fun q (s:Int×LI) i=>q8n 600 q s.1 (tab 4 u) (tab 4 v) q12 s.2 i)
  (fun i s=>∃g,s.2=tab 64 g∧∀q,q<i→(∀c,c<4→g (q*4+c)=u c)∨∀c,c<4→g (q*4+c)=v c) (fun r=>∃T,r=(q12,T,())∧T.length=64∧Dual T u v)
  (fun q i s hi hs=>by
   obtain⟨g,hg,hq⟩:=hs
   have h3:(i:Int)<16:=by omega
   have r1:((y8 (i*4) s.2++tab 4 u)++y9 (i*4+4) s.2)=tab 64 fun j=>if j/4=i then u (j%4)else g j:=by rw[hg,zre (by omega)]
   have r2:((y8 (i*4) (tab 64 fun j=>if j/4=i then u (j%4)else g j)++tab 4 v)++y9 (i*4+4) (tab 64 fun j=>if j/4=i then u (j%4)else g j))=tab 64 fun j=>if j/4=i then v (j%4)else g j:=by
    rw[zre (by omega)]
    refine q03 fun j hj=> ?_
    by_cases h:j/4=i
    ·rw[iP h,iP h]
    ·rw[iN h,iN h,iN h]
   have keep:∀w:Nat→Int,(w=u∨w=v)→∀q,q<i+1→(∀c,c<4→(fun j=>if j/4=i then w (j%4)else g j) (q*4+c)=u c)∨∀c,c<4→(fun j=>if j/4=i then w (j%4)else g j) (q*4+c)=v c:=fun w hw q hq' =>by
    by_cases h:q=i
    ·subst h
     rcases hw with rfl|rfl
     ·exact .inl fun c hc=>by
       show(if(q*4+c)/4=q then w ((q*4+c)%4)else g (q*4+c))=w c
       rw[iP (by omega),show(q*4+c)%4=c by omega]
     ·exact .inr fun c hc=>by
       show(if(q*4+c)/4=q then w ((q*4+c)%4)else g (q*4+c))=w c
       rw[iP (by omega),show(q*4+c)%4=c by omega]
    ·refine(hq q (by omega)).imp (fun hh c hc=> ?_) fun hh c hc=> ?_
     ·show(if(q*4+c)/4=i then w ((q*4+c)%4)else g (q*4+c))=_
      rw[iN (by omega)]
      exact hh c hc
     ·show(if(q*4+c)/4=i then w ((q*4+c)%4)else g (q*4+c))=_
      rw[iN (by omega)]
      exact hh c hc
   show∃s' :Int×LI,_∧qie 600 (q8n 600 q) s.1 (tab 4 u) (tab 4 v) q12 s.2 (i:Int)=_
   unfold qie
   simp only[h3,dT,cT,yc,yd,yb,r1,r2,q0j (show i<1000000000000 by omega)]
   cases(iand .i64 s.1 1==1)
   ·exact⟨(ishr .i64 s.1 1,tab 64 fun j=>if j/4=i then u (j%4)else g j),⟨fun j=>if j/4=i then u (j%4)else g j,rfl,keep u (.inl rfl)⟩,rfl⟩
   ·exact⟨(ishr .i64 s.1 1,tab 64 fun j=>if j/4=i then v (j%4)else g j),⟨fun j=>if j/4=i then v (j%4)else g j,rfl,keep v (.inr rfl)⟩,rfl⟩)
  (fun q s hs=>by
   obtain⟨g,hg,hq⟩:=hs
   refine⟨_,⟨s.2,rfl,by rw[hg];exact q0g _ _,fun i hi=> ?_⟩,rfl⟩
   refine(hq i hi).imp (fun hh c hc=> ?_) fun hh c hc=> ?_
   ·rw[hg,q0d (by omega)];exact hh c hc
   ·rw[hg,q0d (by omega)];exact hh c hc)
  (s:=(which,q12)) ⟨fun _=>0,rfl,fun q hq=>by omega⟩
 subst hr
 refine⟨T,?_,hl,hd⟩
 unfold qg8
 have e' :q8n 600 600 which (tab 4 u) (tab 4 v) q12 q12 0=some (q12,T,()):=e
 rw[e']
 rfl
theorem j5p{T:LI}{u v:Nat→Int}(hl:T.length=64)(hd:Dual T u v)(hu:∀c,c<4→0≤u c∧u c≤255)(hv:∀c,c<4→0≤v c∧v c≤255):Rg 255 T:=by
 intro j
 by_cases hj:j<64
 ·have e:j=j/4*4+j%4:=by omega
  rw[e]
  rcases hd (j/4) (by omega)with h|h
  ·rw[h _ (by omega)];exact hu _ (by omega)
  ·rw[h _ (by omega)];exact hv _ (by omega)
 ·rw[qpj (l:=T) (by omega)]
  decide
def T15:LI:=[255,9,9,9,0,9,9,9,255,9,9,9,0,9,9,9,255,9,9,9,0,9,9,9,0,9,9,9,0,9,9,9,0,9,9,9,0,9,9,9,0,9,9,9,0,9,9,9,0,9,9,9,0,9,9,9,0,9,9,9,0,9,9,9]
theorem T15_is:qg8 600 [(0:Int),(9:Int),(9:Int),(9:Int)] [(255:Int),(9:Int),(9:Int),(9:Int)] (21:Int)=some (T15,()):=by kernel_rfl
def x15(c:Nat):Int:=if c=0 then 0 else 9
def y15(c:Nat):Int:=if c=0 then 255 else 9
theorem j07:Dual T15 x15 y15:=by
 obtain⟨T,h,_,hd⟩:=Two_is x15 y15 21
 have e:qg8 600 (tab 4 x15) (tab 4 y15) 21=some (T15,()):=T15_is
 rw[e]at h
 rw[(Prod.mk.inj (Option.some.inj h)).1]
 exact hd
theorem zw6:Rg 255 T15:=j5p rfl j07 (qzf (by decide) (by decide) (by decide) (by decide)) (qzf (by decide) (by decide) (by decide) (by decide))
theorem zy9:∃b:LI,q2x 600 4 T15 1=some (b,0,0,())∧b.length=8:=by
 obtain⟨b,n,e,i,z⟩:=j06 (k:=4) (by decide) (t:=T15) rfl zw6 (e:=1) (.inr (.inl rfl))
 have nn:=qyi (k:=4) ⟨by decide,by decide⟩ i.1.1 zw6
 have z:=z (.inl rfl) ⟨x15,y15,j07,⟨fun h=>absurd h (by decide),fun h=>absurd h (by decide),fun h=>absurd h (by decide)⟩,⟨fun h=>absurd h (by decide),fun h=>absurd h (by decide),fun h=>absurd h (by decide)⟩⟩
 have hn:n=0:=by have:=i.2;omega
 subst hn
 exact⟨b,e,i.1.2⟩
theorem zw7:∃(b:LI) (n:Int),q2x 600 4 T15 0=some (b,n,0,())∧0<n∧b.length=8:=by
 obtain⟨b1,n1,b2,n2,e0,_⟩:=j5n (t:=T15) rfl zw6 (k:=4) (by decide)
 have hf:Fmt 4:=⟨by decide,by decide⟩
 have ok:=qrg (scT 4 T15) hf
 refine⟨_,_,e0,?_,ok.2⟩
 have nn:=qyi hf ok.1 zw6
 have hne:q82 4 (qdt 4 (scT 4 T15)) T15≠0:=fun h=>by
  have hs:scT 4 T15=T15:=rfl
  unfold q82 at h
  rw[hs]at h ok
  have hd:=qz8 ok.1 hf
  have hz:=(zjz (mask:=qhw 4) (q3t zw6 (by decide)) (q3t hd (qdn 4))).1 h
  rw[j55 _ hf]at hz
  have h0:=hz 0 (by decide) rfl
  have h4:=hz 4 (by decide) rfl
  have o0:(oneT (zxx 4 T15)).getD 0 0=zxx 4 T15 0:=zsa _ (by decide)
  have o4:(oneT (zxx 4 T15)).getD 4 0=zxx 4 T15 0:=by
   unfold oneT
   rw[q0d (by decide)]
  rw[o0]at h0
  rw[o4]at h4
  have t0:T15.getD 0 0=255:=rfl
  have t4:T15.getD 4 0=0:=rfl
  omega
 omega
theorem j1t{T b b0:LI}{n:Int}(h0:qg8 600 [(0:Int),(9:Int),(9:Int),(9:Int)] [(255:Int),(9:Int),(9:Int),(9:Int)] (21:Int)=some (T,()))(e1:q2x 600 4 T 1=some (b,0,0,()))(hb:b.length=8)(e2:q2x 600 4 T 0=some (b0,n,0,()))(hn:0<n)(hb0:b0.length=8)
  (e3:q2x 600 7 T 1=some ([],0,5,())):qjn 600=some (true,()):=by
 unfold qjn
 simp only[h0,e1,e2,e3,y5,hb,hb0,hn,dT,cT,beq_self_eq_true,show(((8:Nat):Int)==8)=true from rfl]
theorem awake15:qjn 600=some (true,()):=by
 obtain⟨b,e1,hb⟩:=zy9
 obtain⟨b0,n,e2,hn,hb0⟩:=zw7
 exact j1t T15_is e1 hb e2 hn hb0 (j5o (by decide) T15 1)
theorem two_l0{k:Nat}(hk:1≤k∧k≤6){T:LI}(tl:T.length=64)(tr:Rg 255 T)(hp:Pair k T)(up:Bool):q2b 600 600 (k:Int) up T 1=some (.inr (up,())):=by
 have hf:Fmt k:=⟨hk.1,by omega⟩
 have step:∀(q:Nat) (e:Int),(e=1∨e=2)→q2b 600 (q+1) (k:Int) up T e=q2b 600 q (k:Int) up T (y0 .i64 (e+1)):=fun q e he=>by
  obtain⟨b,n,hF,hI,z⟩:=j06 hk tl tr (e:=e) (.inr he)
  have nn:=qyi hf hI.1.1 tr
  have z:=z he hp
  have hz:q82 k b T=0:=by have:=hI.2;omega
  have hn:n=0:=by have:=hI.2;omega
  subst hn
  show q86 600 (q2b 600 q) (k:Int) up T e=_
  unfold q86
  simp only[hF,zxy hI.1.1 hf hI.1.2 tl tr,hz,show e≤2 by omega,dT,cT,cF,y5,bne_self_eq_false]
 rw[step 599 1 (.inl rfl),show y0 .i64 (1+1)=2 from rfl,step 598 2 (.inr rfl),show y0 .i64 (2+1)=3 from rfl]
 rfl
theorem law15_BcfitTwo_true(f:Int)(l:LI)(which:Int)(_:IntKind.i64.has f)(hl:l.length=8∧∀x∈l,IntKind.i64.has x)(_:IntKind.i64.has which):∃F,qmk F f l which=some (true,()):=by
 refine⟨600,?_⟩
 have p0:y8 4 l=tab 4 fun c=>l.getD c 0:=by
  have:=z8p (l:=l) (N:=8) (i:=0) hl.1 (by decide)
  rw[Nat.zero_mul,List.drop_zero]at this
  rw[this]
  exact q03 fun c _=>by rw[Nat.zero_add]
 have p1:y8 4 (y9 4 l)=tab 4 fun c=>l.getD (4+c) 0:=by
  have:=z8p (l:=l) (N:=8) (i:=1) hl.1 (by decide)
  rw[Nat.one_mul]at this
  exact this
 unfold qmk
 rw[awake15,p0,p1]
 simp only[y5]
 by_cases h1:f<1
 ·simp only[h1,dT,cT]
 by_cases h6:6<f
 ·simp only[h1,h6,dT,dF,cT,cF]
 obtain⟨k,rfl⟩:∃k:Nat,f=(k:Int):=⟨f.toNat,by omega⟩
 have hk:1≤k∧k≤6:=by omega
 have hf:Fmt k:=⟨hk.1,by omega⟩
 simp only[h1,h6,dF,cF]
 rcases zk7 hf (fun c=>l.getD c 0)with ex|⟨hu,ex⟩
 ·simp only[ex,y5,Bool.not_false,cT]
 rw[ex]
 simp only[y5]
 cases ez:(q82 k (qdt k (scT k (oneT fun c=>l.getD c 0))) (oneT fun c=>l.getD c 0)==0)
 ·rfl
 simp only[Bool.not_true,cF]
 rcases zk7 hf (fun c=>l.getD (4+c) 0)with ex|⟨hv,ex⟩
 ·simp only[ex,y5,Bool.not_false,cT]
 rw[ex]
 simp only[y5]
 cases ez2:(q82 k (qdt k (scT k (oneT fun c=>l.getD (4+c) 0))) (oneT fun c=>l.getD (4+c) 0)==0)
 ·rfl
 simp only[Bool.not_true,cF]
 obtain⟨T,h,tl,hd⟩:=Two_is (fun c=>l.getD c 0) (fun c=>l.getD (4+c) 0) which
 rw[h]
 simp only[y5]
 have tr:=j5p tl hd hu hv
 rw[two_l0 hk tl tr ⟨_,_,hd,ex_of hk hu (by simpa using ez),ex_of hk hv (by simpa using ez2)⟩]
 rfl
end Go.AE.Gn

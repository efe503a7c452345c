/- A part of the proof, put together of my texts: Fw16, Fw17, Fw18, Fw19, Fw20, Fw21, Fw22, Fw23, Fw24, A02defs, A07defs, A08defs, B06defs, B10defs. -/
import Derived.OpenShut
import GoSem.ClaimWide
import Derived.Maps.Range
import Derived.DeepKeys5
import Derived.Test.YtaogfbhifeobmaaGreatRowFlatTellsP2
set_option linter.unusedVariables false
set_option linter.unusedSimpArgs false
open List renaming replicate → yz, getD_eq_getElem?_getD → ye, getElem?_append_left → yg, getElem?_eq_getElem → yj, getElem?_append_right → w9, mem_cons → yr, mem_append → yk, length → ya, length_append → yo, getElem?_eq_none → wa, set → yy, take → y8, drop → y9, getD → y7
open Option.some renaming injEq → yf
open Nat renaming le_refl → wc
open Prod.mk renaming injEq → ym
open Bool renaming and_eq_true → yl
open Go.IntKind renaming wrap → y0
open Int renaming toNat → y6, tdiv → yx, tmod → yw
namespace Go.AE
open Go Go.RowKit
variable {ρ:Type}
def st0(n:Nat):St:=⟨yz n .undef,[none]⟩
def j1q:Act:=⟨none,false,false,false⟩
noncomputable def fzOf(M:List Place)(k:Nat):Option Obj:=by
 classical exact if h:∃ob,FzAt M k ob then some h.choose else none
noncomputable def z4d(M:List Place):Place:=⟨true,0,0,0,0,fzOf M⟩
theorem j88{M:List Place}{k:Nat}{ob:Obj}(h:fzOf M k=some ob):FzAt M k ob:=by
 unfold fzOf at h
 split at h
 ·rename_i hx
  cases h
  exact hx.choose_spec
 ·cases h
theorem z4e{M:List Place}:FzSub [z4d M] M:=fun k ob ⟨i,pl,h1,h2⟩=>by
 have:pl=z4d M:=by simpa using List.mem_of_getElem? h1
 subst this
 exact j88 h2
theorem zh6{M:List Place}{H:Heap}{B:Base}{w:World}(r:RelH M H B w):FzSub M [z4d M]:=fun k ob h=>by
 refine⟨0,z4d M,rfl,?_⟩
 show fzOf M k=some ob
 have hx:∃ob,FzAt M k ob:=⟨ob,h⟩
 have e:fzOf M k=some hx.choose:=by
  unfold fzOf
  rw[dif_pos hx]
 have h1:=(r.fz k ob h).1
 have h2:=(r.fz k _ hx.choose_spec).1
 rw[h1]at h2
 rw[e,Option.some.inj h2]
theorem told0{M:List Place}{st:St}{B:Base}{w:World}{a:Array Value}(hH:RelH M st.heap B w)(n:Nat)(hn:n=a.size):Told M st B w a [j1q] [z4d M] (st0 n):=by
 refine⟨⟨by simp[st0,hn],fun t=> ?_⟩,⟨rfl,hH.base,fun i o h=> ?_,fun i j oi oj pi pj h=> ?_,fun i o pl k h=> ?_,fun i o pl h=> ?_,fun k ob h=>hH.fz k ob (z4e k ob h),fun i o pl h=> ?_,hH.bf⟩,rfl,fun i ac h=> ?_,zh6 hH,z4e⟩
 ·have:(yz n AV.undef).getD t .undef= .undef:=by
   rw[ye,List.getElem?_replicate]
   split<;>rfl
  show RelV _ ((yz n AV.undef).getD t .undef) _
  rw[this]
  exact q4i _ _
 all_goals try (cases i<;>simp[st0]at h)
 subst h
 refine⟨z4d M,rfl,fun b h=>(by cases h),⟨fun _=>⟨fun h=>(by cases h),fun h=>(by cases h)⟩,fun k ob h=>j88 h⟩,fun oi h=>(by simp[st0]at h),fun h=>(by cases h)⟩
theorem ext_rel{M:List Place}{st:St}{B:Base}{w0:World}{a:Go.Act}{w:World}(r:Rel M st B w0 a w){its:List Item}{d:D (tysI its [])}(h:extI st true its [] () [j1q]=some d){n:Nat}(hn:st.tmps.length=n):∃M',Rel M' (bldI its [] d (st0 n)).1 B w0 a w:=by
 obtain⟨⟨M2,t⟩,_⟩:=q61 r.tmps r.heap (fun h=>by cases h) (told0 (a:=a.tmps) r.heap n (by rw[←hn];exact r.tmps.1)) h
 exact⟨M2,t.tmps,r.defers,t.heap,r.below⟩
def zd0(P:Program)(st:St):List ResultVar→Option (List AV)
 |[]=>some []
 | .tmp t::r=>match zd0 P st r with
  |some l=>some (st.tmps.getD t .undef::l)
  |none=>none
 | .cell t ty::r=>match j5j P st.heap ty (st.tmps.getD t .undef),zd0 P st r with
  |some x,some l=>some (x::l)
  |_,_=>none
def retV(rs:Array Value):Value:=if h:rs.size=1 then rs[0]else .tuple rs
def retA:List AV→AV
 |[x]=>x
 |l=> .tup l
def zh7(a:Array Value)(x:ResultVar):Sem Value:=
 match x with
 | .tmp t=>pure (a.getD t undef)
 | .cell c t=>(do loadVar t (←asAddr (a.getD c undef)):Sem Value)
theorem z4f{P:Program}{M:List Place}{st:St}{B:Base}{w:World}{a:Array Value}(ht:RelT M st.tmps a)(hH:RelH M st.heap B w):∀{rs:List ResultVar} {l:List AV},zd0 P st rs=some l→
  ∃vs:List Value,RelL M l vs∧(rs.mapM (zh7 a)).run P w= .ok vs w
 |[],l,h=>by
  simp only[zd0,yf]at h
  subst h
  exact⟨[],RelL_nil.2 rfl,by simp⟩
 | .tmp t::r,l,h=>by
  simp only[zd0]at h
  split at h
  ·rename_i l' hl
   cases h
   obtain⟨vs,h1,h2⟩:=z4f ht hH hl
   have h3:(zh7 a (.tmp t)).run P w= .ok (a.getD t undef) w:=rfl
   exact⟨a.getD t undef::vs,RelL_cons.2 ⟨_,_,rfl,ht.2 t,h1⟩,by rw[List.mapM_cons];simp only[Sem.run_bind,Sem.run_pure,Result.andThen_ok,h2,h3]⟩
  ·cases h
 | .cell c t::r,l,h=>by
  simp only[zd0]at h
  split at h
  ·rename_i x l' hx hl
   cases h
   obtain⟨vs,h1,h2⟩:=z4f ht hH hl
   obtain⟨A,u,e,hu,hrun⟩:=zgl hH (ht.2 c) hx
   have h3:(zh7 a (.cell c t)).run P w= .ok u w:=by
    show((do loadVar t (←asAddr (a.getD c undef)):Sem Value)).run P w=_
    rw[Sem.run_bind,e]
    simp only[asAddr,Sem.run_pure,Result.andThen_ok]
    exact hrun w (Below.refl _ _)
   exact⟨u::vs,RelL_cons.2 ⟨_,_,rfl,hu,h1⟩,by rw[List.mapM_cons];simp only[Sem.run_bind,Sem.run_pure,Result.andThen_ok,h2,h3]⟩
  ·cases h
theorem zh8{P:Program}{M:List Place}{st:St}{B:Base}{w:World}{a:Array Value}(ht:RelT M st.tmps a)(hH:RelH M st.heap B w){fn:Func}{l:List AV}(h:zd0 P st fn.results.toList=some l):
  ∃vs:Array Value,RelL M l vs.toList∧(results fn a).run P w= .ok (retV vs) w:=by
 obtain⟨vs,h1,h2⟩:=z4f ht hH h
 refine⟨vs.toArray,by simpa using h1,?_⟩
 have h3:(fn.results.mapM (zh7 a)).run P w= .ok vs.toArray w:=by
  rw[Array.mapM_eq_mapM_toList]
  show((List.toArray<$>fn.results.toList.mapM (zh7 a):Sem (Array Value))).run P w=_
  rw[map_eq_pure_bind,Sem.run_bind,h2]
  rfl
 have h4:results fn a=(do
   let vs←fn.results.mapM (zh7 a)
   pure (if h:vs.size=1 then vs[0]else .tuple vs)):=by
  unfold results
  have:(fun(x:ResultVar)=>(match x with| .tmp t=>pure (a.getD t undef)| .cell c t=>(do loadVar t (←asAddr (a.getD c undef)):Sem Value):Sem Value))=zh7 a:=by
   funext x
   cases x<;>rfl
  rw[←this]
  rfl
 rw[h4,Sem.run_bind,h3]
 rfl
theorem zs8{M:List Place}{l:List AV}{vs:Array Value}(h:RelL M l vs.toList):RelV M (retA l) (retV vs):=by
 have hlen:∀{l:List AV} {vs:List Value},RelL M l vs→l.length=vs.length:=by
  intro l
  induction l with
  |nil=>intro vs h;rw[RelL_nil]at h;subst h;rfl
  |cons x l ih=>intro vs h;obtain⟨v,r,rfl,_,hr⟩:=RelL_cons.1 h;simp[ih hr]
 have hl:=hlen h
 simp at hl
 unfold retA retV
 split
 ·rename_i x
  simp at hl
  rw[dif_pos hl.symm]
  obtain⟨v,r,e,hx,hr⟩:=RelL_cons.1 h
  rw[RelL_nil]at hr
  subst hr
  have:vs[0]'(by omega)=v:=by
   have:=congrArg (fun l:List Value=>l[0]?) e
   simpa[hl.symm]using this
  rw[this]
  exact hx
 ·rename_i hne
  rw[dif_neg]
  ·simp only[RelV,RelX]
   exact⟨vs,rfl,h⟩
  ·intro h1
   rw[h1]at hl
   obtain⟨x,rfl⟩:=List.length_eq_one_iff.1 hl
   exact hne x rfl
def zqr(P:Program)(cal:Cal ρ)(qcal:QCal ρ)(ann:Nat→Option (Ann ρ))(f:FuncId)(args:List AV)(H:Heap)(K:List AV→Heap→Option ρ):Option ρ:=
 match P.funcs[f]? with
 |some fn=>match fn.body with
  |some c=>q7c P cal qcal ann c ⟨args++yz (fn.ntmps-args.length) .undef,H⟩ fun e st=>match e with
   | .normal| .ret=>match zd0 P st fn.results.toList with
    |some l=>K l st.heap
    |none=>none
   |_=>none
  |none=>none
 |none=>none
theorem z5x{M:List Place}:∀{l:List AV} {vs:List Value},RelL M l vs→l.length=vs.length
 |[],vs,h=>by rw[RelL_nil]at h;subst h;rfl
 |x::l,vs,h=>by obtain⟨v,r,rfl,_,hr⟩:=RelL_cons.1 h;simp[z5x hr]
theorem zh9{M:List Place}{args:List AV}{vs:Array Value}(h:RelL M args vs.toList)(n:Nat):RelT M (args++yz n .undef) (vs++Array.replicate n undef):=by
 have hs:=z5x h
 simp at hs
 refine⟨by simp[hs],fun t=> ?_⟩
 by_cases ht:t<args.length
 ·have e1:(args++yz n AV.undef).getD t .undef=args[t]:=by simp[ye,yg ht,ht]
  rw[e1]
  obtain⟨v,hv,hr⟩:=zru h (yj ht)
  have e2:(vs++Array.replicate n undef).getD t undef=v:=by
   have hv' :vs[t]? =some v:=by simpa using hv
   simp[Array.getElem?_append_left (show t<vs.size by omega),hv']
  rw[e2]
  exact hr
 ·have e1:(args++yz n AV.undef).getD t .undef= .undef:=by
   rw[ye,w9 (by omega),List.getElem?_replicate]
   split<;>rfl
  rw[e1]
  exact q4i _ _
theorem zc5{P:Program}(hP:q1y P){cal:Cal ρ}(hcal:∀f,qvu P f (cal f)){qcal:QCal ρ}(hq:∀f,qn1 P f (qcal f)){ann:Nat→Option (Ann ρ)}{x:Bool}{f:FuncId}{args:List AV}{H:Heap}{K:List AV→Heap→Option ρ}{r:ρ}
  (h:zqr P cal qcal ann f args H K=some r) {M:List Place} {B:Base} {w:World} {vs:Array Value}
  (hann:∀fn c,P.funcs[f]? =some fn→fn.body=some c→∀id an c',ann id=some an→(id,c')∈qa3 c→z9g P x B w (.block id c') an)
  (hl:RelL M args vs.toList) (hH:RelH M H B w):
  Calls P f vs w fun e w' =>∃rs l H' M',e= .returned (retV rs)∧K l H' =some r∧ExtO x M M' ∧RelL M' l rs.toList∧RelH M' H' B w' ∧Beneath B w w' :=by
 unfold zqr at h
 split at h
 ·rename_i fn hf
  split at h
  ·rename_i c hb
   have hs:=z5x hl
   simp at hs
   refine calls_of_wp hf hb ?_
   have hr0:Rel M ⟨args++yz (fn.ntmps-args.length) .undef,H⟩ B w {tmps:=vs++Array.replicate (fn.ntmps-vs.size) undef,defers:=[]} w:=
    ⟨by rw[hs];exact zh9 hl _,rfl,hH,Beneath.refl _ _⟩
   refine qhf hP hcal hq c (hann fn c hf hb) _ _ h M _ w _ hr0 fun e M' st' a' w' hE hk hr=> ?_
   have fin:(match zd0 P st' fn.results.toList with|some l=>K l st'.heap|none=>none)=some r→
     a'.defers=[]∧∃v,(results fn a'.tmps).run P w' = .ok v w' ∧∃rs l H' M',Ending.returned v= .returned (retV rs)∧K l H' =some r∧ExtO x M M' ∧RelL M' l rs.toList∧RelH M' H' B w' ∧Beneath B w w' :=by
    intro hk
    split at hk
    ·rename_i l hres
     obtain⟨rs,h1,h2⟩:=zh8 hr.tmps hr.heap hres
     exact⟨hr.defers,_,h2,rs,l,_,M',rfl,hk,hE,h1,hr.heap,hr.below⟩
    ·cases hk
   cases e<;>simp only[reduceCtorEq]at hk
   case normal=>exact fin hk
   case ret=>exact fin hk
  ·cases h
 ·cases h
structure Env (ρ:Type) where
 sum:FuncId→Option (List AV→Heap→(AV→Heap→Option ρ)→Option ρ)
 qsum:FuncId→Option (List AV→Heap→(AV→Option ρ)→Option ρ)
structure EnvOk (P:Program) (E:Env ρ):Prop where
 sum:∀f s,E.sum f=some s→qvu P f s
 qsum:∀f s,E.qsum f=some s→qn1 P f s
def qof(E:Env ρ):QCal ρ:=fun f args H K=>match E.qsum f with
 |some s=>s args H K
 |none=>none
def evFn(P:Program)(E:Env ρ):Nat→Cal ρ
 |0=>fun _ _ _ _=>none
 |n+1=>fun f args H K=>match E.sum f with
  |some s=>s args H K
  |none=>zqr P (evFn P E n) (qof E) (fun _=>none) f args H fun l H' =>K (retA l) H'
theorem j40{P:Program}{E:Env ρ}(hE:EnvOk P E)(f:FuncId):qn1 P f (qof E f):=by
 intro args H K r h M B w vs hl hH
 unfold qof at h
 split at h
 ·rename_i s hs
  exact hE.qsum f s hs args H K r h M B w vs hl hH
 ·cases h
theorem zha{P:Program}(hP:q1y P){E:Env ρ}(hE:EnvOk P E):∀(n:Nat) (f:FuncId),qvu P f (evFn P E n f)
 |0,f=>fun args H K r h=>by cases h
 |n+1,f=>by
  intro args H K r h M B w vs hl hH
  unfold evFn at h
  split at h
  ·rename_i s hs
   exact hE.sum f s hs args H K r h M B w vs hl hH
  ·refine(zc5 hP (zha hP hE n) (j40 hE) (x:=true) h (fun _ _ _ _ id an c' h1=>(by cases h1)) hl hH).mono ?_
   rintro e w' ⟨rs,l,H',M',h1,h2,h3,h4,h5,h6⟩
   exact⟨retV rs,retA l,H',M',h1,h2,h3 rfl,h5,h6,zs8 h4⟩
inductive CO where
 |hole (t:Ty)
 |const (a:AV)
 |row (k:IntKind) (sz:Nat) (own:Bool)
inductive Out where
 |ty (t:Ty)
 |row (k:IntKind) (sz:Nat) (own:Bool:=true)
 |agg (cs:List CO)
 |prow (pin:Nat) (k:IntKind)
 |psegs (pin:Nat) (cs:List CO)
@[reducible] def z9k:List CO→List Ty→List Ty
 |[],acc=>acc
 | .hole t::r,acc=>t::z9k r acc
 | .const _::r,acc=>z9k r acc
 | .row k _ _::r,acc=> .row k::z9k r acc
@[reducible] def tysO:List Out→List Ty
 |[]=>[]
 | .ty t::r=>t::tysO r
 | .row k _ _::r=> .row k::tysO r
 | .agg cs::r=>z9k cs (tysO r)
 | .prow _ k::r=> .row k::tysO r
 | .psegs _ cs::r=>z9k cs (tysO r)
def zn3:List CO→Nat
 |[]=>0
 | .row _ _ _::r=>zn3 r+1
 |_::r=>zn3 r
def slO(b sz:Nat)(l:LI)(own:Bool):AV:= .sl b 0 (div1 l.length sz) sz (if own then .own else .whole)
def z4g:(cs:List CO)→(acc:List Ty)→D (z9k cs acc)→Nat→List AV
 |[],_,_,_=>[]
 | .hole t::r,acc,d,b=>mkC t d.1::z4g r acc d.2 b
 | .const a::r,acc,d,b=>a::z4g r acc d b
 | .row _ sz own::r,acc,d,b=>slO b sz d.1 own::z4g r acc d.2 (b+1)
def qj7:(cs:List CO)→(acc:List Ty)→D (z9k cs acc)→Heap
 |[],_,_=>[]
 | .hole _::r,acc,d=>qj7 r acc d.2
 | .const _::r,acc,d=>qj7 r acc d
 | .row k _ own::r,acc,d=>some ⟨.row k d.1,own,none⟩::qj7 r acc d.2
def qtl:(cs:List CO)→(acc:List Ty)→D (z9k cs acc)→D acc
 |[],_,d=>d
 | .hole _::r,acc,d=>qtl r acc d.2
 | .const _::r,acc,d=>qtl r acc d
 | .row _ _ _::r,acc,d=>qtl r acc d.2
def avsO:(os:List Out)→D (tysO os)→Nat→List AV
 |[],_,_=>[]
 | .ty t::r,d,b=>mkT t d.1::avsO r d.2 b
 | .row _ sz own::r,d,b=>slO b sz d.1 own::avsO r d.2 (b+1)
 | .agg cs::r,d,b=> .agg (z4g cs (tysO r) d b)::avsO r (qtl cs (tysO r) d) (b+zn3 cs)
 | .prow _ _::r,d,b=>avsO r d.2 b
 | .psegs _ cs::r,d,b=>avsO r (qtl cs (tysO r) d) (b+zn3 cs)
def qds:(os:List Out)→D (tysO os)→Heap
 |[],_=>[]
 | .ty _::r,d=>qds r d.2
 | .row k _ own::r,d=>some ⟨.row k d.1,own,none⟩::qds r d.2
 | .agg cs::r,d=>qj7 cs (tysO r) d++qds r (qtl cs (tysO r) d)
 | .prow _ _::r,d=>qds r d.2
 | .psegs _ cs::r,d=>qj7 cs (tysO r) d++qds r (qtl cs (tysO r) d)
def upsO:(os:List Out)→D (tysO os)→Nat→List (Nat×Cont)
 |[],_,_=>[]
 | .ty _::r,d,b=>upsO r d.2 b
 | .row _ _ _::r,d,b=>upsO r d.2 (b+1)
 | .agg cs::r,d,b=>upsO r (qtl cs (tysO r) d) (b+zn3 cs)
 | .prow pin k::r,d,b=>(pin,.row k d.1)::upsO r d.2 b
 | .psegs pin cs::r,d,b=>(pin,.segs (z4g cs (tysO r) d b))::upsO r (qtl cs (tysO r) d) (b+zn3 cs)
theorem qpc:∀{cs:List CO} {acc:List Ty} {d:D (z9k cs acc)},(qj7 cs acc d).length=zn3 cs
 |[],_,_=>rfl
 | .hole _::r,acc,d=>qpc (cs:=r) (d:=d.2)
 | .const _::r,acc,d=>qpc (cs:=r) (d:=d)
 | .row _ _ _::r,acc,d=>by simp[qj7,zn3,qpc (cs:=r) (d:=d.2)]
theorem ql5:∀{cs:List CO} {acc:List Ty} {d:D (z9k cs acc)},∀x∈qj7 cs acc d,x≠none
 |[],_,_=>by simp[qj7]
 | .hole _::r,acc,d=>ql5 (cs:=r) (d:=d.2)
 | .const _::r,acc,d=>ql5 (cs:=r) (d:=d)
 | .row _ _ _::r,acc,d=>by
  intro x hx
  simp only[qj7,yr]at hx
  rcases hx with rfl|hx
  ·simp
  ·exact ql5 (cs:=r) (d:=d.2) x hx
theorem qpd:∀{os:List Out} {d:D (tysO os)},∀x∈qds os d,x≠none
 |[],_=>by simp[qds]
 | .ty _::r,d=>qpd (os:=r) (d:=d.2)
 | .row _ _ _::r,d=>by
  intro x hx
  simp only[qds,yr]at hx
  rcases hx with rfl|hx
  ·simp
  ·exact qpd (os:=r) (d:=d.2) x hx
 | .agg cs::r,d=>by
  intro x hx
  simp only[qds,yk]at hx
  rcases hx with hx|hx
  ·exact ql5 x hx
  ·exact qpd x hx
 | .prow _ _::r,d=>qpd (os:=r) (d:=d.2)
 | .psegs _ cs::r,d=>by
  intro x hx
  simp only[qds,yk]at hx
  rcases hx with hx|hx
  ·exact ql5 x hx
  ·exact qpd x hx
theorem j5x{os:List Out}{d:D (tysO os)}(i:Nat)(hi:i<(qds os d).length):(qds os d)[i]≠none:=qpd _ (List.getElem_mem hi)
def zd1:Heap→Nat→Nat→Option Nat
 |[],_,_=>none
 |o::r,k,i=>match o with
  |some ob=>if ob.pin=some k then some i else zd1 r k (i+1)
  |none=>zd1 r k (i+1)
theorem z9l:∀{H:Heap} {k i b:Nat},zd1 H k i=some b→i≤b∧∃o,H[b-i]? =some (some o)∧o.pin=some k
 |[],k,i,b,h=>by cases h
 |o::r,k,i,b,h=>by
  have next:zd1 r k (i+1)=some b→i≤b∧∃o',(o::r)[b-i]? =some (some o')∧o'.pin=some k:=by
   intro h
   obtain⟨h1,o',h2,h3⟩:=z9l h
   refine⟨by omega,o',?_,h3⟩
   rw[show b-i=(b-(i+1))+1 by omega]
   simpa using h2
  unfold zd1 at h
  split at h
  ·rename_i ob
   split at h
   ·rename_i hk
    cases h
    exact⟨wc _,ob,by simp,hk⟩
   ·exact next h
  ·exact next h
def j89(H:Heap)(k:IntKind)(sz:Nat)(own:Bool)(x:AV)(used:List Nat):Option (LI×List Nat):=
 match x with
 | .nils=>if 1≤sz then some ([],used)else none
 | .sl b off len s c=>if s=sz∧1≤sz∧used.contains b=false∧(own=true→c= .own)then
   match H[b]? with
   |some (some ⟨_,o,_⟩)=>if own=true→o=true then
     match zbx H (.sl b off len s c)with
     |some (.row k' l)=>if k' =k then some (l,b::used)else none
     |_=>none
    else none
   |_=>none
  else none
 |_=>none
def exCO(H:Heap):(cs:List CO)→(acc:List Ty)→(List Nat→Option (D acc))→List AV→List Nat→Option (D (z9k cs acc))
 |[],_,rest,[],used=>rest used
 | .hole t::r,acc,rest,xs,used=>match popC t xs with
  |some (v,ys)=>match exCO H r acc rest ys used with
   |some d=>some (v,d)
   |none=>none
  |none=>none
 | .const a::r,acc,rest,x::xs,used=>if zs6 a x then exCO H r acc rest xs used else none
 | .row k sz own::r,acc,rest,x::xs,used=>match j89 H k sz own x used with
  |some (l,used')=>match exCO H r acc rest xs used' with
   |some d=>some (l,d)
   |none=>none
  |none=>none
 |_,_,_,_,_=>none
def exO(H:Heap)(kept:List Nat):(os:List Out)→List AV→List Nat→Option (D (tysO os))
 |[],[],_=>some ()
 | .ty t::r,x::xs,used=>match getT t x,exO H kept r xs used with
  |some v,some d=>some (v,d)
  |_,_=>none
 | .row k sz own::r,x::xs,used=>match j89 H k sz own x used with
  |some (l,used')=>match exO H kept r xs used' with
   |some d=>some (l,d)
   |none=>none
  |none=>none
 | .agg cs::r,x::xs,used=>match x with
  | .agg ys=>exCO H cs (tysO r) (exO H kept r xs) ys used
  |_=>none
 | .prow pin k::r,xs,used=>match zd1 H pin 0 with
  |some b=>match H[b]? with
   |some (some ⟨.row k' l,true,_⟩)=>if k' =k∧kept.contains b=true then(match exO H kept r xs used with|some d=>some (l,d)|none=>none)else none
   |_=>none
  |none=>none
 | .psegs pin cs::r,xs,used=>match zd1 H pin 0 with
  |some b=>match H[b]? with
   |some (some ⟨.segs ys,true,_⟩)=>if kept.contains b=true then exCO H cs (tysO r) (exO H kept r xs) ys used else none
   |_=>none
  |none=>none
 |_,_,_=>none
def zhb(H:Heap):List Out→List Nat
 |[]=>[]
 | .prow pin _::r=>(match zd1 H pin 0 with|some b=>[b]|none=>[])++zhb H r
 | .psegs pin _::r=>(match zd1 H pin 0 with|some b=>[b]|none=>[])++zhb H r
 |_::r=>zhb H r
structure News (B:Base) (w:World) (N:List Place) (H:Heap):Prop where
 len:N.length=H.length
 obj:∀(i:Nat) (o:AObj),H[i]? =some (some o)→o.pin=none∧(∃k l,o.c= .row k l)∧∃pl,N[i]? =some pl∧qmu [] o pl B w∧(pl.nil=false→B.vis pl.blk)
 sep:∀(i j:Nat) (oi oj:AObj) (pi pj:Place),H[i]? =some (some oi)→H[j]? =some (some oj)→N[i]? =some pi→N[j]? =some pj→i≠j→oi.own=true→pi.nil=false→pj.nil=false→pi.blk≠pj.blk
def z5y:List CO→Bool
 |[]=>false
 | .hole t::r=>t.deep||z5y r
 |_::r=>z5y r
def qwm:List Out→Bool
 |[]=>false
 | .ty t::r=>t.deep||qwm r
 | .agg cs::r=>z5y cs||qwm r
 | .psegs _ cs::r=>z5y cs||qwm r
 |_::r=>qwm r
def fzH(os:List Out):Heap:=if qwm os then[none]else[]
def j8a(B:Base)(w:World)(os:List Out)(d:D (tysO os))(vs:List Value):Prop:=
 ∃N F:List Place,News B w N (qds os d)∧F.length=(fzH os).length∧(∀k ob,¬FzAt N k ob)∧
  (∀k ob,FzAt F k ob→w.heap[k]? =some ob∧B.vis k∧(B.w k∨B.f k))∧
  (∀(i:Nat) (pi:Place) (oi:AObj),N[i]? =some pi→(qds os d)[i]? =some (some oi)→oi.own=true→pi.nil=false→¬B.f pi.blk∧∀ob,¬FzAt F pi.blk ob)∧
  (∀M:List Place,RelL (M++(N++F)) (avsO os d M.length) vs)∧
  ∀(M:List Place) (pin:Nat) (c:Cont),(pin,c)∈upsO os d M.length→∃pl,B.pin pin pl∧qmu (M++(N++F)) ⟨c,true,none⟩ pl B w∧
   (∀(i:Nat) (pi:Place),N[i]? =some pi→pi.nil=false→pl.nil=false→pi.blk≠pl.blk)∧(pl.nil=false→∀ob,¬FzAt F pl.blk ob)
theorem News.nil(B:Base)(w:World):News B w [] []:=⟨rfl,fun i o h=>(by simp at h),fun i j oi oj pi pj h=>(by simp at h)⟩
def IntoB(M:List Place)(H:Heap)(used:List Nat)(N:List Place)(Hn:Heap):Prop:=
 ∀(i:Nat) (pi:Place) (oi:AObj),N[i]? =some pi→Hn[i]? =some (some oi)→pi.nil=false→∃b o p,b∈used∧H[b]? =some (some o)∧M[b]? =some p∧p.nil=false∧pi.blk=p.blk∧(oi.own=true→o.own=true)
def FromB(M:List Place)(H:Heap)(used:List Nat)(N:List Place)(Hn:Heap):Prop:=
 ∀(i:Nat) (pi:Place) (oi:AObj),N[i]? =some pi→Hn[i]? =some (some oi)→pi.nil=false→∃b o p,b∉used∧H[b]? =some (some o)∧M[b]? =some p∧p.nil=false∧pi.blk=p.blk∧(oi.own=true→o.own=true)
theorem News.append{B:Base}{w:World}{M:List Place}{H:Heap}(hH:RelH M H B w){N1 N2:List Place}{H1 H2:Heap}{used used2:List Nat}(h1:News B w N1 H1)(h2:News B w N2 H2)(f1:FromB M H used N1 H1)(f2:FromB M H used2 N2 H2)
  (hu:IntoB M H used2 N1 H1):News B w (N1++N2) (H1++H2):=by
 have hl:=h1.len
 have part:∀(i:Nat) (o:AObj),(H1++H2)[i]? =some (some o)→(i<N1.length∧H1[i]? =some (some o)∧(N1++N2)[i]? =N1[i]?)∨(N1.length≤i∧H2[i-N1.length]? =some (some o)∧(N1++N2)[i]? =N2[i-N1.length]?):=by
  intro i o h
  by_cases hi:i<N1.length
  ·rw[yg (by omega)]at h
   exact .inl ⟨hi,h,yg hi⟩
  ·rw[w9 (by omega)]at h
   rw[←hl]at h
   exact .inr ⟨by omega,h,w9 (by omega)⟩
 have cross:∀(i j:Nat) (oi oj:AObj) (pi pj:Place),N1[i]? =some pi→H1[i]? =some (some oi)→N2[j]? =some pj→H2[j]? =some (some oj)→(oi.own=true∨oj.own=true)→pi.nil=false→pj.nil=false→pi.blk≠pj.blk:=by
  intro i j oi oj pi pj a1 a2 b1 b2 ho n1 n2
  obtain⟨b,o,p,c1,c2,c3,c4,c5,c6⟩:=hu i pi oi a1 a2 n1
  obtain⟨b',o',p',e1,e2,e3,e4,e5,e6⟩:=f2 j pj oj b1 b2 n2
  have hne:b≠b' :=fun e=>e1 (e▸c1)
  rw[c5,e5]
  rcases ho with ho|ho
  ·exact hH.sep b b' o o' p p' c2 e2 c3 e3 hne (c6 ho) c4 e4
  ·exact fun e=>hH.sep b' b o' o p' p e2 c2 e3 c3 (fun e=>hne e.symm) (e6 ho) e4 c4 e.symm
 refine⟨by simp[hl,h2.len],fun i o h=> ?_,fun i j oi oj pi pj hi hj hpi hpj hne how hni hnj=> ?_⟩
 ·rcases part i o h with⟨_,g1,g2⟩|⟨_,g1,g2⟩
  ·obtain⟨a1,a2,pl,a3,a4⟩:=h1.obj i o g1
   exact⟨a1,a2,pl,by rw[g2];exact a3,a4⟩
  ·obtain⟨a1,a2,pl,a3,a4⟩:=h2.obj _ o g1
   exact⟨a1,a2,pl,by rw[g2];exact a3,a4⟩
 ·rcases part i oi hi with⟨l1,g1,g2⟩|⟨l1,g1,g2⟩<;>rcases part j oj hj with⟨l2,k1,k2⟩|⟨l2,k1,k2⟩
  ·exact h1.sep i j oi oj pi pj g1 k1 (by rw[←g2];exact hpi) (by rw[←k2];exact hpj) hne how hni hnj
  ·exact cross i _ oi oj pi pj (by rw[←g2];exact hpi) g1 (by rw[←k2];exact hpj) k1 (.inl how) hni hnj
  ·exact fun e=>cross j _ oj oi pj pi (by rw[←k2];exact hpj) k1 (by rw[←g2];exact hpi) g1 (.inr how) hnj hni e.symm
  ·exact h2.sep _ _ oi oj pi pj g1 k1 (by rw[←g2];exact hpi) (by rw[←k2];exact hpj) (by omega) how hni hnj
theorem zhc{M:List Place}{H:Heap}{B:Base}{w:World}(hH:RelH M H B w){k:IntKind}{sz:Nat}{own:Bool}{x:AV}{used used' :List Nat}{l:LI}(h:j89 H k sz own x used=some (l,used')){v:Value}(hx:RelV M x v):
  ∃pl,pl.fz=noFz∧News B w [pl] [some ⟨.row k l,own,none⟩]∧FromB M H used [pl] [some ⟨.row k l,own,none⟩]∧(∀b∈used,b∈used')∧
   IntoB M H used' [pl] [some ⟨.row k l,own,none⟩]∧
   ∀M' :List Place,∀b,M'[b]? =some pl→RelV M' (slO b sz l own) v:=by
 have one:∀(pl:Place),qmu [] ⟨.row k l,own,none⟩ pl B w→(pl.nil=false→B.vis pl.blk)→News B w [pl] [some ⟨.row k l,own,none⟩]:=by
  intro pl h1 h2
  refine⟨rfl,fun i o ho=> ?_,fun i j oi oj pi pj hi hj _ _ hne=> ?_⟩
  ·cases i with
   |zero=>simp at ho;subst ho;exact⟨rfl,⟨k,l,rfl⟩,pl,rfl,h1,h2⟩
   |succ i=>simp at ho
  ·have h1:=(List.getElem?_eq_some_iff.1 hi).1
   have h2:=(List.getElem?_eq_some_iff.1 hj).1
   simp at h1 h2
   omega
 have at0:∀(pl pi:Place) (oi:AObj) (i:Nat),[pl][i]? =some pi→[some (⟨.row k l,own,none⟩:AObj)][i]? =some (some oi)→pi=pl∧oi=⟨.row k l,own,none⟩:=by
  intro pl pi oi i h1 h2
  cases i with
  |zero=>simp at h1 h2;exact⟨h1.symm,h2.symm⟩
  |succ i=>simp at h1
 unfold j89 at h
 split at h
 ·split at h
  ·rename_i hs
   cases h
   have hv:v= .slice none 0 0:=by simpa[RelV,RelX]using hx
   subst hv
   refine⟨⟨true,0,0,0,0,noFz⟩,rfl,one _ (.inl ⟨rfl,rfl,by simp[RelO]⟩) (fun h=>(by cases h)),fun i pi oi h1 h2 hn=> ?_,fun b hb=>hb,fun i pi oi h1 h2 hn=> ?_,fun M' b hb=> ?_⟩
   ·rw[(at0 _ _ _ _ h1 h2).1]at hn;cases hn
   ·rw[(at0 _ _ _ _ h1 h2).1]at hn;cases hn
   ·unfold slO
    rw[qrv (n:=([]:LI).length) (len:=0) (by simp) hs]
    simp only[RelV,RelX]
    exact⟨⟨true,0,0,0,0,noFz⟩,none,0,hb,rfl,by simp,wc _,fun _=>⟨fun _=>rfl,rfl⟩,fun h=>(by cases h),fun hf=>(by cases own<;>simp at hf),fun _=>⟨trivial,rfl,by simp,by simp⟩,fun _=>⟨trivial,by simp⟩,by rw[has_iff];simp[loB,hiB]⟩
  ·cases h
 ·rename_i b off len s c
  split at h
  ·rename_i hcond
   obtain⟨rfl,hs,hnu,hco⟩:=hcond
   split at h
   ·rename_i oc o op hob
    split at h
    ·rename_i hoo
     split at h
     ·rename_i k' l' hwc
      split at h
      ·rename_i hk
       subst hk
       cases h
       obtain⟨us,hus,lus⟩:=qpa hH hx hwc (fun _ _ _ _ _ e=>by cases e;rfl)
       obtain⟨pl0,hpl0,hok0⟩:=hH.obj b _ hob
       have hx0:=hx
       simp only[RelV,RelX]at hx0
       obtain⟨pl,A,cap,hpl,hv,hb,hcap,hnil,hnn,hfull,hown,hwhole,hhas⟩:=hx0
       rw[hpl0]at hpl
       cases hpl
       have hv:v= .slice A len cap:=by simpa using hv
       have hlus:=lus.1
       simp only[qjl]at hlus
       have hll:l.length=len*s:=by have:=congrArg ya hus.1;simp at this;omega
       have hdiv:=qrv hll hs
       have hnb:b∉used:=fun hm=>by
        have:used.contains b=true:=by simpa using hm
        rw[this]at hnu;cases hnu
       have off0:own=true→off=0∧pl0.off=0∧len*s=pl0.n∧cap*s≤pl0.size:=fun ho=>hown (hco ho)
       refine⟨⟨pl0.nil,pl0.blk,pl0.off+off,len*s,pl0.size,noFz⟩,rfl,one _ ?_ (fun hn=>hH.vis b _ pl0 hob hpl0 hn),fun i pi oi h1 h2 hn=> ?_,fun b' hb' =>by simp[hb'],fun i pi oi h1 h2 hn=> ?_,fun M' b' hb' => ?_⟩
       ·cases hn:pl0.nil with
        |true=>
         have h1:=(hnil hn).2
         have hl0:len=0:=by omega
         have:l=[]:=List.eq_nil_of_length_eq_zero (by rw[hll];simp[hl0])
         subst this
         exact .inl ⟨rfl,by simp[hl0],by simp[RelO]⟩
        |false=>
         rcases hok0 with⟨n1,_⟩|⟨_,cs,el,fz,g1,g2,g3,g4,g5⟩
         ·rw[hn]at n1;cases n1
         ·refine .inr ⟨rfl,cs,el,fz,g1,g2,by simp only;omega,?_,fun ho=> ?_⟩
          ·simp only
           have hu:us=(cs.toList.drop (pl0.off+off)).take (len*s):=by
            obtain⟨_,A2,cap2,hv2,_,hm⟩:=lus
            simp only[qjl]at hv2 hm
            by_cases hz:len*s=0
            ·rw[hz]at hlus⊢
             have:us=[]:=List.eq_nil_of_length_eq_zero hlus
             rw[this];simp
            ·rcases hm with hm|⟨blk,o2,cs2,el2,fz2,e,hg2,hle2,hus2⟩
             ·exact absurd hm hz
             ·have hl0:0<len:=by
               rcases Nat.eq_zero_or_pos len with h0|h0
               ·rw[h0]at hz;simp at hz
               ·exact h0
              have hA:=(hnn hn).2 (.inl hl0)
              rw[hv]at hv2
              injection hv2 with e1
              rw[←e1,hA]at e
              injection e with e
              injection e with e2 e3
              rw[←e2,g1]at hg2
              cases hg2
              rw[hus2,←e3]
           rw[←hu]
           exact hus
          ·simp only at ho
           obtain⟨z1,z2,z3⟩:=g5 (hoo ho)
           obtain⟨y1,y2,y3,y4⟩:=off0 ho
           exact⟨z1,by simp[y1,y2],z3⟩
       ·obtain⟨e1,e2⟩:=at0 _ _ _ _ h1 h2
        subst e1;subst e2
        exact⟨b,_,pl0,hnb,hob,hpl0,hn,rfl,hoo⟩
       ·obtain⟨e1,e2⟩:=at0 _ _ _ _ h1 h2
        subst e1;subst e2
        exact⟨b,_,pl0,by simp,hob,hpl0,hn,rfl,hoo⟩
       ·unfold slO
        rw[hdiv]
        simp only[RelV,RelX]
        refine⟨⟨pl0.nil,pl0.blk,pl0.off+off,len*s,pl0.size,noFz⟩,A,cap,hb',by rw[hv],by simp,hcap,fun hn=>⟨fun hf=> ?_,(hnil hn).2⟩,fun hn=>⟨(hnn hn).1,fun hq=> ?_⟩,fun hf=>(by cases own<;>simp at hf),fun hf=> ?_,fun _=>⟨trivial,rfl⟩,hhas⟩
        ·exact(hnil hn).1 (hco (by cases own with|true=>rfl|false=>simp at hf))
        ·have h1:0<len∨c= .own:=by
          rcases hq with hq|hq
          ·exact .inl hq
          ·exact .inr (hco (by cases own with|true=>rfl|false=>simp at hq))
         simpa using(hnn hn).2 h1
        ·have ho:own=true:=by cases own with|true=>rfl|false=>simp at hf
         obtain⟨y1,y2,y3,y4⟩:=off0 ho
         exact⟨trivial,by simp[y1,y2],rfl,y4⟩
      ·cases h
     ·cases h
    ·cases h
   ·cases h
  ·cases h
 ·cases h
theorem FromB.append{M:List Place}{H:Heap}{used used2:List Nat}{N1 N2:List Place}{H1 H2:Heap}(hl:N1.length=H1.length)(f1:FromB M H used N1 H1)(f2:FromB M H used2 N2 H2)(hu:∀b∈used,b∈used2):FromB M H used (N1++N2) (H1++H2):=by
 intro i pi oi h1 h2 hn
 by_cases hi:i<N1.length
 ·rw[yg hi]at h1
  rw[yg (by omega)]at h2
  exact f1 i pi oi h1 h2 hn
 ·rw[w9 (by omega)]at h1
  rw[w9 (by omega),←hl]at h2
  obtain⟨b,o,p,a1,a2⟩:=f2 _ pi oi h1 h2 hn
  exact⟨b,o,p,fun h=>a1 (hu b h),a2⟩
theorem IntoB.append{M:List Place}{H:Heap}{used used2:List Nat}{N1 N2:List Place}{H1 H2:Heap}(hl:N1.length=H1.length)(f1:IntoB M H used N1 H1)(f2:IntoB M H used2 N2 H2)(hu:∀b∈used,b∈used2):IntoB M H used2 (N1++N2) (H1++H2):=by
 intro i pi oi h1 h2 hn
 by_cases hi:i<N1.length
 ·rw[yg hi]at h1
  rw[yg (by omega)]at h2
  obtain⟨b,o,p,a1,a2⟩:=f1 i pi oi h1 h2 hn
  exact⟨b,o,p,hu b a1,a2⟩
 ·rw[w9 (by omega)]at h1
  rw[w9 (by omega),←hl]at h2
  exact f2 _ pi oi h1 h2 hn
theorem FromB.nil(M:List Place)(H:Heap)(used:List Nat):FromB M H used [] []:=fun i pi oi h=>by simp at h
theorem IntoB.nil(M:List Place)(H:Heap)(used:List Nat):IntoB M H used [] []:=fun i pi oi h=>by simp at h
theorem qku{M:List Place}{H:Heap}{B:Base}{w:World}(hH:RelH M H B w):∀{cs:List CO} {acc:List Ty} {rest:List Nat→Option (D acc)} {xs:List AV} {vs:List Value} {used:List Nat} {d:D (z9k cs acc)},exCO H cs acc rest xs used=some d→RelC M xs vs→
  ∃N used',(∀k ob,¬FzAt N k ob)∧News B w N (qj7 cs acc d)∧FromB M H used N (qj7 cs acc d)∧(∀b∈used,b∈used')∧IntoB M H used' N (qj7 cs acc d)∧
   (∀M' Nr:List Place,(z5y cs=true→FzSub M Nr)→RelC (M' ++N++Nr) (z4g cs acc d M'.length) vs)∧rest used' =some (qtl cs acc d)
 |[],acc,rest,xs,vs,used,d,h,hr=>by
  cases xs with
  |nil=>
   simp only[exCO]at h
   rw[RelC_nil]at hr
   exact⟨[],used,fun k ob h=>FzAt.nil h,News.nil B w,FromB.nil _ _ _,fun b hb=>hb,IntoB.nil _ _ _,fun M' Nr _=>by simp only[z4g];rw[RelC_nil];exact hr,h⟩
  |cons _ _=>simp[exCO]at h
 | .hole ty::cs,acc,rest,xs,vs,used,d,h,hr=>by
  simp only[exCO]at h
  split at h
  ·rename_i v ys hp
   split at h
   ·rename_i d' hd
    cases h
    obtain⟨a,r,rfl,h1,h2⟩:=zg5 (M' :=M) (fun _=>FzSub.refl M) hp hr
    obtain⟨N,used',a0,a1,a2,a3,a4,a5,a6⟩:=qku hH hd h2
    exact⟨N,used',a0,a1,a2,a3,a4,fun M' Nr hz=>RelC_cons.2 ⟨a,r,rfl,j3z (fun hd k ob h=>FzAt.right _ (hz (by simp[z5y,hd]) k ob h)) h1,a5 M' Nr fun hd=>hz (by simp[z5y,hd])⟩,a6⟩
   ·cases h
  ·cases h
 | .const _::cs,acc,rest,[],vs,used,d,h,hr=>by simp[exCO]at h
 | .row _ _ _::cs,acc,rest,[],vs,used,d,h,hr=>by simp[exCO]at h
 |c::cs,acc,rest,x::xs,vs,used,d,h,hr=>by
  obtain⟨u,r,rfl,hx,hr'⟩:=RelC_cons.1 hr
  cases c with
  |hole ty=>
   simp only[exCO]at h
   split at h
   ·rename_i v ys hp
    split at h
    ·rename_i d' hd
     cases h
     obtain⟨a,r',e,h1,h2⟩:=zg5 (M' :=M) (fun _=>FzSub.refl M) hp hr
     obtain⟨N,used',a0,a1,a2,a3,a4,a5,a6⟩:=qku hH hd h2
     exact⟨N,used',a0,a1,a2,a3,a4,fun M' Nr hz=>RelC_cons.2 ⟨a,r',e,j3z (fun hd k ob h=>FzAt.right _ (hz (by simp[z5y,hd]) k ob h)) h1,a5 M' Nr fun hd=>hz (by simp[z5y,hd])⟩,a6⟩
    ·cases h
   ·cases h
  |const k=>
   simp only[exCO]at h
   split at h
   ·rename_i hs
    obtain⟨N,used',a0,a1,a2,a3,a4,a5,a6⟩:=qku hH h hr'
    have:∃v,u=[v]:=by
     have hl:=q1m hx
     have:qfn x=1:=by
      cases x<;>first|rfl|(exfalso;cases k<;>simp[zs6]at hs)
     rw[this]at hl
     exact List.length_eq_one_iff.1 hl
    obtain⟨v,rfl⟩:=this
    exact⟨N,used',a0,a1,a2,a3,a4,fun M' Nr hz=>RelC_cons.2 ⟨[v],r,rfl,z5v hs hx,a5 M' Nr hz⟩,a6⟩
   ·cases h
  |row k sz own=>
   simp only[exCO]at h
   split at h
   ·rename_i l used1 hrow
    split at h
    ·rename_i d' hd
     cases h
     have:∃v,u=[v]:=by
      have hl:=q1m hx
      have:qfn x=1:=by
       unfold j89 at hrow
       split at hrow<;>first|rfl|(cases hrow)
      rw[this]at hl
      exact List.length_eq_one_iff.1 hl
     obtain⟨v,rfl⟩:=this
     obtain⟨pl,b0,b1,b2,b3,b4,b5⟩:=zhc hH hrow hx
     obtain⟨N,used',a0,a1,a2,a3,a4,a5,a6⟩:=qku hH hd hr'
     refine⟨[pl]++N,used',fun k ob h=>(h.append).elim (fun h=>FzAt.nil (FzAt.snoc (M:=[]) b0 h)) (a0 k ob),?_,?_,fun b hb=>a3 b (b3 b hb),?_,fun M' Nr hz=> ?_,a6⟩
     ·exact News.append hH (H1:=[some ⟨.row k l,own,none⟩]) b1 a1 b2 a2 b4
     ·exact FromB.append (H1:=[some ⟨.row k l,own,none⟩]) rfl b2 a2 b3
     ·exact IntoB.append (H1:=[some ⟨.row k l,own,none⟩]) rfl b4 a4 a3
     ·have:=a5 (M' ++[pl]) Nr hz
      rw[yo]at this
      refine RelC_cons.2 ⟨[v],r,rfl,b5 _ _ (by simp),?_⟩
      simpa using this
    ·cases h
   ·cases h
theorem qpe{M:List Place}{H:Heap}{B:Base}{w:World}(hH:RelH M H B w){kept:List Nat}:∀{os:List Out} {xs:List AV} {used:List Nat} {d:D (tysO os)} {vs:List Value},exO H kept os xs used=some d→RelL M xs vs→(∀b∈kept,b∈used)→
  ∃N,(∀k ob,¬FzAt N k ob)∧News B w N (qds os d)∧FromB M H used N (qds os d)∧(∀M' Nr:List Place,(qwm os=true→FzSub M Nr)→RelL (M' ++N++Nr) (avsO os d M'.length) vs)∧
   ∀(M' Nr:List Place),(qwm os=true→FzSub M Nr)→∀(pin:Nat) (c:Cont),(pin,c)∈upsO os d M'.length→∃pl b o,B.pin pin pl∧qmu (M' ++N++Nr) ⟨c,true,none⟩ pl B w∧b∈kept∧H[b]? =some (some o)∧o.own=true∧M[b]? =some pl
 |[],xs,used,d,vs,h,hl,hk=>by
  cases xs with
  |nil=>
   rw[RelL_nil]at hl
   exact⟨[],fun k ob h=>FzAt.nil h,News.nil B w,FromB.nil _ _ _,fun M' Nr _=>by simp only[avsO];rw[RelL_nil];exact hl,fun M' Nr _ pin c hm=>by simp[upsO]at hm⟩
  |cons _ _=>simp[exO]at h
 | .ty t::r,[],used,d,vs,h,hl,hk=>by simp[exO]at h
 | .row k sz own::r,[],used,d,vs,h,hl,hk=>by simp[exO]at h
 | .agg cs::r,[],used,d,vs,h,hl,hk=>by simp[exO]at h
 | .ty t::r,x::xs,used,d,vs,h,hl,hk=>by
  simp only[exO]at h
  split at h
  ·rename_i v d' hv hd
   cases h
   obtain⟨u,vs',rfl,hx,hr⟩:=RelL_cons.1 hl
   obtain⟨N,a0,a1,a2,a3,a4⟩:=qpe hH hd hr hk
   exact⟨N,a0,a1,a2,fun M' Nr hz=>RelL_cons.2 ⟨u,vs',rfl,j3x (fun hd k ob h=>FzAt.right _ (hz (by simp[qwm,hd]) k ob h)) hv hx,a3 M' Nr fun hd=>hz (by simp[qwm,hd])⟩,fun M' Nr hz=>a4 M' Nr fun hd=>hz (by simp[qwm,hd])⟩
  ·cases h
 | .row k sz own::r,x::xs,used,d,vs,h,hl,hk=>by
  simp only[exO]at h
  split at h
  ·rename_i l used1 hrow
   split at h
   ·rename_i d' hd
    cases h
    obtain⟨u,vs',rfl,hx,hr⟩:=RelL_cons.1 hl
    obtain⟨pl,b0,b1,b2,b3,b4,b5⟩:=zhc hH hrow hx
    obtain⟨N,a0,a1,a2,a3,a4⟩:=qpe hH hd hr (fun b hb=>b3 b (hk b hb))
    refine⟨[pl]++N,fun k ob h=>(h.append).elim (fun h=>FzAt.nil (FzAt.snoc (M:=[]) b0 h)) (a0 k ob),?_,?_,fun M' Nr hz=> ?_,fun M' Nr hz pin c hm=> ?_⟩
    ·exact News.append hH (H1:=[some ⟨.row k l,own,none⟩]) b1 a1 b2 a2 b4
    ·exact FromB.append (H1:=[some ⟨.row k l,own,none⟩]) rfl b2 a2 b3
    ·have:=a3 (M' ++[pl]) Nr hz
     rw[yo]at this
     refine RelL_cons.2 ⟨u,vs',rfl,b5 _ _ (by simp),?_⟩
     simpa using this
    ·have:=a4 (M' ++[pl]) Nr hz pin c (by rw[yo];simpa[upsO]using hm)
     simpa using this
   ·cases h
  ·cases h
 | .agg cs::r,x::xs,used,d,vs,h,hl,hk=>by
  simp only[exO]at h
  split at h
  ·rename_i ys
   obtain⟨u,vs',rfl,hx,hr⟩:=RelL_cons.1 hl
   obtain⟨us,hu,hc⟩:=RelX_agg.1 hx
   obtain⟨N1,used1,b0,b1,b2,b3,b4,b5,b6⟩:=qku hH h hc
   obtain⟨N,a0,a1,a2,a3,a4⟩:=qpe hH b6 hr (fun b hb=>b3 b (hk b hb))
   have hln:N1.length=zn3 cs:=by rw[b1.len,qpc]
   refine⟨N1++N,fun k ob h=>(h.append).elim (b0 k ob) (a0 k ob),News.append hH b1 a1 b2 a2 b4,FromB.append b1.len b2 a2 b3,fun M' Nr hz=> ?_,fun M' Nr hz pin c hm=> ?_⟩
   ·refine RelL_cons.2 ⟨u,vs',rfl,RelX_agg.2 ⟨us,hu,?_⟩,?_⟩
    ·have:=b5 M' (N++Nr) (fun hd k ob h=>FzAt.right _ (hz (by simp[qwm,hd]) k ob h))
     simpa using this
    ·have:=a3 (M' ++N1) Nr (fun hd=>hz (by simp[qwm,hd]))
     rw[yo,hln]at this
     simpa using this
   ·have:=a4 (M' ++N1) Nr (fun hd=>hz (by simp[qwm,hd])) pin c (by rw[yo,hln];simpa[upsO]using hm)
    simpa using this
  ·cases h
 | .prow pin k::r,xs,used,d,vs,h,hl,hk=>by
  simp only[exO]at h
  split at h
  ·rename_i b hb
   split at h
   ·rename_i k' l pn hob
    split at h
    ·rename_i hc
     obtain⟨rfl,hkb⟩:=hc
     split at h
     ·rename_i d' hd
      cases h
      obtain⟨N,a0,a1,a2,a3,a4⟩:=qpe hH hd hl hk
      refine⟨N,a0,a1,a2,a3,fun M' Nr hz pin' c hm=> ?_⟩
      simp only[upsO,yr,ym]at hm
      rcases hm with⟨rfl,rfl⟩|hm
      ·obtain⟨_,o,ho,hpo⟩:=z9l hb
       rw[Nat.sub_zero,hob]at ho
       cases ho
       obtain⟨pl,hpl,hok⟩:=hH.obj b _ hob
       refine⟨pl,b,_,hH.pin b _ pl _ hob hpl hpo,?_,by simpa using hkb,hob,rfl,hpl⟩
       rcases hok with⟨n1,n2,n3⟩|⟨n1,cs',el,fz,g1,g2,g3,g4,g5⟩
       ·exact .inl ⟨n1,n2,n3⟩
       ·exact .inr ⟨n1,cs',el,fz,g1,g2,g3,g4,g5⟩
      ·exact a4 M' Nr hz pin' c hm
     ·cases h
    ·cases h
   ·cases h
  ·cases h
 | .psegs pin cs::r,xs,used,d,vs,h,hl,hk=>by
  simp only[exO]at h
  split at h
  ·rename_i b hb
   split at h
   ·rename_i ys pn hob
    split at h
    ·rename_i hkb
     obtain⟨_,o,ho,hpo⟩:=z9l hb
     rw[Nat.sub_zero,hob]at ho
     cases ho
     obtain⟨pl,hpl,hok⟩:=hH.obj b _ hob
     have hvs:∃us,RelC M ys us∧(∀M2 ys',RelC M2 ys' us→qmu M2 ⟨.segs ys',true,none⟩ pl B w):=by
      rcases hok with⟨n1,n2,n3⟩|⟨n1,cs',el,fz,g1,g2,g3,g4,g5⟩
      ·exact⟨_,n3,fun M2 ys' hy=> .inl ⟨n1,n2,hy⟩⟩
      ·exact⟨_,g4,fun M2 ys' hy=> .inr ⟨n1,cs',el,fz,g1,g2,g3,hy,g5⟩⟩
     obtain⟨us,hus,hus2⟩:=hvs
     obtain⟨N1,used1,b0,b1,b2,b3,b4,b5,b6⟩:=qku hH h hus
     obtain⟨N,a0,a1,a2,a3,a4⟩:=qpe hH b6 hl (fun b hb=>b3 b (hk b hb))
     have hln:N1.length=zn3 cs:=by rw[b1.len,qpc]
     refine⟨N1++N,fun k ob h=>(h.append).elim (b0 k ob) (a0 k ob),News.append hH b1 a1 b2 a2 b4,FromB.append b1.len b2 a2 b3,fun M' Nr hz=> ?_,fun M' Nr hz pin' c hm=> ?_⟩
     ·have:=a3 (M' ++N1) Nr (fun hd=>hz (by simp[qwm,hd]))
      rw[yo,hln]at this
      simpa[avsO]using this
     ·simp only[upsO,yr,ym]at hm
      rcases hm with⟨rfl,rfl⟩|hm
      ·refine⟨pl,b,_,hH.pin b _ pl _ hob hpl hpo,?_,by simpa using hkb,hob,rfl,hpl⟩
       have:=hus2 _ _ (b5 M' (N++Nr) (fun hd k ob h=>FzAt.right _ (hz (by simp[qwm,hd]) k ob h)))
       simpa using this
      ·have:=a4 (M' ++N1) Nr (fun hd=>hz (by simp[qwm,hd])) pin' c (by rw[yo,hln];exact hm)
       simpa using this
    ·cases h
   ·cases h
  ·cases h
theorem zxo{M:List Place}{H:Heap}{B:Base}{w:World}(hH:RelH M H B w){os:List Out}{xs:List AV}{d:D (tysO os)}{vs:List Value}(h:exO H (zhb H os) os xs (zhb H os)=some d)(hl:RelL M xs vs):j8a B w os d vs:=by
 obtain⟨N,a0,a1,a2,a3,a4⟩:=qpe hH h hl (fun b hb=>hb)
 obtain⟨F,hF,hF1,hF2⟩:∃F:List Place,F.length=(fzH os).length∧(qwm os=true→FzSub M F)∧FzSub F M:=by
  unfold fzH
  split
  ·exact⟨[z4d M],rfl,fun _=>zh6 hH,z4e⟩
  ·rename_i hd
   exact⟨[],rfl,fun h=>absurd h hd,fun k ob h=>absurd h FzAt.nil⟩
 have own:∀(i:Nat) (pi:Place) (oi:AObj),N[i]? =some pi→(qds os d)[i]? =some (some oi)→oi.own=true→pi.nil=false→¬B.f pi.blk∧∀ob,¬FzAt F pi.blk ob:=by
  intro i pi oi hpi ho how hn
  obtain⟨b',o',p',e1,e2,e3,e4,e5,e6⟩:=a2 i pi oi hpi ho hn
  obtain⟨f1,f2⟩:=hH.fo b' o' p' e2 e3 (e6 how) e4
  rw[e5]
  exact⟨f1,fun ob h=>f2 ob (hF2 _ _ h)⟩
 refine⟨N,F,a1,hF,a0,fun k ob h=>hH.fz k ob (hF2 k ob h),own,fun M' =>by simpa using a3 M' F hF1,fun M' pin c hm=> ?_⟩
 obtain⟨pl,b,o,c1,c2,c3,c4,c5,c6⟩:=a4 M' F hF1 pin c hm
 refine⟨pl,c1,by simpa using c2,fun i pi hpi hn hn2=> ?_,fun hn ob h=>(hH.fo b o pl c4 c6 c5 hn).2 ob (hF2 _ _ h)⟩
 have hi:i<(qds os d).length:=by rw[←a1.len];exact(List.getElem?_eq_some_iff.1 hpi).1
 cases ho:(qds os d)[i]with
 |none=>exact absurd ho (j5x i hi)
 |some oi=>
  have ho' :(qds os d)[i]? =some (some oi):=by rw[yj hi,ho]
  obtain⟨b',o',p',e1,e2,e3,e4,e5,e6⟩:=a2 i pi oi hpi ho' hn
  rw[e5]
  exact fun e=>hH.sep b b' o o' pl p' c4 e2 c6 e3 (fun e=>e1 (e▸c3)) c5 hn2 e4 e.symm
end Go.AE
namespace Go.AE
open Go Go.RowKit
def qgr(ρ:Type):Env ρ:=⟨fun _=>none,fun _=>none⟩
theorem zhd(P:Program)(ρ:Type):EnvOk P (qgr ρ):=⟨fun _ _ h=>(by cases h),fun _ _ h=>(by cases h)⟩
theorem relH_nil(w:World):RelH [] [] (Base.at w.heap.size) w:=⟨rfl,fun k hk=>⟨hk,trivial⟩,fun i o h=>(by simp at h),fun i j oi oj pi pj h=>(by simp at h),fun i o pl k h=>(by simp at h),fun i o pl h=>(by simp at h),fun k ob h=>absurd h FzAt.nil,fun i o pl h=>(by simp at h),fun k hk h=>absurd hk (Nat.not_le_of_lt h)⟩
abbrev M0:List Place:=[⟨true,0,0,0,0,noFz⟩]
abbrev H0:Heap:=[none]
theorem relH_0(w:World):RelH M0 H0 (Base.at w.heap.size) w:=(relH_nil w).addNone _ (fun k ob h=>by cases h)
theorem noOwn_0:∀(i:Nat) (o:AObj),H0[i]? =some (some o)→o.own=false:=fun i o h=>by cases i<;>simp[H0]at h
def j8b (P : Program) : Bool := P.funcs.toList.all fun fn => !(fn.body.isSome && decide (fn.name = "runtime.NumGoroutine"))
theorem j1r{P:Program}(h:j8b P=true):q1y P:=by
 intro g fn hg hb e
 have h1:=List.all_eq_true.1 h fn (by
  have:=Array.mem_of_getElem? hg
  simpa using this)
 simp[hb,e]at h1
theorem has_wf{k:IntKind}{x:Int}(h:(Lit.int k x).wf=true):k.has x:=by
 have:k.min≤x∧x≤k.max:=by simpa[Lit.wf]using h
 exact this
theorem relL_int{M:List Place}{k:IntKind}{x:Int}(h:(Lit.int k x).wf=true){l:List AV}{vs:List Value}(r:RelL M l vs):RelL M (.int k none x::l) (.int k x::vs):=
 RelL_cons.2 ⟨_,_,rfl,by
  simp only[RelX]
  exact⟨trivial,has_wf h,fun m h=>(by cases h)⟩,r⟩
end Go.AE
namespace Go.AE
open Go Go.RowKit
variable {ρ:Type}
def bldS(nt:Nat)(its:List Item)(d:D (tysI its [])):St:=(bldI its [] d (st0 nt)).1
def extS(nt:Nat)(its:List Item)(st:St):Option (D (tysI its [])):=if st.tmps.length=nt then extI st true its [] () [j1q]else none
theorem qrx{M:List Place}{st:St}{B:Base}{w0:World}{a:Go.Act}{w:World}(r:Rel M st B w0 a w){its:List Item}{nt:Nat}{d:D (tysI its [])}(h:extS nt its st=some d):∃M',Rel M' (bldS nt its d) B w0 a w:=by
 unfold extS at h
 split at h
 ·rename_i hn
  exact ext_rel r h hn
 ·cases h
def annS(nt:Nat)(ins outs:List Item)(L:D (tysI ins [])→Option (D (tysI outs []))):Ann ρ:=fun st K=>
 (extS nt ins st).bind fun d=>(L d).bind fun r=>K .normal (bldS nt outs r)
def annX(nt:Nat)(ins outX outs:List Item)(e2:Exit)(L:D (tysI ins [])→Option (D (tysI outX [])⊕D (tysI outs []))):Ann ρ:=fun st K=>
 (extS nt ins st).bind fun d=>(L d).bind fun r=>match r with
  | .inl r=>K e2 (bldS nt outX r)
  | .inr r=>K .normal (bldS nt outs r)
def kS(nt:Nat)(ins outs:List Item)(id:Nat)(L:D (tysI ins [])→Option (D (tysI outs []))):Exit→St→Option (D (tysI outs [])):=fun e st=>match e with
 | .normal=>(extS nt ins st).bind L
 | .exit j=>if j=id then extS nt outs st else none
 |_=>none
def kX(nt:Nat)(ins outX outs:List Item)(id:Nat)(e2:Exit)(L:D (tysI ins [])→Option (D (tysI outX [])⊕D (tysI outs []))):Exit→St→Option (D (tysI outX [])⊕D (tysI outs [])):=fun e st=>match e with
 | .normal=>(extS nt ins st).bind L
 | .exit j=>if j=id then(extS nt outs st).bind fun r=>some (.inr r)else(match e2 with
  | .exit i=>if j=i then(extS nt outX st).bind fun r=>some (.inl r)else none
  |_=>none)
 | .ret=>(match e2 with
  | .ret=>(extS nt outX st).bind fun r=>some (.inl r)
  |_=>none)
 |_=>none
abbrev Cals:=∀(σ:Type),Cal σ
abbrev QCals:=∀(σ:Type),QCal σ
theorem annX_ok{P:Program}(hP:q1y P){cal:Cals}(hcal:∀σ f,qvu P f (cal σ f)){qcal:QCals}(hq:∀σ f,qn1 P f (qcal σ f)){nt:Nat}{ins outX outs:List Item}{e2:Exit}{id:Nat}{body:Code}
  {L:Nat→D (tysI ins [])→Option (D (tysI outX [])⊕D (tysI outs []))} {ann:Nat→Option (Ann (D (tysI outX [])⊕D (tysI outs [])))} {B:Base} {w0:World}
  (hann:∀id an c',ann id=some an→(id,c')∈qa3 body→z9g P false B w0 (.block id c') an) (h0:∀d,L 0 d=none)
  (hs:∀k d,q7c P (cal _) (qcal _) ann body (bldS nt ins d) (kX nt ins outX outs id e2 (L k))=L (k+1) d) (he:e2= .ret∨∃j,e2= .exit j∧j≠id) (F:Nat):
  z9g (ρ:=ρ) P false B w0 (.block id (.loop body)) (annX nt ins outX outs e2 (L F)):=by
 intro st K r h M a w Q hr hn
 unfold annX at h
 simp only[Option.bind_eq_some_iff]at h
 obtain⟨d,hd,x,hx,hk⟩:=h
 refine wp_block ?_
 obtain⟨M1,hr1⟩:=qrx hr hd
 refine z4c (fun n a' w' =>∃d' M',L n d' =some x∧Rel M' (bldS nt ins d') B w0 a' w') (n:=F) ⟨d,M1,hx,hr1⟩ ?_
 rintro n a1 w1 ⟨d1,M1,h1,hr1⟩
 cases n with
 |zero=>rw[h0]at h1;cases h1
 |succ n=>
  rw[←hs]at h1
  refine qhf hP (hcal _) (hq _) body hann _ _ h1 M1 a1 w1 _ hr1 fun e M' st' a' w' hE hk' hr' => ?_
  have out1:∀{r'},extS nt outs st' =some r' →x= .inr r' →Q .normal a' w' :=by
   intro r' hr2 hx2
   subst hx2
   obtain⟨M2,hr3⟩:=qrx hr' hr2
   exact hn .normal M2 _ a' w' (fun h=>by cases h) hk hr3
  have out2:∀{r'},extS nt outX st' =some r' →x= .inl r' →Q e2 a' w' :=by
   intro r' hr2 hx2
   subst hx2
   obtain⟨M2,hr3⟩:=qrx hr' hr2
   exact hn e2 M2 _ a' w' (fun h=>by cases h) hk hr3
  cases e with
  |normal=>
   simp only[kX,Option.bind_eq_some_iff]at hk'
   obtain⟨d2,hd2,hL⟩:=hk'
   obtain⟨M2,hr2⟩:=qrx hr' hd2
   exact⟨n,by omega,d2,M2,hL,hr2⟩
  |exit j=>
   simp only[kX]at hk'
   unfold Exit.inBlock
   show if j=id then Q .normal a' w' else Q (.exit j) a' w'
   split at hk'
   ·rename_i hj
    rw[iP hj]
    simp only[Option.bind_eq_some_iff,yf]at hk'
    obtain⟨r',h2,h3⟩:=hk'
    exact out1 h2 h3.symm
   ·rename_i hj
    rw[iN hj]
    split at hk'
    ·split at hk'
     ·rename_i i hi
      simp only[Option.bind_eq_some_iff,yf]at hk'
      obtain⟨r',h2,h3⟩:=hk'
      subst hi
      exact out2 h2 h3.symm
     ·cases hk'
    ·cases hk'
  |ret=>
   simp only[kX]at hk'
   split at hk'
   ·simp only[Option.bind_eq_some_iff,yf]at hk'
    obtain⟨r',h2,h3⟩:=hk'
    exact out2 h2 h3.symm
   ·cases hk'
  |goto l=>simp only[kX]at hk';cases hk'
  |panic ch=>simp only[kX]at hk';cases hk'
  |outgrown=>simp only[kX]at hk';cases hk'
theorem annS_ok{P:Program}(hP:q1y P){cal:Cals}(hcal:∀σ f,qvu P f (cal σ f)){qcal:QCals}(hq:∀σ f,qn1 P f (qcal σ f)){nt:Nat}{ins outs:List Item}{id:Nat}{body:Code}
  {L:Nat→D (tysI ins [])→Option (D (tysI outs []))} {ann:Nat→Option (Ann (D (tysI outs [])))} {B:Base} {w0:World}
  (hann:∀id an c',ann id=some an→(id,c')∈qa3 body→z9g P false B w0 (.block id c') an) (h0:∀d,L 0 d=none)
  (hs:∀k d,q7c P (cal _) (qcal _) ann body (bldS nt ins d) (kS nt ins outs id (L k))=L (k+1) d) (F:Nat):
  z9g (ρ:=ρ) P false B w0 (.block id (.loop body)) (annS nt ins outs (L F)):=by
 intro st K r h M a w Q hr hn
 unfold annS at h
 simp only[Option.bind_eq_some_iff]at h
 obtain⟨d,hd,x,hx,hk⟩:=h
 refine wp_block ?_
 obtain⟨M1,hr1⟩:=qrx hr hd
 refine z4c (fun n a' w' =>∃d' M',L n d' =some x∧Rel M' (bldS nt ins d') B w0 a' w') (n:=F) ⟨d,M1,hx,hr1⟩ ?_
 rintro n a1 w1 ⟨d1,M1,h1,hr1⟩
 cases n with
 |zero=>rw[h0]at h1;cases h1
 |succ n=>
  rw[←hs]at h1
  refine qhf hP (hcal _) (hq _) body hann _ _ h1 M1 a1 w1 _ hr1 fun e M' st' a' w' hE hk' hr' => ?_
  cases e with
  |normal=>
   simp only[kS,Option.bind_eq_some_iff]at hk'
   obtain⟨d2,hd2,hL⟩:=hk'
   obtain⟨M2,hr2⟩:=qrx hr' hd2
   exact⟨n,by omega,d2,M2,hL,hr2⟩
  |exit j=>
   simp only[kS]at hk'
   show if j=id then Q .normal a' w' else Q (.exit j) a' w'
   split at hk'
   ·rename_i hj
    rw[iP hj]
    obtain⟨M2,hr3⟩:=qrx hr' hk'
    exact hn .normal M2 _ a' w' (fun h=>by cases h) hk hr3
   ·cases hk'
  |ret=>simp only[kS]at hk';cases hk'
  |goto l=>simp only[kS]at hk';cases hk'
  |panic ch=>simp only[kS]at hk';cases hk'
  |outgrown=>simp only[kS]at hk';cases hk'
def zhe:List Item→Bool
 |[]=>true
 | .row _ _ _ own _::r=> !own&&zhe r
 | .drow _ _ own _::r=> !own&&zhe r
 | .segs _ _ own _::r=> !own&&zhe r
 |_::r=>zhe r
def zxp(P:Program)(f:FuncId)(n:Nat)(ins:List Item)(os:List Out)(F:D (tysI ins [])→Option (D (tysO os))):Prop:=
 ∀(d:D (tysI ins [])) (r:D (tysO os)),F d=some r→∀(M:List Place) (B:Base) (w:World) (vs:Array Value),RelL M (bldS n ins d).tmps vs.toList→RelH M (bldS n ins d).heap B w→
  Calls P f vs w fun e w' =>∃rs:Array Value,e= .returned (retV rs)∧Beneath B w w' ∧j8a B w' os r rs.toList
def endO(os:List Out):List AV→Heap→Option (D (tysO os)):=fun l H=>exO H (zhb H os) os l (zhb H os)
theorem j8c{P:Program}(hP:q1y P){cal:Cals}(hcal:∀σ f,qvu P f (cal σ f)){qcal:QCals}(hq:∀σ f,qn1 P f (qcal σ f)){f:FuncId}{n:Nat}{ins:List Item}{os:List Out}{F:D (tysI ins [])→Option (D (tysO os))}{ann:Nat→Option (Ann (D (tysO os)))}
  (hann:∀fn c,P.funcs[f]? =some fn→fn.body=some c→∀id an c',ann id=some an→(id,c')∈qa3 c→∀B w,z9g P false B w (.block id c') an)
  (h:∀d,zqr P (cal _) (qcal _) ann f (bldS n ins d).tmps (bldS n ins d).heap (endO os)=F d):zxp P f n ins os F:=by
 intro d r hd M B w vs hl hH
 rw[←h]at hd
 refine(zc5 hP (hcal _) (hq _) (x:=false) hd (fun fn c h1 h2 id an c' h3 h4=>hann fn c h1 h2 id an c' h3 h4 _ _) hl hH).mono ?_
 rintro e w' ⟨rs,l,H',M',rfl,hk,_,hl',hH',hb⟩
 exact⟨rs,rfl,hb,zxo hH' hk hl'⟩
theorem zc6{M:List Place}{ts:List AV}{a:Array Value}(h:RelT M ts a):RelL M ts a.toList:=by
 have key:∀(ts:List AV) (vs:List Value),ts.length=vs.length→(∀t,RelV M (ts.getD t .undef) (vs.getD t undef))→RelL M ts vs:=by
  intro ts
  induction ts with
  |nil=>intro vs h _;rw[RelL_nil];exact List.length_eq_zero_iff.1 h.symm
  |cons x ts ih=>
   intro vs h h2
   cases vs with
   |nil=>simp at h
   |cons v vs=>exact RelL_cons.2 ⟨v,vs,rfl,by simpa using h2 0,ih vs (by simpa using h) fun t=>by simpa using h2 (t+1)⟩
 refine key ts a.toList (by simpa using h.1) fun t=> ?_
 have:=h.2 t
 rw[show a.getD t undef=a.toList.getD t undef from by simp[ye,Array.getElem?_toList]]at this
 exact this
def extA(n:Nat)(ins:List Item)(args:List AV)(H:Heap):Option (D (tysI ins [])):=if args.length=n then extI ⟨args,H⟩ false ins [] () [j1q]else none
def Base.anyPin(B:Base):Base:=⟨B.w,B.vis,fun _ _=>True,B.f⟩
theorem RelH.anyPin{M:List Place}{H:Heap}{B:Base}{w:World}(r:RelH M H B w):RelH M H B.anyPin w:=⟨r.len,r.base,r.obj,r.sep,fun _ _ _ _ _ _ _=>trivial,r.vis,r.fz,r.fo,r.bf⟩
theorem zxq{M:List Place}{args:List AV}{H:Heap}{B:Base}{w:World}{vs:Array Value}{n:Nat}{ins:List Item}{d:D (tysI ins [])}(hl:RelL M args vs.toList)(hH:RelH M H B w)(h:extA n ins args H=some d):
  ∃M',Told M ⟨args,H⟩ B.anyPin w vs (j1q::qpb ⟨args,H⟩ false ins) M' (bldS n ins d):=by
 unfold extA at h
 split at h
 ·rename_i hlen
  have ht:RelT M args vs:=by
   have:=zh9 hl 0
   simpa using this
  have hs:n=vs.size:=by rw[←hlen];exact ht.1
  obtain⟨⟨M2,t⟩,_⟩:=q61 (st:=⟨args,H⟩) (B:=B.anyPin) ht hH.anyPin (fun _ _ _=>trivial) (told0 (B:=B.anyPin) (st:=⟨args,H⟩) (a:=vs) hH.anyPin n hs) h
  exact⟨M2,by simpa[bldS]using t⟩
 ·cases h
def z5z:Heap→Bool
 |[]=>true
 |o::r=>(match o with
  |some ob=>match ob.pin with
   |some k=>(zd1 r k 0).isNone
   |none=>true
  |none=>true)&&z5z r
theorem z0h:∀{H:Heap} {k i:Nat},zd1 H k i=none→∀(j:Nat) (o:AObj),H[j]? =some (some o)→o.pin≠some k
 |[],_,_,_,j,o,h=>by simp at h
 |x::r,k,i,hn,j,o,h=>by
  unfold zd1 at hn
  cases j with
  |zero=>
   simp at h
   subst h
   simp only at hn
   split at hn
   ·cases hn
   ·assumption
  |succ j=>
   have h' :r[j]? =some (some o):=by simpa using h
   cases x with
   |none=>exact z0h hn j o h'
   |some ob=>
    simp only at hn
    split at hn
    ·cases hn
    ·exact z0h hn j o h'
theorem zc7:∀{H:Heap},z5z H=true→∀(i j:Nat) (oi oj:AObj) (k:Nat),H[i]? =some (some oi)→H[j]? =some (some oj)→oi.pin=some k→oj.pin=some k→i=j
 |[],_,i,j,oi,oj,k,h,_,_,_=>by simp at h
 |x::r,hn,i,j,oi,oj,k,hi,hj,h1,h2=>by
  simp only[z5z,yl]at hn
  obtain⟨hx,hr⟩:=hn
  cases i with
  |zero=>
   cases j with
   |zero=>rfl
   |succ j=>
    simp at hi
    subst hi
    simp only[h1,Option.isNone_iff_eq_none]at hx
    exact absurd h2 (z0h hx j oj (by simpa using hj))
  |succ i=>
   cases j with
   |zero=>
    simp at hj
    subst hj
    simp only[h2,Option.isNone_iff_eq_none]at hx
    exact absurd h1 (z0h hx i oi (by simpa using hi))
   |succ j=>
    have:=zc7 hr i j oi oj k (by simpa using hi) (by simpa using hj) h1 h2
    omega
def findU:List (Nat×Cont)→Nat→Option Cont
 |[],_=>none
 |(j,c)::r,k=>if j=k then some c else findU r k
theorem zxr:∀{l:List (Nat×Cont)} {k:Nat} {c:Cont},findU l k=some c→(k,c)∈l
 |[],_,_,h=>by cases h
 |(j,c')::r,k,c,h=>by
  unfold findU at h
  split at h
  ·rename_i hj
   cases h
   subst hj
   simp
  ·simp[zxr h]
def updB(ups:List (Nat×Cont))(shared:Bool)(whole:Bool)(o:AObj)(b:Nat)(H:Heap):Heap:=
 match o.own with
 |true=>match whole,o.pin with
  |true,some k=>match findU ups k,H[b]? with
   |some c,some (some o')=>H.set b (some ⟨c,true,o'.pin⟩)
   |_,_=>H.set b none
  |_,_=>H.set b none
 |false=>match shared,H[b]? with
  |true,some (some o')=>H.set b (some ⟨o'.c,false,o'.pin⟩)
  |_,_=>H
def zd2(ups:List (Nat×Cont))(shared:Bool):List Act→Heap→Heap→Heap
 |ac::r,some o::H1,H=>zd2 ups shared r H1 (match ac.id with|some b=>updB ups shared ac.whole o b H|none=>H)
 |_::r,none::H1,H=>zd2 ups shared r H1 H
 |_,_,H=>H
theorem updB_len(ups:List (Nat×Cont))(shared whole:Bool)(o:AObj)(b:Nat)(H:Heap):(updB ups shared whole o b H).length=H.length:=by
 unfold updB
 repeat' split
 all_goals simp
theorem zhf(ups:List (Nat×Cont))(shared:Bool):∀(acts:List Act) (H1 H:Heap),(zd2 ups shared acts H1 H).length=H.length
 |[],_,_=>rfl
 |_::_,[],_=>rfl
 |ac::r,some o::H1,H=>by
  rw[zd2,zhf ups shared r H1]
  split
  ·exact updB_len _ _ _ _ _ _
  ·rfl
 |_::r,none::H1,H=>by rw[zd2,zhf ups shared r H1]
def Left(ups:List (Nat×Cont))(shared:Bool)(acts:List Act)(H1:Heap)(j:Nat)(o o2:AObj):Prop:=
 o2.pin=o.pin∧((o2.c=o.c∧(o2.own=true→o.own=true)∧∀(i:Nat) (ac:Act) (o1:AObj),acts[i]? =some ac→H1[i]? =some (some o1)→ac.id=some j→o1.own=false∧(shared=true→o2.own=false))∨
  (∃(i:Nat) (ac:Act) (o1:AObj) (k:Nat),acts[i]? =some ac∧H1[i]? =some (some o1)∧ac.id=some j∧ac.whole=true∧o1.own=true∧o1.pin=some k∧(k,o2.c)∈ups))
theorem zg6{H:Heap}{b j:Nat}{x:Option AObj}{o:AObj}(h:(H.set b x)[j]? =some (some o)):(b=j∧x=some o)∨(b≠j∧H[j]? =some (some o)):=by
 rw[List.getElem?_set]at h
 split at h
 ·rename_i e
  split at h
  ·exact .inl ⟨e,by simpa using h⟩
  ·cases h
 ·rename_i e
  exact .inr ⟨e,h⟩
theorem z9m{ups:List (Nat×Cont)}{shared:Bool}:∀{acts:List Act} {H1 H:Heap} {j:Nat} {o2:AObj},(zd2 ups shared acts H1 H)[j]? =some (some o2)→∃o,H[j]? =some (some o)∧Left ups shared acts H1 j o o2
 |[],H1,H,j,o2,h=>⟨o2,by simpa[zd2]using h,rfl,.inl ⟨rfl,fun h=>h,fun i ac o1 hi=>by simp at hi⟩⟩
 |ac::r,[],H,j,o2,h=>⟨o2,by simpa[zd2]using h,rfl,.inl ⟨rfl,fun h=>h,fun i ac o1 _ hi=>by simp at hi⟩⟩
 |ac::r,none::H1,H,j,o2,h=>by
  rw[zd2]at h
  obtain⟨o,h1,h2,h3⟩:=z9m h
  refine⟨o,h1,h2,?_⟩
  rcases h3 with⟨a1,a2,a3⟩|⟨i,ac',o1,k,b1,b2,b3⟩
  ·refine .inl ⟨a1,a2,fun i ac' o1 hi hi1=> ?_⟩
   cases i with
   |zero=>simp at hi1
   |succ i=>exact a3 i ac' o1 (by simpa using hi) (by simpa using hi1)
  ·exact .inr ⟨i+1,ac',o1,k,by simpa using b1,by simpa using b2,b3⟩
 |ac::r,some o1::H1,H,j,o2,h=>by
  rw[zd2]at h
  obtain⟨o',h1,h2,h3⟩:=z9m h
  have step:∃o,H[j]? =some (some o)∧o'.pin=o.pin∧((o'.c=o.c∧(o'.own=true→o.own=true)∧(ac.id=some j→o1.own=false∧(shared=true→o'.own=false)))∨
    (o'.own=true∧∃k,ac.id=some j∧ac.whole=true∧o1.own=true∧o1.pin=some k∧(k,o'.c)∈ups)):=by
   cases hid:ac.id with
   |none=>
    rw[hid]at h1
    exact⟨o',h1,rfl,.inl ⟨rfl,fun h=>h,fun h=>by cases h⟩⟩
   |some b=>
    rw[hid]at h1
    simp only at h1
    have other:b≠j→H[j]? =some (some o')→∃o,H[j]? =some (some o)∧o'.pin=o.pin∧((o'.c=o.c∧(o'.own=true→o.own=true)∧(some b=some j→o1.own=false∧(shared=true→o'.own=false)))∨
      (o'.own=true∧∃k,some b=some j∧ac.whole=true∧o1.own=true∧o1.pin=some k∧(k,o'.c)∈ups)):=
     fun hne hH=>⟨o',hH,rfl,.inl ⟨rfl,fun h=>h,fun e=>absurd (Option.some.inj e) hne⟩⟩
    unfold updB at h1
    split at h1
    ·rename_i how
     split at h1
     ·rename_i k hw hp
      split at h1
      ·rename_i c ob hfu hHb
       rcases zg6 h1 with⟨rfl,e⟩|⟨e,h1⟩
       ·cases e
        exact⟨ob,hHb,rfl,.inr ⟨rfl,k,rfl,hw,how,hp,zxr hfu⟩⟩
       ·exact other e h1
      ·rcases zg6 h1 with⟨rfl,e⟩|⟨e,h1⟩
       ·cases e
       ·exact other e h1
     ·rcases zg6 h1 with⟨rfl,e⟩|⟨e,h1⟩
      ·cases e
      ·exact other e h1
    ·rename_i how
     split at h1
     ·rename_i ob hHb
      rcases zg6 h1 with⟨rfl,e⟩|⟨e,h1⟩
      ·cases e
       exact⟨ob,hHb,rfl,.inl ⟨rfl,fun h=>(by cases h),fun _=>⟨how,fun _=>rfl⟩⟩⟩
      ·exact other e h1
     ·rename_i hno
      refine⟨o',h1,rfl,.inl ⟨rfl,fun h=>h,fun e=>⟨how,fun hs=> ?_⟩⟩⟩
      cases e
      exact absurd h1 (hno o' hs)
  obtain⟨o,s1,s2,s3⟩:=step
  refine⟨o,s1,by rw[h2,s2],?_⟩
  rcases h3 with⟨a1,a2,a3⟩|⟨i,ac',o1',k,b1,b2,b3⟩
  ·rcases s3 with⟨c1,c2,c3⟩|⟨c1,k,c2,c3,c4,c5,c6⟩
   ·refine .inl ⟨by rw[a1,c1],fun h=>c2 (a2 h),fun i ac' o1' hi hi1 hid=> ?_⟩
    cases i with
    |zero=>
     simp at hi hi1
     subst hi;subst hi1
     obtain⟨d1,d2⟩:=c3 hid
     refine⟨d1,fun hs=> ?_⟩
     cases ho:o2.own with
     |false=>rfl
     |true=>rw[d2 hs]at a2;exact absurd (a2 ho) (by simp)
    |succ i=>exact a3 i ac' o1' (by simpa using hi) (by simpa using hi1) hid
   ·exact .inr ⟨0,ac,o1,k,by simp,by simp,c2,c3,c4,c5,by rw[a1];exact c6⟩
  ·exact .inr ⟨i+1,ac',o1',k,by simpa using b1,by simpa using b2,b3⟩
def qry:List CO→Bool
 |[]=>false
 | .row _ _ own::r=> !own||qry r
 |_::r=>qry r
def qa9:List Out→Bool
 |[]=>false
 | .row _ _ own::r=> !own||qa9 r
 | .agg cs::r=>qry cs||qa9 r
 | .psegs _ cs::r=>qry cs||qa9 r
 |_::r=>qa9 r
theorem ql6:∀{cs:List CO} {acc:List Ty} {d:D (z9k cs acc)} {o:AObj},some o∈qj7 cs acc d→o.own=false→qry cs=true
 |[],_,_,o,h,_=>by simp[qj7]at h
 | .hole _::r,acc,d,o,h,ho=>ql6 (cs:=r) (d:=d.2) h ho
 | .const _::r,acc,d,o,h,ho=>ql6 (cs:=r) (d:=d) h ho
 | .row _ _ own::r,acc,d,o,h,ho=>by
  simp only[qj7,yr]at h
  rcases h with h|h
  ·cases h
   simp only at ho
   simp[qry,ho]
  ·simp[qry,ql6 (cs:=r) (d:=d.2) h ho]
theorem qkv:∀{os:List Out} {d:D (tysO os)} {o:AObj},some o∈qds os d→o.own=false→qa9 os=true
 |[],_,o,h,_=>by simp[qds]at h
 | .ty _::r,d,o,h,ho=>qkv (os:=r) (d:=d.2) h ho
 | .row _ _ own::r,d,o,h,ho=>by
  simp only[qds,yr]at h
  rcases h with h|h
  ·cases h
   simp only at ho
   simp[qa9,ho]
  ·simp[qa9,qkv (os:=r) (d:=d.2) h ho]
 | .agg cs::r,d,o,h,ho=>by
  simp only[qds,yk]at h
  rcases h with h|h
  ·simp[qa9,ql6 h ho]
  ·simp[qa9,qkv h ho]
 | .prow _ _::r,d,o,h,ho=>qkv (os:=r) (d:=d.2) h ho
 | .psegs _ cs::r,d,o,h,ho=>by
  simp only[qds,yk]at h
  rcases h with h|h
  ·simp[qa9,ql6 h ho]
  ·simp[qa9,qkv h ho]
def smRun(n:Nat)(ins:List Item)(os:List Out)(F:D (tysI ins [])→Option (D (tysO os))):List AV→Heap→(AV→Heap→Option ρ)→Option ρ:=fun args H K=>
 (extA n ins args H).bind fun d=>if z5z (bldS n ins d).heap=true then
  (F d).bind fun r=>K (retA (avsO os r H.length)) (zd2 (upsO os r H.length) (qa9 os) (j1q::qpb ⟨args,H⟩ false ins) (bldS n ins d).heap H++(qds os r++fzH os))
 else none
theorem blk_lt{M:List Place}{o:AObj}{pl:Place}{B:Base}{w:World}(h:qmu M o pl B w)(hn:pl.nil=false):pl.blk<w.heap.size:=by
 rcases h with⟨n1,_⟩|⟨_,cs,el,fz,g1,_⟩
 ·rw[hn]at n1;cases n1
 ·exact(Array.getElem?_eq_some_iff.1 g1).1
theorem smRun_ok{P:Program}{f:FuncId}{n:Nat}{ins:List Item}{os:List Out}{F:D (tysI ins [])→Option (D (tysO os))}(h:zxp P f n ins os F):qvu (ρ:=ρ) P f (smRun n ins os F):=by
 intro args H K r hk M B w vs hl hH
 unfold smRun at hk
 simp only[Option.bind_eq_some_iff]at hk
 obtain⟨d,hd,hk⟩:=hk
 split at hk
 case isFalse=>cases hk
 rename_i hnd
 simp only[Option.bind_eq_some_iff]at hk
 obtain⟨x,hx,hk⟩:=hk
 obtain⟨M1,t⟩:=zxq hl hH hd
 generalize hst:bldS n ins d=st1 at*
 generalize hac:j1q::qpb ⟨args,H⟩ false ins=acts at*
 have src:∀(i:Nat) (o1:AObj) (pl:Place),st1.heap[i]? =some (some o1)→M1[i]? =some pl→pl.nil=false→
   (∃ac b o p,acts[i]? =some ac∧ac.id=some b∧H[b]? =some (some o)∧M[b]? =some p∧p.nil=false∧pl.blk=p.blk∧(o1.own=true→o.own=true)∧(ac.whole=true→pl=p))∨
   (o1.own=false∧∃ob,FzAt M pl.blk ob):=by
  intro i o1 pl h1 h2 hn
  have hi:i<acts.length:=by rw[t.len];exact(List.getElem?_eq_some_iff.1 h2).1
  obtain⟨p1,hp1,a1,a2,a3,_⟩:=t.act i acts[i] (yj hi)
  rw[h2]at hp1
  cases hp1
  cases hid:(acts[i]).id with
  |none=>
   obtain⟨q1,q2⟩:=(a2.1 hid).2 hn
   exact .inr ⟨by rw[a3 o1 h1,q1],q2⟩
  |some b=>
   obtain⟨o,p,b1,b2,b3,b4,b5,b6⟩:=a1 b hid
   exact .inl ⟨acts[i],b,o,p,yj hi,hid,b1,b2,by rw[←b3];exact hn,b4,fun ho=>b5 (by rw[←a3 o1 h1];exact ho),b6⟩
 let B1:Base:=⟨fun k=>w.heap.size≤k∨∃(i:Nat) (o1:AObj) (pl:Place),st1.heap[i]? =some (some o1)∧o1.own=true∧M1[i]? =some pl∧pl.nil=false∧pl.blk=k,
  fun k=>w.heap.size≤k∨(∃(i:Nat) (o1:AObj) (pl:Place),st1.heap[i]? =some (some o1)∧M1[i]? =some pl∧pl.nil=false∧pl.blk=k)∨∃ob,FzAt M k ob,
  fun k pl=>∃(i:Nat) (o1:AObj),st1.heap[i]? =some (some o1)∧M1[i]? =some pl∧o1.pin=some k,
  fun k=>B.f k∨∃ob,FzAt M k ob⟩
 have wB:∀k,B1.w k→B.w k:=by
  rintro k (hk|⟨i,o1,pl,h1,h2,h3,h4,rfl⟩)
  ·exact(hH.base k hk).1
  ·rcases src i o1 pl h1 h3 h4 with⟨ac,b,o,p,_,_,c3,c4,c5,c6,c7,_⟩|⟨q,_⟩
   ·obtain⟨p',hp',hok⟩:=hH.obj b o c3
    rw[c4]at hp'
    cases hp'
    rcases hok with⟨n1,_⟩|⟨_,_,_,_,_,_,_,_,g5⟩
    ·rw[c5]at n1;cases n1
    ·rw[c6];exact(g5 (c7 h2)).2.2
   ·rw[q]at h2;cases h2
 have visB:∀k,B1.vis k→B.vis k:=by
  rintro k (hk|⟨i,o1,pl,h1,h3,h4,rfl⟩|⟨ob,hk⟩)
  ·exact(hH.base k hk).2
  ·rcases src i o1 pl h1 h3 h4 with⟨ac,b,o,p,_,_,c3,c4,c5,c6,_⟩|⟨_,ob,q⟩
   ·rw[c6];exact hH.vis b o p c3 c4 c5
   ·exact(hH.fz _ _ q).2.1
  ·exact(hH.fz _ _ hk).2.1
 have notF:∀(i:Nat) (o1:AObj) (pl:Place),st1.heap[i]? =some (some o1)→M1[i]? =some pl→o1.own=true→pl.nil=false→¬B1.f pl.blk:=by
  intro i o1 pl h1 h3 h2 h4
  rcases src i o1 pl h1 h3 h4 with⟨ac,b,o,p,_,_,c3,c4,c5,c6,c7,_⟩|⟨q,_⟩
  ·obtain⟨f1,f2⟩:=hH.fo b o p c3 c4 (c7 h2) c5
   rw[c6]
   rintro(h|⟨ob,h⟩)
   ·exact f1 h
   ·exact f2 ob h
  ·rw[q]at h2;cases h2
 have hH1:RelH M1 st1.heap B1 w:=by
  refine⟨t.heap.len,fun k hk=>⟨.inl hk,.inl hk⟩,fun i o1 ho1=> ?_,t.heap.sep,fun i o1 pl k h1 h2 h3=>⟨i,o1,h1,h2,h3⟩,fun i o1 pl h1 h2 h3=> .inr (.inl ⟨i,o1,pl,h1,h2,h3,rfl⟩),
   fun k ob h=>⟨(t.heap.fz k ob h).1,.inr (.inr ⟨ob,t.zf k ob h⟩),.inr (.inr ⟨ob,t.zf k ob h⟩)⟩,fun i o1 pl h1 h2 h3 h4=>⟨notF i o1 pl h1 h2 h3 h4,(t.heap.fo i o1 pl h1 h2 h3 h4).2⟩,fun k hk h=>h.elim (hH.bf k hk) fun⟨ob,h⟩=>absurd (hH.fz_lt h) (by omega)⟩
  obtain⟨pl,hpl,hok⟩:=t.heap.obj i o1 ho1
  refine⟨pl,hpl,?_⟩
  rcases hok with hok|⟨n1,cs,el,fz,g1,g2,g3,g4,g5⟩
  ·exact .inl hok
  ·exact .inr ⟨n1,cs,el,fz,g1,g2,g3,g4,fun ho=>⟨(g5 ho).1,(g5 ho).2.1,.inr ⟨i,o1,pl,ho1,ho,hpl,n1,rfl⟩⟩⟩
 refine(h d x hx M1 B1 w vs (by rw[hst];exact zc6 t.tmps) (by rw[hst];exact hH1)).mono ?_
 rintro e w' ⟨rs,rfl,hb,N,Fz,hN,hFl,hN0,hF1,hF2,hav,hups⟩
 have hlen:=hH.len
 have hEx:Ext M (M++(N++Fz)):=Ext.snoc M _
 have hE0:Ext [] (M++(N++Fz)):=fun b pl e=>(by simp at e)
 have hbB:Beneath B w w' :=⟨hb.os,hb.tape,hb.output,hb.size,fun k hk hw=>hb.block k hk fun h1=>hw (wB k h1)⟩
 refine⟨_,_,_,M++(N++Fz),rfl,hk,hEx,?_,hbB,zs8 (by rw[hlen];exact hav M)⟩
 have hlpost:=zhf (upsO os x H.length) (qa9 os) acts st1.heap H
 generalize hH2:zd2 (upsO os x H.length) (qa9 os) acts st1.heap H=H2 at*
 have part:∀(i:Nat) (o:AObj) (pl:Place),(H2++(qds os x++fzH os))[i]? =some (some o)→(M++(N++Fz))[i]? =some pl→
   (i<M.length∧M[i]? =some pl∧∃o0,H[i]? =some (some o0)∧Left (upsO os x H.length) (qa9 os) acts st1.heap i o0 o)∨(∃j,i=M.length+j∧(qds os x)[j]? =some (some o)∧N[j]? =some pl):=by
  intro i o pl h1 h2
  by_cases hi:i<M.length
  ·rw[yg (by omega)]at h1
   rw[yg hi]at h2
   rw[←hH2]at h1
   exact .inl ⟨hi,h2,z9m h1⟩
  ·rw[w9 (by omega)]at h1 h2
   rw[hlpost,hlen]at h1
   by_cases hi2:i-M.length<N.length
   ·rw[yg (by rw[←hN.len];exact hi2)]at h1
    rw[yg hi2]at h2
    exact .inr ⟨i-M.length,by omega,h1,h2⟩
   ·rw[w9 (by rw[←hN.len];omega)]at h1
    exfalso
    have:=List.mem_of_getElem? h1
    unfold fzH at this
    split at this<;>simp at this
 have upd:∀(j:Nat) (o0 o:AObj) (pl:Place),H[j]? =some (some o0)→M[j]? =some pl→
   (∃(i:Nat) (ac:Act) (o1:AObj) (k:Nat),acts[i]? =some ac∧st1.heap[i]? =some (some o1)∧ac.id=some j∧ac.whole=true∧o1.own=true∧o1.pin=some k∧(k,o.c)∈upsO os x H.length)→
   o0.own=true∧qmu (M++(N++Fz)) ⟨o.c,true,none⟩ pl B1 w' ∧(∀(i:Nat) (pi:Place),N[i]? =some pi→pi.nil=false→pl.nil=false→pi.blk≠pl.blk)∧(pl.nil=false→∀ob,¬FzAt Fz pl.blk ob):=by
  rintro j o0 o pl h1 h2 ⟨i,ac,o1,k,a1,a2,a3,a4,a5,a6,a7⟩
  obtain⟨p1,hp1,c1,_,c3,_⟩:=t.act i ac a1
  obtain⟨o',p,d1,d2,_,_,d5,d6⟩:=c1 j a3
  have d1' :H[j]? =some (some o'):=d1
  rw[h1]at d1'
  cases d1'
  rw[h2]at d2
  cases d2
  have hpp:=d6 a4
  subst hpp
  rw[hlen]at a7
  obtain⟨pl',⟨i',o1',e1,e2,e3⟩,f2,f3,f4⟩:=hups M k o.c a7
  have:=zc7 hnd i i' o1 o1' k a2 e1 a6 e3
  subst this
  rw[hp1]at e2
  cases e2
  exact⟨d5 (by rw[←c3 o1 a2];exact a5),f2,f3,f4⟩
 have newB:∀(j:Nat) (o:AObj) (pl:Place),(qds os x)[j]? =some (some o)→N[j]? =some pl→pl.nil=false→B1.vis pl.blk∧(o.own=true→B1.w pl.blk):=by
  intro j o pl h1 h2 hn
  obtain⟨_,_,p,hp,hok,hv⟩:=hN.obj j o h1
  rw[h2]at hp
  cases hp
  refine⟨hv hn,fun ho=> ?_⟩
  rcases hok with⟨n1,_⟩|⟨_,_,_,_,_,_,_,_,g5⟩
  ·rw[hn]at n1;cases n1
  ·exact(g5 ho).2.2
 have cross:∀(i j:Nat) (oi oj o0:AObj) (pi pj:Place),M[i]? =some pi→H[i]? =some (some o0)→Left (upsO os x H.length) (qa9 os) acts st1.heap i o0 oi→(qds os x)[j]? =some (some oj)→N[j]? =some pj→
   (oi.own=true∨oj.own=true)→pi.nil=false→pj.nil=false→pi.blk≠pj.blk:=by
  intro i j oi oj o0 pi pj h1 h2 h3 h4 h5 ho hni hnj
  obtain⟨v1,v2⟩:=newB j oj pj h4 h5 hnj
  obtain⟨p',hp',hok⟩:=hH.obj i o0 h2
  rw[h1]at hp'
  cases hp'
  have hlt:=blk_lt hok hni
  rcases h3 with⟨_,⟨c1,c2,c3⟩|hu⟩
  ·cases hoj:oj.own with
   |true=>
    rcases v2 hoj with hk|⟨i1,o1,pl,e1,e2,e3,e4,e5⟩
    ·omega
    ·obtain⟨ac,b,ob,p,a1,a2,a3,a4,a5,a6,a7,_⟩:=(src i1 o1 pl e1 e3 e4).resolve_right (fun q=>by rw[q.1]at e2;cases e2)
     have hbi:b≠i:=by
      rintro rfl
      have:=(c3 i1 ac o1 a1 e1 a2).1
      rw[e2]at this
      cases this
     rw[←e5,a6]
     exact fun e=>hH.sep b i ob o0 p pi a3 h2 a4 h1 hbi (a7 e2) a5 hni e.symm
   |false=>
    have hoi:oi.own=true:=by
     rcases ho with ho|ho
     ·exact ho
     ·rw[hoj]at ho;cases ho
    have hsh:qa9 os=true:=qkv (List.mem_of_getElem? h4) hoj
    have still:∀ob,FzAt M pj.blk ob→pi.blk≠pj.blk:=fun ob hz e=>(hH.fo i o0 pi h2 h1 (c2 hoi) hni).2 ob (by rw[e];exact hz)
    rcases v1 with hk|⟨i1,o1,pl,e1,e3,e4,e5⟩|⟨ob,hz⟩
    ·omega
    ·rcases src i1 o1 pl e1 e3 e4 with⟨ac,b,ob,p,a1,a2,a3,a4,a5,a6,_⟩|⟨_,ob,hz⟩
     ·have hbi:i≠b:=by
       rintro rfl
       have:=(c3 i1 ac o1 a1 e1 a2).2 hsh
       rw[hoi]at this
       cases this
      rw[←e5,a6]
      exact hH.sep i b o0 ob pi p h2 a3 h1 a4 hbi (c2 hoi) hni a5
     ·exact still ob (by rw[←e5];exact hz)
    ·exact still ob hz
  ·obtain⟨_,_,u3,_⟩:=upd i o0 oi pi h2 h1 hu
   exact fun e=>u3 j pj h5 hnj hni e.symm
 have frozen:∀k ob,FzAt (M++(N++Fz)) k ob→FzAt M k ob∨FzAt Fz k ob:=fun k ob h=>(h.append).imp id fun h=>(h.append).resolve_left (hN0 k ob)
 have b1f:∀k,B1.w k∨B1.f k→B.w k∨B.f k:=by
  rintro k (h|h|⟨ob,h⟩)
  ·exact .inl (wB k h)
  ·exact .inr h
  ·exact(hH.fz k ob h).2.2
 refine⟨by simp[hlpost,hN.len,hlen,hFl],fun k hk=>hH.base k (Nat.le_trans hb.size hk),fun i o ho=> ?_,fun i j oi oj pi pj hi hj hpi hpj hne how hni hnj=> ?_,fun i o pl k ho hp hk' => ?_,fun i o pl ho hp hn=> ?_,fun k ob hk=> ?_,fun i o pl ho hp how hn=> ?_,fun k hk=>hH.bf k (Nat.le_trans hb.size hk)⟩
 ·have hi:i<(M++(N++Fz)).length:=by
   have:=(List.getElem?_eq_some_iff.1 ho).1
   rw[yo,yo,hlpost,hlen,←hN.len,←hFl]at this
   rw[yo,yo]
   exact this
  refine⟨(M++(N++Fz))[i],yj hi,?_⟩
  generalize hpl:(M++(N++Fz))[i]=pl
  have hp:(M++(N++Fz))[i]? =some pl:=by rw[yj hi,hpl]
  rcases part i o pl ho hp with⟨_,h2,o0,h3,h4⟩|⟨j,rfl,h2,h3⟩
  ·obtain⟨p',hp',hok⟩:=hH.obj i o0 h3
   rw[h2]at hp'
   cases hp'
   rcases h4 with⟨_,⟨c1,c2,c3⟩|hu⟩
   ·rcases hok with⟨n1,n2,n3⟩|⟨n1,cs,el,fz,g1,g2,g3,g4,g5⟩
    ·exact .inl ⟨n1,n2,by rw[c1];exact n3.mono hEx⟩
    ·refine .inr ⟨n1,cs,el,fz,?_,g2,g3,by rw[c1];exact g4.mono hEx,fun h=>g5 (c2 h)⟩
     rw[hb.block _ ((Array.getElem?_eq_some_iff.1 g1).1)]
     ·exact g1
     ·rintro(hk|⟨i1,o1,pl1,e1,e2,e3,e4,e5⟩)
      ·have:=(Array.getElem?_eq_some_iff.1 g1).1
       omega
      ·obtain⟨ac,b,ob,p,a1,a2,a3,a4,a5,a6,a7,_⟩:=(src i1 o1 pl1 e1 e3 e4).resolve_right (fun q=>by rw[q.1]at e2;cases e2)
       have hbi:b≠i:=by
        rintro rfl
        have:=(c3 i1 ac o1 a1 e1 a2).1
        rw[e2]at this
        cases this
       exact hH.sep b i ob o0 p pl a3 h3 a4 h2 hbi (a7 e2) a5 n1 (by rw[←a6];exact e5)
   ·obtain⟨u1,u2,_⟩:=upd i o0 o pl h3 h2 hu
    rcases hok with⟨n1,n2,n3⟩|⟨n1,cs,el,fz,g1,g2,g3,g4,g5⟩
    ·rcases u2 with⟨m1,m2,m3⟩|⟨m1,_⟩
     ·exact .inl ⟨m1,m2,m3⟩
     ·rw[n1]at m1;cases m1
    ·rcases u2 with⟨m1,_⟩|⟨m1,cs',el',fz',f1,f2,f3,f4,f5⟩
     ·rw[n1]at m1;cases m1
     ·exact .inr ⟨m1,cs',el',fz',f1,f2,f3,f4,fun _=>⟨(f5 rfl).1,(f5 rfl).2.1,(g5 u1).2.2⟩⟩
  ·obtain⟨_,_,p,hp',hok,hv⟩:=hN.obj j o h2
   rw[h3]at hp'
   cases hp'
   rcases hok with⟨n1,n2,n3⟩|⟨n1,cs,el,fz,g1,g2,g3,g4,g5⟩
   ·exact .inl ⟨n1,n2,n3.mono hE0⟩
   ·exact .inr ⟨n1,cs,el,fz,g1,g2,g3,g4.mono hE0,fun h=>⟨(g5 h).1,(g5 h).2.1,wB _ (g5 h).2.2⟩⟩
 ·rcases part i oi pi hi hpi with⟨_,h2,o0,h3,h4⟩|⟨j1,rfl,h2,h3⟩<;>rcases part j oj pj hj hpj with⟨_,k2,o0',k3,k4⟩|⟨j2,rfl,k2,k3⟩
  ·have ho:o0.own=true:=by
    rcases h4 with⟨_,⟨c1,c2,c3⟩|hu⟩
    ·exact c2 how
    ·exact(upd i o0 oi pi h3 h2 hu).1
   exact hH.sep i j o0 o0' pi pj h3 k3 h2 k2 hne ho hni hnj
  ·exact cross i j2 oi oj o0 pi pj h2 h3 h4 k2 k3 (.inl how) hni hnj
  ·exact fun e=>cross j j1 oj oi o0' pj pi k2 k3 k4 h2 h3 (.inr how) hnj hni e.symm
  ·exact hN.sep j1 j2 oi oj pi pj h2 k2 h3 k3 (fun e=>hne (by rw[e])) how hni hnj
 ·rcases part i o pl ho hp with⟨_,h2,o0,h3,h4⟩|⟨j,rfl,h2,h3⟩
  ·exact hH.pin i o0 pl k h3 h2 (by rw[←h4.1];exact hk')
  ·rw[(hN.obj j o h2).1]at hk';cases hk'
 ·rcases part i o pl ho hp with⟨_,h2,o0,h3,h4⟩|⟨j,rfl,h2,h3⟩
  ·exact hH.vis i o0 pl h3 h2 hn
  ·exact visB _ (newB j o pl h2 h3 hn).1
 ·rcases frozen k ob hk with h|h
  ·obtain⟨z1,z2,z3⟩:=hH.fz k ob h
   refine⟨?_,z2,z3⟩
   rw[hb.block k (hH.fz_lt h)]
   ·exact z1
   ·rintro(hk|⟨i1,o1,pl1,e1,e2,e3,e4,e5⟩)
    ·have:=hH.fz_lt h
     omega
    ·exact notF i1 o1 pl1 e1 e3 e2 e4 (.inr ⟨ob,by rw[e5];exact h⟩)
  ·obtain⟨z1,z2,z3⟩:=hF1 k ob h
   exact⟨z1,visB k z2,b1f k z3⟩
 ·rcases part i o pl ho hp with⟨_,h2,o0,h3,h4⟩|⟨j,rfl,h2,h3⟩
  ·have how0:o0.own=true:=by
    rcases h4 with⟨_,⟨c1,c2,c3⟩|hu⟩
    ·exact c2 how
    ·exact(upd i o0 o pl h3 h2 hu).1
   obtain⟨f1,f2⟩:=hH.fo i o0 pl h3 h2 how0 hn
   refine⟨f1,fun ob h=> ?_⟩
   rcases frozen _ ob h with h|h
   ·exact f2 ob h
   ·rcases h4 with⟨_,⟨c1,c2,c3⟩|hu⟩
    ·obtain⟨p',hp',hok⟩:=hH.obj i o0 h3
     rw[h2]at hp'
     cases hp'
     have hlt:=blk_lt hok hn
     rcases(hF1 _ ob h).2.2 with(hk|⟨i1,o1,pl1,e1,e2,e3,e4,e5⟩)|(hk|⟨ob',hk⟩)
     ·omega
     ·obtain⟨ac,b,ob2,p,a1,a2,a3,a4,a5,a6,a7,_⟩:=(src i1 o1 pl1 e1 e3 e4).resolve_right (fun q=>by rw[q.1]at e2;cases e2)
      have hbi:b≠i:=by
       rintro rfl
       have:=(c3 i1 ac o1 a1 e1 a2).1
       rw[e2]at this
       cases this
      exact hH.sep b i ob2 o0 p pl a3 h3 a4 h2 hbi (a7 e2) a5 hn (by rw[←a6];exact e5)
     ·exact f1 hk
     ·exact f2 ob' hk
    ·exact(upd i o0 o pl h3 h2 hu).2.2.2 hn ob h
  ·obtain⟨g1,g2⟩:=hF2 j pl o h3 h2 how hn
   refine⟨fun h=>g1 (.inl h),fun ob h=> ?_⟩
   rcases frozen _ ob h with h|h
   ·exact g1 (.inr ⟨ob,h⟩)
   ·exact g2 ob h
def zhg:List Out→Bool
 |[]=>true
 | .ty (.row _)::_=>false
 | .ty t::r=> !t.deep&&zhg r
 |_=>false
def zxs:(cs:List CTy)→DC cs→List Value
 |[],_=>[]
 | .int k::r,d=> .int k d.1::zxs r d.2
 | .bool::r,d=> .bool d.1::zxs r d.2
 | .is k _::r,d=>List.map (Value.int k) d.1++zxs r d.2
 | .str::r,d=> .string (mkS d.1)::zxs r d.2
 | .fsl _ _::r,d=>zxs r d.2
 | .dsl _::r,d=>zxs r d.2
theorem z60{M:List Place}:∀{cs:List CTy} {d:DC cs} {a:List Value},qwk cs=false→RelC M (mkCs cs d) a→a=zxs cs d
 |[],d,a,_,h=>RelC_nil.1 h
 | .int k::r,d,a,hd,h=>by
  obtain⟨b,t,rfl,hx,hr⟩:=RelC_cons.1 h
  have h2:qwk r=false:=hd
  rw[z60 (cs:=r) h2 hr,(RelX_int.1 hx).1]
  rfl
 | .bool::r,d,a,hd,h=>by
  obtain⟨b,t,rfl,hx,hr⟩:=RelC_cons.1 h
  have h2:qwk r=false:=hd
  simp only[mk1,RelX]at hx
  rw[z60 (cs:=r) h2 hr,hx.1]
  rfl
 | .is k n::r,d,a,hd,h=>by
  obtain⟨b,t,rfl,hx,hr⟩:=RelC_cons.1 h
  have h2:qwk r=false:=hd
  rw[z60 (cs:=r) h2 hr,(RelX_is.1 hx).2.1]
  rfl
 | .str::r,d,a,hd,h=>by
  obtain⟨b,t,rfl,hx,hr⟩:=RelC_cons.1 h
  have h2:qwk r=false:=hd
  simp only[mk1,RelX]at hx
  rw[z60 (cs:=r) h2 hr,hx.1]
  rfl
 | .fsl _ _::r,d,a,hd,h=>by simp[qwk]at hd
 | .dsl _::r,d,a,hd,h=>by simp[qwk]at hd
def valT:(t:Ty)→t.den→Value
 | .int k,x=> .int k x
 | .bool,x=> .bool x
 | .is k _,l=> .agg (List.map (Value.int k) l).toArray
 | .row _,_=>undef
 | .agg cs,d=> .agg (zxs cs d).toArray
 | .str,l=> .string (mkS l)
 | .fsl _ _,_=>undef
 | .dsl _,_=>undef
 | .drow _,_=>undef
 | .mapc _,_=>undef
def valO:(os:List Out)→D (tysO os)→List Value
 |[],_=>[]
 | .ty t::r,d=>valT t d.1::valO r d.2
 | .row _ _ _::r,d=>valO r d.2
 | .agg cs::r,d=>valO r (qtl cs (tysO r) d)
 | .prow _ _::r,d=>valO r d.2
 | .psegs _ cs::r,d=>valO r (qtl cs (tysO r) d)
theorem valT_eq{M:List Place}{t:Ty}{x:t.den}{v:Value}(ht:∀k,t≠ .row k)(hd:t.deep=false)(h:RelV M (mkT t x) v):v=valT t x:=by
 cases t with
 |int k=>exact(q35 h).1
 |bool=>exact(q36 h).1
 |is k n=>
  obtain⟨vs,e,hc⟩:=RelX_agg.1 h
  have e:v= .agg vs:=by simpa using e
  subst e
  have:=(RelX_is.1 (RelC_single.1 hc)).2.1
  simp only[valT]
  congr 1
  apply Array.toList_inj.1
  simpa using this
 |row k=>exact absurd rfl (ht k)
 |agg cs=>
  obtain⟨vs,e,hc⟩:=RelX_agg.1 h
  have e:v= .agg vs:=by simpa using e
  subst e
  have:=z60 hd hc
  simp only[valT]
  congr 1
  apply Array.toList_inj.1
  simpa using this
 |str=>
  simp only[mkT,RelV,RelX]at h
  simpa[valT]using h.1
 |fsl k sz=>cases hd
 |dsl e=>cases hd
 |drow e=>cases hd
 |mapc i=>cases hd
theorem mkCs_any{M M' :List Place}{cs:List CTy}{d:DC cs}{a:List Value}(hd:qwk cs=false)(h:RelC M (mkCs cs d) a):RelC M' (mkCs cs d) a:=by
 induction cs generalizing a with
 |nil=>exact RelC_nil.2 (RelC_nil.1 h)
 |cons t r ih=>
  obtain⟨b,t',rfl,hx,hr⟩:=RelC_cons.1 h
  have h2:qwk r=false:=by cases t<;>first|exact hd|cases hd
  refine RelC_cons.2 ⟨b,t',rfl,?_,ih h2 hr⟩
  cases t with
  |fsl k sz=>cases hd
  |dsl e=>cases hd
  |_=>simpa only[mk1,RelX]using hx
theorem mkT_any{M M' :List Place}{t:Ty}{x:t.den}{v:Value}(hd:t.deep=false)(h:RelV M (mkT t x) v):RelV M' (mkT t x) v:=by
 cases t with
 |int k=>exact RelX_int.2 (RelX_int.1 h)
 |bool=>simpa only[mkT,RelV,RelX]using h
 |is k n=>
  obtain⟨vs,e,hc⟩:=RelX_agg.1 h
  exact RelX_agg.2 ⟨vs,e,RelC_single.2 (RelX_is.2 (RelX_is.1 (RelC_single.1 hc)))⟩
 |row k=>exact q4i _ _
 |agg cs=>
  obtain⟨vs,e,hc⟩:=RelX_agg.1 h
  exact RelX_agg.2 ⟨vs,e,mkCs_any hd hc⟩
 |str=>simpa only[mkT,RelV,RelX]using h
 |fsl k sz=>cases hd
 |dsl e=>cases hd
 |drow e=>exact q4i _ _
 |mapc i=>cases hd
theorem j8d:∀{os:List Out} {d:D (tysO os)} {M:List Place} {b:Nat} {vs:List Value},zhg os=true→RelL M (avsO os d b) vs→vs=valO os d∧RelL [] (avsO os d 0) vs
 |[],d,M,b,vs,_,h=>by
  simp only[avsO,RelL_nil]at h
  subst h
  exact⟨rfl,RelL_nil.2 rfl⟩
 | .ty t::r,d,M,b,vs,ha,h=>by
  obtain⟨v,vs',rfl,hv,hr⟩:=RelL_cons.1 h
  have ha' :zhg r=true∧(∀k,t≠ .row k)∧t.deep=false:=by
   cases t<;>simp only[zhg,yl,Bool.not_eq_true',reduceCtorEq]at ha<;>exact⟨ha.2,fun k h=>(by cases h),ha.1⟩
  obtain⟨e,hl⟩:=j8d ha'.1 hr
  have hv2:=valT_eq ha'.2.1 ha'.2.2 hv
  refine⟨by rw[e,hv2];rfl,RelL_cons.2 ⟨v,vs',rfl,?_,hl⟩⟩
  exact mkT_any ha'.2.2 hv
 | .row k sz _::r,d,M,b,vs,ha,h=>by simp[zhg]at ha
 | .agg cs::r,d,M,b,vs,ha,h=>by simp[zhg]at ha
 | .prow _ _::r,d,M,b,vs,ha,h=>by simp[zhg]at ha
 | .psegs _ _::r,d,M,b,vs,ha,h=>by simp[zhg]at ha
def j8e(n:Nat)(ins:List Item)(os:List Out)(F:D (tysI ins [])→Option (D (tysO os))):List AV→Heap→(AV→Option ρ)→Option ρ:=fun args H K=>
 (extA n ins args H).bind fun d=>(F d).bind fun r=>K (retA (avsO os r 0))
theorem j5y:∀{its:List Item} {acc:List Ty} {d:D (tysI its acc)} {st:St},zhe its=true→(∀(i:Nat) o,st.heap[i]? =some (some o)→o.own=false)→∀(i:Nat) o,(bldI its acc d st).1.heap[i]? =some (some o)→o.own=false:=by
 intro its
 induction its with
 |nil=>intro acc d st _ h;exact h
 |cons it its ih=>
  intro acc d st hn h
  have snoc:∀(x:Option AObj),(∀o,x=some o→o.own=false)→∀(i:Nat) o,(st.heap++[x])[i]? =some (some o)→o.own=false:=by
   intro x hx i o hi
   rw[List.getElem?_append]at hi
   split at hi
   ·exact h i o hi
   ·rcases Nat.eq_zero_or_pos (i-st.heap.length)with h0|h0
    ·rw[h0]at hi
     simp at hi
     exact hx o hi
    ·rw[wa (by simp;omega)]at hi;cases hi
  cases it with
  |row k sz src own pin=>
   simp only[zhe,yl,Bool.not_eq_true']at hn
   exact ih hn.2 (snoc _ (by rintro o ⟨⟩;exact hn.1))
  |segs cs src own pin=>
   simp only[zhe,yl,Bool.not_eq_true']at hn
   exact ih hn.2 (snoc _ (by rintro o ⟨⟩;exact hn.1))
  |drow e src own pin=>
   simp only[zhe,yl,Bool.not_eq_true']at hn
   exact ih hn.2 (snoc _ (by rintro o ⟨⟩;exact hn.1))
  |drop=>exact ih hn (snoc _ (by rintro o ⟨⟩))
  |slot t ty=>exact ih hn h
  |const t a=>exact ih hn h
  |sl t b sz c=>exact ih hn h
  |ptr t b w=>exact ih hn h
  |fn t f cs=>exact ih hn h
  |cells t cs=>exact ih hn h
def Base.fresh(n:Nat):Base:=⟨fun k=>n≤k,fun _=>True,fun _ _=>True,fun k=>k<n⟩
theorem Beneath.below' {w w' :World}(h:Beneath (Base.fresh w.heap.size) w w'):Below w.heap.size w w' :=⟨h.os,h.tape,h.output,h.size,fun k hk=>h.block k hk (fun h2=>Nat.lt_irrefl _ (Nat.lt_of_lt_of_le hk h2))⟩
theorem j8f{P:Program}{f:FuncId}{n:Nat}{ins:List Item}{os:List Out}{F:D (tysI ins [])→Option (D (tysO os))}(h:zxp P f n ins os F)(hn:zhe ins=true)(ha:zhg os=true):qn1 (ρ:=ρ) P f (j8e n ins os F):=by
 intro args H K r hk M B w vs hl hH
 unfold j8e at hk
 simp only[Option.bind_eq_some_iff]at hk
 obtain⟨d,hd,x,hx,hk⟩:=hk
 have hrun:∀w',Below w.heap.size w w' →Calls P f vs w' fun e w'' =>∃rs:Array Value,e= .returned (retV rs)∧rs=(valO os x).toArray∧RelL [] (avsO os x 0) (valO os x)∧Below w'.heap.size w' w'' :=by
  intro w' hb
  obtain⟨M1,t⟩:=zxq hl (hH.below hb) hd
  have hno:=j5y (acc:=[]) (d:=d) (st:=st0 n) hn (fun i o hi=>by cases i<;>simp[st0]at hi)
  have hH1:RelH M1 (bldS n ins d).heap (Base.fresh w'.heap.size) w' :=by
   refine⟨t.heap.len,fun k hk=>⟨hk,trivial⟩,fun i o ho=> ?_,t.heap.sep,fun _ _ _ _ _ _ _=>trivial,fun _ _ _ _ _ _=>trivial,fun k ob h=>⟨(t.heap.fz k ob h).1,trivial,.inr (t.heap.fz_lt h)⟩,fun i o pl ho hp how hn=>(by rw[hno i o ho]at how;cases how),fun k hk h=>absurd hk (Nat.not_le_of_lt h)⟩
   obtain⟨pl,hp,hok⟩:=t.heap.obj i o ho
   refine⟨pl,hp,?_⟩
   rcases hok with hok|⟨hn,cs,el,fz,h1,h2,h3,h4,h5⟩
   ·exact .inl hok
   ·exact .inr ⟨hn,cs,el,fz,h1,h2,h3,h4,fun ho2=>by rw[hno i o ho]at ho2;cases ho2⟩
  refine(h d x hx M1 (Base.fresh w'.heap.size) w' vs (zc6 t.tmps) hH1).mono ?_
  rintro e w'' ⟨rs,rfl,hb',N,Fz,_,_,_,_,_,hav,_⟩
  obtain⟨e1,e2⟩:=j8d (b:=0) ha (by simpa using hav [])
  refine⟨rs,rfl,?_,by rw[←e1];exact e2,hb'.below'⟩
  apply Array.toList_inj.1
  simpa using e1
 obtain⟨e,w',fr,⟨rs,_,_,hro,_⟩,_⟩:=hrun w (Below.refl _ _) []
 refine⟨retV (valO os x).toArray,_,hk,RelX.mono (fun b pl e=>(by simp at e)) _ _ (zs8 (M:=[]) (by simpa using hro)),fun w' hb=>(hrun w' hb).mono ?_⟩
 rintro e w'' ⟨rs,rfl,rfl,_,hb'⟩
 exact⟨rfl,hb'⟩
end Go.AE
namespace Go.AE
open Go Go.RowKit
structure ToldF where
 f:FuncId
 n:Nat
 ins:List Item
 os:List Out
 F:D (tysI ins [])→Option (D (tysO os))
def ToldF.ok(P:Program)(t:ToldF):Prop:=zxp P t.f t.n t.ins t.os t.F
def j8g:List ToldF→FuncId→Bool
 |[],_=>false
 |t::r,f=>if t.f=f then true else j8g r f
def j8h{ρ:Type}:List ToldF→FuncId→List AV→Heap→(AV→Heap→Option ρ)→Option ρ
 |[],_,_,_,_=>none
 |t::r,f,args,H,K=>if t.f=f then
   match extA t.n t.ins args H with
   |some _=>smRun t.n t.ins t.os t.F args H K
   |none=>j8h r f args H K
  else j8h r f args H K
def j41:List ToldF→FuncId→Bool
 |[],_=>false
 |t::r,f=>if t.f=f∧zhg t.os=true∧zhe t.ins=true then true else j41 r f
def zxt{ρ:Type}:List ToldF→FuncId→List AV→Heap→(AV→Option ρ)→Option ρ
 |[],_,_,_,_=>none
 |t::r,f,args,H,K=>if t.f=f∧zhg t.os=true∧zhe t.ins=true then
   match extA t.n t.ins args H with
   |some _=>j8e t.n t.ins t.os t.F args H K
   |none=>zxt r f args H K
  else zxt r f args H K
def j8i(l:List ToldF)(ρ:Type):Env ρ:=
 ⟨fun f=>if j8g l f=true then some (j8h l f)else none,fun f=>if j41 l f=true then some (zxt l f)else none⟩
def q02(P:Program):List ToldF→Prop
 |[]=>True
 |t::r=>t.ok P∧q02 P r
theorem zs9{P:Program}{ρ:Type}:∀{l:List ToldF},q02 P l→∀f,qvu (ρ:=ρ) P f (j8h l f)
 |[],_,f=>fun args H K r h=>by cases h
 |t::l,hl,f=>by
  intro args H K r h
  unfold j8h at h
  split at h
  ·rename_i hf
   subst hf
   split at h
   ·exact smRun_ok hl.1 args H K r h
   ·exact zs9 hl.2 t.f args H K r h
  ·exact zs9 hl.2 f args H K r h
theorem zhh{P:Program}{ρ:Type}:∀{l:List ToldF},q02 P l→∀f,qn1 (ρ:=ρ) P f (zxt l f)
 |[],_,f=>fun args H K r h=>by cases h
 |t::l,hl,f=>by
  intro args H K r h
  unfold zxt at h
  split at h
  ·rename_i hf
   obtain⟨rfl,ha,hn⟩:=hf
   split at h
   ·exact j8f hl.1 hn ha args H K r h
   ·exact zhh hl.2 t.f args H K r h
  ·exact zhh hl.2 f args H K r h
theorem j42{P:Program}{l:List ToldF}(h:q02 P l)(ρ:Type):EnvOk P (j8i l ρ):=by
 refine⟨fun f s hs=> ?_,fun f s hs=> ?_⟩
 ·simp only[j8i]at hs
  split at hs
  ·cases hs;exact zs9 h f
  ·cases hs
 ·simp only[j8i]at hs
  split at hs
  ·cases hs;exact zhh h f
  ·cases hs
abbrev calT(P:Program)(l:List ToldF):Cals:=fun σ=>evFn P (j8i l σ) 40
abbrev qcalT(l:List ToldF):QCals:=fun σ=>qof (j8i l σ)
theorem j1s{P:Program}(hP:q1y P){l:List ToldF}(h:q02 P l)(σ:Type)(f:FuncId):qvu P f (calT P l σ f):=zha hP (j42 h σ) 40 f
theorem zsa{P:Program}{l:List ToldF}(h:q02 P l)(σ:Type)(f:FuncId):qn1 P f (qcalT l σ f):=j40 (j42 h σ) f
def zd3{ρ:Type}:List (Nat×Ann ρ)→Nat→Option (Ann ρ)
 |[],_=>none
 |(i,a)::r,id=>if id=i then some a else zd3 r id
def qn3{ρ:Type}(P:Program)(c:Code)(l:List (Nat×Ann ρ)):Prop:=
 ∀(B:Base) (w:World) (id:Nat) (an:Ann ρ) (c' :Code),zd3 l id=some an→(id,c')∈qa3 c→z9g P false B w (.block id c') an
theorem j5z{ρ:Type}(P:Program)(c:Code):qn3 (ρ:=ρ) P c []:=fun _ _ _ _ _ h=>by cases h
def z0i(c:Code)(id:Nat):List Code:=((qa3 c).filter fun p=>p.1==id).map (·.2)
theorem zhi{ρ:Type}{P:Program}{c body:Code}{id:Nat}{an:Ann ρ}{l:List (Nat×Ann ρ)}(hb:z0i c id=[.loop body])
  (h:∀B w,z9g P false B w (.block id (.loop body)) an) (hl:qn3 P c l):qn3 P c ((id,an)::l):=by
 intro B w id' an' c' ha hc
 unfold zd3 at ha
 split at ha
 ·rename_i hid
  subst hid
  cases ha
  have:c' ∈z0i c id' :=by
   unfold z0i
   rw[List.mem_map]
   exact⟨(id',c'),by simp[hc],rfl⟩
  rw[hb,List.mem_singleton]at this
  subst this
  exact h B w
 ·exact hl B w id' an' c' ha hc
def zc8(c:Code)(id:Nat):Code:=match z0i c id with
 |[.loop b]=>b
 |_=> .skip
def qj8(fn:Func):Code:=match fn.body with
 |some c=>c
 |none=> .skip
theorem toldF_ok{P:Program}(hP:q1y P){l:List ToldF}(hl:q02 P l){fn:Func}{t:ToldF}{anns:List (Nat×Ann (D (tysO t.os)))}(hf:P.funcs[t.f]? =some fn)(ha:qn3 P (qj8 fn) anns)
  (h:∀d,zqr P (calT P l _) (qcalT l _) (zd3 anns) t.f (bldS t.n t.ins d).tmps (bldS t.n t.ins d).heap (endO t.os)=t.F d):t.ok P:=by
 refine j8c hP (j1s hP hl) (zsa hl) (ann:=zd3 anns) (fun fn' c h1 h2 id an c' h3 h4 B w=> ?_) h
 rw[hf]at h1
 cases h1
 unfold qj8 at ha
 rw[h2]at ha
 exact ha B w id an c' h3 h4
theorem toldS_ok{P:Program}(hP:q1y P){l:List ToldF}(hl:q02 P l){nt:Nat}{ins outs:List Item}{id:Nat}{body:Code}
  {L:Nat→D (tysI ins [])→Option (D (tysI outs []))} {anns:List (Nat×Ann (D (tysI outs [])))} (ha:qn3 P body anns) (h0:∀d,L 0 d=none)
  (hs:∀k d,q7c P (calT P l _) (qcalT l _) (zd3 anns) body (bldS nt ins d) (kS nt ins outs id (L k))=L (k+1) d) (F:Nat) {ρ:Type} (B:Base) (w:World):
  z9g (ρ:=ρ) P false B w (.block id (.loop body)) (annS nt ins outs (L F)):=
 annS_ok hP (j1s hP hl) (zsa hl) (ann:=zd3 anns) (fun id an c' h1 h2=>ha B w id an c' h1 h2) h0 hs F
theorem toldX_ok{P:Program}(hP:q1y P){l:List ToldF}(hl:q02 P l){nt:Nat}{ins outX outs:List Item}{e2:Exit}{id:Nat}{body:Code}
  {L:Nat→D (tysI ins [])→Option (D (tysI outX [])⊕D (tysI outs []))} {anns:List (Nat×Ann (D (tysI outX [])⊕D (tysI outs [])))} (ha:qn3 P body anns) (h0:∀d,L 0 d=none)
  (hs:∀k d,q7c P (calT P l _) (qcalT l _) (zd3 anns) body (bldS nt ins d) (kX nt ins outX outs id e2 (L k))=L (k+1) d) (he:e2= .ret∨∃j,e2= .exit j∧j≠id) (F:Nat) {ρ:Type} (B:Base) (w:World):
  z9g (ρ:=ρ) P false B w (.block id (.loop body)) (annX nt ins outX outs e2 (L F)):=
 annX_ok hP (j1s hP hl) (zsa hl) (ann:=zd3 anns) (fun id an c' h1 h2=>ha B w id an c' h1 h2) h0 hs he F
@[reducible] def u0 {R U:Type} (f:R) (_:U):R:=f
@[reducible] def u1 {R U A0:Type} (f:A0→R) (d:A0×U):R:=u0 (f d.1) d.2
@[reducible] def u2 {R U A0 A1:Type} (f:A0→A1→R) (d:A0×A1×U):R:=u1 (f d.1) d.2
@[reducible] def u3 {R U A0 A1 A2:Type} (f:A0→A1→A2→R) (d:A0×A1×A2×U):R:=u2 (f d.1) d.2
@[reducible] def u4 {R U A0 A1 A2 A3:Type} (f:A0→A1→A2→A3→R) (d:A0×A1×A2×A3×U):R:=u3 (f d.1) d.2
@[reducible] def u5 {R U A0 A1 A2 A3 A4:Type} (f:A0→A1→A2→A3→A4→R) (d:A0×A1×A2×A3×A4×U):R:=u4 (f d.1) d.2
@[reducible] def u6 {R U A0 A1 A2 A3 A4 A5:Type} (f:A0→A1→A2→A3→A4→A5→R) (d:A0×A1×A2×A3×A4×A5×U):R:=u5 (f d.1) d.2
@[reducible] def u7 {R U A0 A1 A2 A3 A4 A5 A6:Type} (f:A0→A1→A2→A3→A4→A5→A6→R) (d:A0×A1×A2×A3×A4×A5×A6×U):R:=u6 (f d.1) d.2
@[reducible] def u8 {R U A0 A1 A2 A3 A4 A5 A6 A7:Type} (f:A0→A1→A2→A3→A4→A5→A6→A7→R) (d:A0×A1×A2×A3×A4×A5×A6×A7×U):R:=u7 (f d.1) d.2
@[reducible] def u9 {R U A0 A1 A2 A3 A4 A5 A6 A7 A8:Type} (f:A0→A1→A2→A3→A4→A5→A6→A7→A8→R) (d:A0×A1×A2×A3×A4×A5×A6×A7×A8×U):R:=u8 (f d.1) d.2
@[reducible] def u10 {R U A0 A1 A2 A3 A4 A5 A6 A7 A8 A9:Type} (f:A0→A1→A2→A3→A4→A5→A6→A7→A8→A9→R) (d:A0×A1×A2×A3×A4×A5×A6×A7×A8×A9×U):R:=u9 (f d.1) d.2
@[reducible] def u11 {R U A0 A1 A2 A3 A4 A5 A6 A7 A8 A9 A10:Type} (f:A0→A1→A2→A3→A4→A5→A6→A7→A8→A9→A10→R) (d:A0×A1×A2×A3×A4×A5×A6×A7×A8×A9×A10×U):R:=u10 (f d.1) d.2
@[reducible] def u12 {R U A0 A1 A2 A3 A4 A5 A6 A7 A8 A9 A10 A11:Type} (f:A0→A1→A2→A3→A4→A5→A6→A7→A8→A9→A10→A11→R) (d:A0×A1×A2×A3×A4×A5×A6×A7×A8×A9×A10×A11×U):R:=u11 (f d.1) d.2
@[reducible] def u13 {R U A0 A1 A2 A3 A4 A5 A6 A7 A8 A9 A10 A11 A12:Type} (f:A0→A1→A2→A3→A4→A5→A6→A7→A8→A9→A10→A11→A12→R) (d:A0×A1×A2×A3×A4×A5×A6×A7×A8×A9×A10×A11×A12×U):R:=u12 (f d.1) d.2
@[reducible] def u14 {R U A0 A1 A2 A3 A4 A5 A6 A7 A8 A9 A10 A11 A12 A13:Type} (f:A0→A1→A2→A3→A4→A5→A6→A7→A8→A9→A10→A11→A12→A13→R) (d:A0×A1×A2×A3×A4×A5×A6×A7×A8×A9×A10×A11×A12×A13×U):R:=u13 (f d.1) d.2
@[reducible] def u15 {R U A0 A1 A2 A3 A4 A5 A6 A7 A8 A9 A10 A11 A12 A13 A14:Type} (f:A0→A1→A2→A3→A4→A5→A6→A7→A8→A9→A10→A11→A12→A13→A14→R) (d:A0×A1×A2×A3×A4×A5×A6×A7×A8×A9×A10×A11×A12×A13×A14×U):R:=u14 (f d.1) d.2
@[reducible] def u16 {R U A0 A1 A2 A3 A4 A5 A6 A7 A8 A9 A10 A11 A12 A13 A14 A15:Type} (f:A0→A1→A2→A3→A4→A5→A6→A7→A8→A9→A10→A11→A12→A13→A14→A15→R) (d:A0×A1×A2×A3×A4×A5×A6×A7×A8×A9×A10×A11×A12×A13×A14×A15×U):R:=u15 (f d.1) d.2
@[reducible] def u17 {R U A0 A1 A2 A3 A4 A5 A6 A7 A8 A9 A10 A11 A12 A13 A14 A15 A16:Type} (f:A0→A1→A2→A3→A4→A5→A6→A7→A8→A9→A10→A11→A12→A13→A14→A15→A16→R) (d:A0×A1×A2×A3×A4×A5×A6×A7×A8×A9×A10×A11×A12×A13×A14×A15×A16×U):R:=u16 (f d.1) d.2
@[reducible] def u18 {R U A0 A1 A2 A3 A4 A5 A6 A7 A8 A9 A10 A11 A12 A13 A14 A15 A16 A17:Type} (f:A0→A1→A2→A3→A4→A5→A6→A7→A8→A9→A10→A11→A12→A13→A14→A15→A16→A17→R) (d:A0×A1×A2×A3×A4×A5×A6×A7×A8×A9×A10×A11×A12×A13×A14×A15×A16×A17×U):R:=u17 (f d.1) d.2
@[reducible] def u19 {R U A0 A1 A2 A3 A4 A5 A6 A7 A8 A9 A10 A11 A12 A13 A14 A15 A16 A17 A18:Type} (f:A0→A1→A2→A3→A4→A5→A6→A7→A8→A9→A10→A11→A12→A13→A14→A15→A16→A17→A18→R) (d:A0×A1×A2×A3×A4×A5×A6×A7×A8×A9×A10×A11×A12×A13×A14×A15×A16×A17×A18×U):R:=u18 (f d.1) d.2
@[reducible] def u20 {R U A0 A1 A2 A3 A4 A5 A6 A7 A8 A9 A10 A11 A12 A13 A14 A15 A16 A17 A18 A19:Type} (f:A0→A1→A2→A3→A4→A5→A6→A7→A8→A9→A10→A11→A12→A13→A14→A15→A16→A17→A18→A19→R) (d:A0×A1×A2×A3×A4×A5×A6×A7×A8×A9×A10×A11×A12×A13×A14×A15×A16×A17×A18×A19×U):R:=u19 (f d.1) d.2
@[reducible] def u21 {R U A0 A1 A2 A3 A4 A5 A6 A7 A8 A9 A10 A11 A12 A13 A14 A15 A16 A17 A18 A19 A20:Type} (f:A0→A1→A2→A3→A4→A5→A6→A7→A8→A9→A10→A11→A12→A13→A14→A15→A16→A17→A18→A19→A20→R) (d:A0×A1×A2×A3×A4×A5×A6×A7×A8×A9×A10×A11×A12×A13×A14×A15×A16×A17×A18×A19×A20×U):R:=u20 (f d.1) d.2
@[reducible] def u22 {R U A0 A1 A2 A3 A4 A5 A6 A7 A8 A9 A10 A11 A12 A13 A14 A15 A16 A17 A18 A19 A20 A21:Type} (f:A0→A1→A2→A3→A4→A5→A6→A7→A8→A9→A10→A11→A12→A13→A14→A15→A16→A17→A18→A19→A20→A21→R) (d:A0×A1×A2×A3×A4×A5×A6×A7×A8×A9×A10×A11×A12×A13×A14×A15×A16×A17×A18×A19×A20×A21×U):R:=u21 (f d.1) d.2
@[reducible] def u23 {R U A0 A1 A2 A3 A4 A5 A6 A7 A8 A9 A10 A11 A12 A13 A14 A15 A16 A17 A18 A19 A20 A21 A22:Type} (f:A0→A1→A2→A3→A4→A5→A6→A7→A8→A9→A10→A11→A12→A13→A14→A15→A16→A17→A18→A19→A20→A21→A22→R) (d:A0×A1×A2×A3×A4×A5×A6×A7×A8×A9×A10×A11×A12×A13×A14×A15×A16×A17×A18×A19×A20×A21×A22×U):R:=u22 (f d.1) d.2
@[reducible] def u24 {R U A0 A1 A2 A3 A4 A5 A6 A7 A8 A9 A10 A11 A12 A13 A14 A15 A16 A17 A18 A19 A20 A21 A22 A23:Type} (f:A0→A1→A2→A3→A4→A5→A6→A7→A8→A9→A10→A11→A12→A13→A14→A15→A16→A17→A18→A19→A20→A21→A22→A23→R) (d:A0×A1×A2×A3×A4×A5×A6×A7×A8×A9×A10×A11×A12×A13×A14×A15×A16×A17×A18×A19×A20×A21×A22×A23×U):R:=u23 (f d.1) d.2
@[reducible] def u25 {R U A0 A1 A2 A3 A4 A5 A6 A7 A8 A9 A10 A11 A12 A13 A14 A15 A16 A17 A18 A19 A20 A21 A22 A23 A24:Type} (f:A0→A1→A2→A3→A4→A5→A6→A7→A8→A9→A10→A11→A12→A13→A14→A15→A16→A17→A18→A19→A20→A21→A22→A23→A24→R) (d:A0×A1×A2×A3×A4×A5×A6×A7×A8×A9×A10×A11×A12×A13×A14×A15×A16×A17×A18×A19×A20×A21×A22×A23×A24×U):R:=u24 (f d.1) d.2
@[reducible] def u26 {R U A0 A1 A2 A3 A4 A5 A6 A7 A8 A9 A10 A11 A12 A13 A14 A15 A16 A17 A18 A19 A20 A21 A22 A23 A24 A25:Type} (f:A0→A1→A2→A3→A4→A5→A6→A7→A8→A9→A10→A11→A12→A13→A14→A15→A16→A17→A18→A19→A20→A21→A22→A23→A24→A25→R) (d:A0×A1×A2×A3×A4×A5×A6×A7×A8×A9×A10×A11×A12×A13×A14×A15×A16×A17×A18×A19×A20×A21×A22×A23×A24×A25×U):R:=u25 (f d.1) d.2
@[reducible] def u27 {R U A0 A1 A2 A3 A4 A5 A6 A7 A8 A9 A10 A11 A12 A13 A14 A15 A16 A17 A18 A19 A20 A21 A22 A23 A24 A25 A26:Type} (f:A0→A1→A2→A3→A4→A5→A6→A7→A8→A9→A10→A11→A12→A13→A14→A15→A16→A17→A18→A19→A20→A21→A22→A23→A24→A25→A26→R) (d:A0×A1×A2×A3×A4×A5×A6×A7×A8×A9×A10×A11×A12×A13×A14×A15×A16×A17×A18×A19×A20×A21×A22×A23×A24×A25×A26×U):R:=u26 (f d.1) d.2
@[reducible] def u28 {R U A0 A1 A2 A3 A4 A5 A6 A7 A8 A9 A10 A11 A12 A13 A14 A15 A16 A17 A18 A19 A20 A21 A22 A23 A24 A25 A26 A27:Type} (f:A0→A1→A2→A3→A4→A5→A6→A7→A8→A9→A10→A11→A12→A13→A14→A15→A16→A17→A18→A19→A20→A21→A22→A23→A24→A25→A26→A27→R) (d:A0×A1×A2×A3×A4×A5×A6×A7×A8×A9×A10×A11×A12×A13×A14×A15×A16×A17×A18×A19×A20×A21×A22×A23×A24×A25×A26×A27×U):R:=u27 (f d.1) d.2
@[reducible] def u29 {R U A0 A1 A2 A3 A4 A5 A6 A7 A8 A9 A10 A11 A12 A13 A14 A15 A16 A17 A18 A19 A20 A21 A22 A23 A24 A25 A26 A27 A28:Type} (f:A0→A1→A2→A3→A4→A5→A6→A7→A8→A9→A10→A11→A12→A13→A14→A15→A16→A17→A18→A19→A20→A21→A22→A23→A24→A25→A26→A27→A28→R) (d:A0×A1×A2×A3×A4×A5×A6×A7×A8×A9×A10×A11×A12×A13×A14×A15×A16×A17×A18×A19×A20×A21×A22×A23×A24×A25×A26×A27×A28×U):R:=u28 (f d.1) d.2
@[reducible] def u30 {R U A0 A1 A2 A3 A4 A5 A6 A7 A8 A9 A10 A11 A12 A13 A14 A15 A16 A17 A18 A19 A20 A21 A22 A23 A24 A25 A26 A27 A28 A29:Type} (f:A0→A1→A2→A3→A4→A5→A6→A7→A8→A9→A10→A11→A12→A13→A14→A15→A16→A17→A18→A19→A20→A21→A22→A23→A24→A25→A26→A27→A28→A29→R) (d:A0×A1×A2×A3×A4×A5×A6×A7×A8×A9×A10×A11×A12×A13×A14×A15×A16×A17×A18×A19×A20×A21×A22×A23×A24×A25×A26×A27×A28×A29×U):R:=u29 (f d.1) d.2
@[reducible] def u31 {R U A0 A1 A2 A3 A4 A5 A6 A7 A8 A9 A10 A11 A12 A13 A14 A15 A16 A17 A18 A19 A20 A21 A22 A23 A24 A25 A26 A27 A28 A29 A30:Type} (f:A0→A1→A2→A3→A4→A5→A6→A7→A8→A9→A10→A11→A12→A13→A14→A15→A16→A17→A18→A19→A20→A21→A22→A23→A24→A25→A26→A27→A28→A29→A30→R) (d:A0×A1×A2×A3×A4×A5×A6×A7×A8×A9×A10×A11×A12×A13×A14×A15×A16×A17×A18×A19×A20×A21×A22×A23×A24×A25×A26×A27×A28×A29×A30×U):R:=u30 (f d.1) d.2
@[reducible] def u32 {R U A0 A1 A2 A3 A4 A5 A6 A7 A8 A9 A10 A11 A12 A13 A14 A15 A16 A17 A18 A19 A20 A21 A22 A23 A24 A25 A26 A27 A28 A29 A30 A31:Type} (f:A0→A1→A2→A3→A4→A5→A6→A7→A8→A9→A10→A11→A12→A13→A14→A15→A16→A17→A18→A19→A20→A21→A22→A23→A24→A25→A26→A27→A28→A29→A30→A31→R) (d:A0×A1×A2×A3×A4×A5×A6×A7×A8×A9×A10×A11×A12×A13×A14×A15×A16×A17×A18×A19×A20×A21×A22×A23×A24×A25×A26×A27×A28×A29×A30×A31×U):R:=u31 (f d.1) d.2
structure TL where
 nt:Nat
 ins:List Item
 outs:List Item
 id:Nat
 L:Nat→D (tysI ins [])→Option (D (tysI outs []))
 S:Nat→D (tysI ins [])→Option (D (tysI outs []))
def TL.ann(t:TL)(F:Nat){ρ:Type}:Ann ρ:=annS t.nt t.ins t.outs (t.L F)
def TL.ok(P:Program)(fn:Func)(t:TL)(F:Nat):Prop:=∀{ρ:Type} (B:Base) (w:World),z9g (ρ:=ρ) P false B w (.block t.id (.loop (zc8 (qj8 fn) t.id))) (t.ann F)
structure TX where
 nt:Nat
 ins:List Item
 outX:List Item
 outs:List Item
 e2:Exit
 id:Nat
 L:Nat→D (tysI ins [])→Option (D (tysI outX [])⊕D (tysI outs []))
 S:Nat→D (tysI ins [])→Option (D (tysI outX [])⊕D (tysI outs []))
def TX.ann(t:TX)(F:Nat){ρ:Type}:Ann ρ:=annX t.nt t.ins t.outX t.outs t.e2 (t.L F)
def TX.ok(P:Program)(fn:Func)(t:TX)(F:Nat):Prop:=∀{ρ:Type} (B:Base) (w:World),z9g (ρ:=ρ) P false B w (.block t.id (.loop (zc8 (qj8 fn) t.id))) (t.ann F)
theorem aN{ρ:Type}{P:Program}{c:Code}:qn3 (ρ:=ρ) P c []:=j5z P c
theorem aL{ρ:Type}{P:Program}{fn:Func}{c:Code}{t:TL}{F:Nat}{l:List (Nat×Ann ρ)}(hb:z0i c t.id=[.loop (zc8 (qj8 fn) t.id)])(h:t.ok P fn F)(hl:qn3 P c l):qn3 P c ((t.id,t.ann F)::l):=
 zhi hb (fun B w=>h B w) hl
theorem aX{ρ:Type}{P:Program}{fn:Func}{c:Code}{t:TX}{F:Nat}{l:List (Nat×Ann ρ)}(hb:z0i c t.id=[.loop (zc8 (qj8 fn) t.id)])(h:t.ok P fn F)(hl:qn3 P c l):qn3 P c ((t.id,t.ann F)::l):=
 zhi hb (fun B w=>h B w) hl
theorem okF{P:Program}(hP:q1y P){l:List ToldF}(hl:q02 P l){fn:Func}{t:ToldF}(anns:List (Nat×Ann (D (tysO t.os))))(hf:P.funcs[t.f]? =some fn)(ha:qn3 P (qj8 fn) anns)
  (h:∀d,zqr P (calT P l _) (qcalT l _) (zd3 anns) t.f (bldS t.n t.ins d).tmps (bldS t.n t.ins d).heap (endO t.os)=t.F d):t.ok P:=
 toldF_ok hP hl hf ha h
theorem okL{P:Program}(hP:q1y P){l:List ToldF}(hl:q02 P l){fn:Func}{t:TL}{F:Nat}(anns:List (Nat×Ann (D (tysI t.outs []))))(ha:qn3 P (zc8 (qj8 fn) t.id) anns)
  (h0:∀d,t.L 0 d=none) (h1:∀k d,t.S k d=t.L (k+1) d)
  (hs:∀k d,q7c P (calT P l _) (qcalT l _) (zd3 anns) (zc8 (qj8 fn) t.id) (bldS t.nt t.ins d) (kS t.nt t.ins t.outs t.id (t.L k))=t.S k d):t.ok P fn F:=by
 intro ρ B w
 exact toldS_ok hP hl ha h0 (fun k d=>(hs k d).trans (h1 k d)) F B w
theorem okX{P:Program}(hP:q1y P){l:List ToldF}(hl:q02 P l){fn:Func}{t:TX}{F:Nat}(anns:List (Nat×Ann (D (tysI t.outX [])⊕D (tysI t.outs []))))(ha:qn3 P (zc8 (qj8 fn) t.id) anns)
  (h0:∀d,t.L 0 d=none) (h1:∀k d,t.S k d=t.L (k+1) d) (he:t.e2= .ret∨∃j,t.e2= .exit j∧j≠t.id)
  (hs:∀k d,q7c P (calT P l _) (qcalT l _) (zd3 anns) (zc8 (qj8 fn) t.id) (bldS t.nt t.ins d) (kX t.nt t.ins t.outX t.outs t.id t.e2 (t.L k))=t.S k d):t.ok P fn F:=by
 intro ρ B w
 exact toldX_ok hP hl ha h0 (fun k d=>(hs k d).trans (h1 k d)) he F B w
theorem eR{e:Exit}{id:Nat}(h:e= .ret):e= .ret∨∃j,e= .exit j∧j≠id:= .inl h
end Go.AE
namespace Go.AE
open Go Go.RowKit
theorem law_told{P:Program}{t:ToldF}(h:t.ok P)(ho:t.os=[.ty .bool]){d:D (tysI t.ins [])}(hd:t.F d=some (ho▸(true,()))){M:List Place}{w:World}{vs:Array Value}
  (hl:RelL M (bldS t.n t.ins d).tmps vs.toList) (hH:RelH M (bldS t.n t.ins d).heap (Base.at w.heap.size) w):Calls P t.f vs w fun e w' =>e= .returned (.bool true)∧Below w.heap.size w w' :=by
 obtain⟨f,n,ins,os,F⟩:=t
 dsimp only at ho hd hl hH
 subst ho
 refine(h d _ hd M _ w vs hl hH).mono ?_
 rintro e w' ⟨rs,rfl,hb,N,Fz,_,_,_,_,_,hav,_⟩
 have hr:=hav []
 obtain⟨v,vs',hv,hx,hn⟩:=RelL_cons.1 hr
 have hn:vs' =[]:=by simpa[avsO,RelL_nil]using hn
 subst hn
 refine⟨?_,hb.below⟩
 have e1:=(q36 (x:=true) (l:=none) hx).1
 have h1:rs= #[.bool true]:=by
  apply Array.toList_inj.1
  rw[hv,e1]
 subst h1
 rfl
end Go.AE
namespace Go.AE
open Go Go.RowKit
theorem zsb{P:Program}{ρ:Operand→Value}{o:Oper}{t t' :TypeId}{e:TypeId}{x:Operand}(ho:o.op= .binOp .eql t x (.const (.slice none 0 0)) t'){A:Option Addr}{len cap:Nat}(hx:ρ x= .slice A len cap)(hy:ρ (.const (.slice none 0 0))= .slice none 0 0)(hu:P.underlying t=some (.slice e))(w:World):
  (execOp ρ o).run P w= .ok (.value (.bool A.isNone)) w:=by
 have h:(Op.equalIn Op.maxDepth t (.slice A len cap) (.slice none 0 0)).run P w= .ok A.isNone w:=by
  rw[show Op.maxDepth=(Op.maxDepth-1)+1 from rfl]
  simp only[Op.equalIn,Sem.run_bind,run_underlying hu,Result.andThen_ok]
  cases A<;>rfl
 simp[execOp,ho,hx,hy,eqGuard,binOp,Op.equal,h]
theorem wp_to{P:Program}(hP:q1y P){cal:Cal St}(hcal:∀f,qvu P f (cal f)){qcal:QCal St}(hq:∀f,qn1 P f (qcal f)){c:Code}{st st' :St}(h:q7c P cal qcal (fun _=>none) c st (fun e s=>match e with| .normal=>some s|_=>none)=some st')
  {M:List Place} {B:Base} {w0:World} {a:Go.Act} {w:World} (hr:Rel M st B w0 a w) {Q:Exit→Go.Act→World→Prop} (hn:∀M' a' w',Rel M' st' B w0 a' w' →Q .normal a' w'):c.wp P Q a w:=by
 refine qhf hP hcal hq c (fun _ _ _ h=>by cases h) st _ h M a w Q hr fun e M' s a' w' (_:ExtO true M M') hk hr' => ?_
 cases e<;>simp only[reduceCtorEq]at hk
 cases hk
 exact hn M' a' w' hr'
def zhj(sz:Nat)(l:LI):Option (LI×Unit):=
 cond (decide (0+div1 l.length sz≤1099511627776)&&(if false=true then decide (0<div1 l.length sz)else true)) (some (l,())) none
abbrev k0:Exit→St→Option St:=fun e s=>match e with| .normal=>some s|_=>none
theorem j60{P:Program}(hP:q1y P){f:FuncId}{fn:Func}(hf:P.funcs[f]? =some fn){k:IntKind}{sz:Nat}{R0 X REST:Code}{i1:Nat}{o3 o4:Oper}{t t' e:TypeId}
  (hb:fn.body=some (.seq R0 (.seq (.seq (.region i1 #[o3,o4] false) (.cond (.tmp 4) X .skip)) REST)))
  (ho4:o4.op= .binOp .eql t (.tmp 3) (.const (.slice none 0 0)) t') (hd4:o4.dst=some 4) (hg4:o4.guard=none) (hg3:o3.guard=none) (hu:P.underlying t=some (.slice e))
  (st1 st2:LI→St)
  (h0:∀l,q7c P (evFn P (qgr St) 1) (qof (qgr St)) (fun _=>none) R0 ⟨[.sl 1 0 (div1 (ya (α:=Int) l) sz) sz .whole]++yz (fn.ntmps-1) .undef,[none,some ⟨.row k l,false,none⟩]⟩ k0=some (st1 l))
  (h3:∀l,zgt P (evFn P (qgr St) 1) o3 (st1 l) some=some (st2 l))
  (hs3:∀l,(st2 l).tmps.getD 3 .undef= .sl 1 0 (div1 (ya (α:=Int) l) sz) sz .whole∧(st2 l).heap=[none,some ⟨.row k l,false,none⟩])
  (hlen:∀l,4<(st2 l).tmps.length)
  (hX:∀l,q7c P (evFn P (qgr (D (tysO [.row k sz]))) 1) (qof (qgr _)) (fun _=>none) X ((st2 l).put (some 4) (.bool (some true) true)) (fun e st=>match e with
   | .ret=>(match zd0 P st fn.results.toList with|some l=>endO [.row k sz] l st.heap|none=>none)|_=>none)=some ([],()))
  (hR:∀l,q7c P (evFn P (qgr (D (tysO [.row k sz]))) 1) (qof (qgr _)) (fun _=>none) REST ((st2 l).put (some 4) (.bool (some false) false)) (fun e st=>match e with
   | .ret=>(match zd0 P st fn.results.toList with|some l=>endO [.row k sz] l st.heap|none=>none)|_=>none)=zhj sz l):
  zxp P f 1 [.row k sz (.slot 0) false] [.row k sz] (fun d=>zhj sz d.1):=by
 rintro⟨l,⟨⟩⟩ r hF M B w vs hl hH
 have hF:zhj sz l=some r:=hF
 have hl:RelL M [.sl 1 0 (div1 l.length sz) sz .whole] vs.toList:=hl
 have hH:RelH M [none,some ⟨.row k l,false,none⟩] B w:=hH
 have hs:=z5x hl
 simp at hs
 refine calls_of_wp hf hb ?_
 have e0:=zhd P St
 have e1:=zhd P (D (tysO [Out.row k sz]))
 have hr0:Rel M ⟨[.sl 1 0 (div1 l.length sz) sz .whole]++yz (fn.ntmps-1) .undef,[none,some ⟨.row k l,false,none⟩]⟩ B w {tmps:=vs++Array.replicate (fn.ntmps-vs.size) undef,defers:=[]} w:=
  ⟨by rw[←hs];exact zh9 hl _,rfl,hH,Beneath.refl _ _⟩
 refine wp_seq (wp_to hP (zha hP e0 1) (j40 e0) (h0 l) hr0 fun M1 a1 w1 hr1=> ?_)
 refine wp_seq (wp_seq (wp_region_list ?_))
 show wpList P #[o3,o4] _ [o3,o4] a1 w1
 unfold wpList
 rw[iP (by simp[Region.wanted,hg3])]
 refine .inl (zby hP (zha hP e0 1) (h3 l) hr1 fun M2 st a2 w2 hE hk hr2=> ?_)
 cases hk
 unfold wpList
 rw[iP (by simp[Region.wanted,hg4])]
 refine .inl ?_
 obtain⟨hs1,hs2⟩:=hs3 l
 have hv3:=hr2.tmps.2 3
 rw[hs1]at hv3
 have hv3' :=hv3
 simp only[RelV,RelX]at hv3
 obtain⟨pl,A,cap,hpl,hv,hn,hcap,hnil,hnn,_⟩:=hv3
 have hv:a2.tmps.getD 3 undef= .slice A (div1 l.length sz) cap:=by simpa using hv
 have hrun:=zsb (ρ:=a2.eval) ho4 (by simpa[Go.Act.eval]using hv) (by simp[Go.Act.eval]) hu w2
 unfold Oper.wp
 rw[hrun,Oper.upon_value,hd4]
 unfold wpList
 have hrb:∀b,A.isNone=b→Rel M2 ((st2 l).put (some 4) (.bool (some b) b)) B w (a2.put (some 4) (.bool A.isNone)) w2:=by
  intro b hb
  rw[hb]
  exact hr2.put (by simp[RelV,RelX]) (some 4)
 have fin:∀{c:Code} {b:Bool} {Q:Exit→Go.Act→World→Prop},A.isNone=b→q7c P (evFn P (qgr (D (tysO [.row k sz]))) 1) (qof (qgr _)) (fun _=>none) c ((st2 l).put (some 4) (.bool (some b) b)) (fun e st=>match e with
   | .ret=>(match zd0 P st fn.results.toList with|some l=>endO [.row k sz] l st.heap|none=>none)|_=>none)=some r→
   (∀a' w',(a'.defers=[]∧∃v,(results fn a'.tmps).run P w' = .ok v w' ∧∃rs:Array Value,Ending.returned v= .returned (retV rs)∧Beneath B w w' ∧j8a B w' [.row k sz] r rs.toList)→Q .ret a' w')→
   c.wp P Q (a2.put (some 4) (.bool A.isNone)) w2:=by
  intro c b Q hb hev hQ
  refine qhf hP (zha hP e1 1) (j40 e1) c (fun _ _ _ h=>by cases h) _ _ hev M2 _ w2 _ (hrb b hb) fun e M3 st3 a3 w3 (_:ExtO true M2 M3) hk hr3=> ?_
  cases e<;>simp only[reduceCtorEq]at hk
  split at hk
  ·rename_i l3 hres
   obtain⟨rs,g1,g2⟩:=zh8 hr3.tmps hr3.heap hres
   exact hQ _ _ ⟨hr3.defers,_,g2,rs,rfl,hr3.below,zxo hr3.heap hk g1⟩
  ·cases hk
 have ev4:(a2.put (some 4) (.bool A.isNone)).eval (.tmp 4)= .bool A.isNone:=by
  have h4:4<a2.tmps.size:=by rw[←hr2.tmps.1];exact hlen l
  simp[Go.Act.eval,Go.Act.put,h4]
 cases hA:A.isNone with
 |true=>
  rw[hA]at ev4 fin
  refine wp_cond_true ev4 (fin rfl ?_ fun a' w' h=>h)
  have hpn:pl.nil=true:=by
   cases hp:pl.nil with
   |true=>rfl
   |false=>exact absurd (Option.isNone_iff_eq_none.1 hA) (hnn hp).1
  have hl0:l=[]:=by
   obtain⟨p0,hp0,hok⟩:=hr2.heap.obj 1 ⟨.row k l,false,none⟩ (by rw[hs2];rfl)
   rw[hpl]at hp0
   cases hp0
   rcases hok with⟨_,hn0,hro⟩|⟨h,_⟩
   ·simp only[RelO]at hro
    have:=congrArg ya hro.1
    exact List.length_eq_zero_iff.1 (by simpa using this.symm)
   ·rw[hpn]at h;cases h
  subst hl0
  have:r=([],()):=by simpa[zhj,j1n]using hF.symm
  subst this
  exact hX []
 |false=>
  rw[hA]at ev4 fin
  refine wp_cond_false ev4 (wp_skip ?_)
  show Code.wp P REST _ _ _
  refine fin rfl ?_ fun a' w' h=>h
  rw[hR]
  exact hF
def cloneR0(c:Code):Code:=match c with| .seq a _=>a|_=> .skip
def cloneX(c:Code):Code:=match c with| .seq _ (.seq (.seq _ (.cond _ x _)) _)=>x|_=> .skip
def j8j(c:Code):Code:=match c with| .seq _ (.seq _ y)=>y|_=> .skip
def j43(c:Code):List Oper:=match c with| .seq _ (.seq (.seq (.region _ ops _) _) _)=>ops.toList|_=>[]
def j8k : Oper := ⟨none, .assign (.tmp 0), 0, "", #[], none⟩
def cloneO3(c:Code):Oper:=match j43 c with|[a,_]=>a|_=>j8k
def cloneO4(c:Code):Oper:=match j43 c with|[_,b]=>b|_=>j8k
theorem zxu{l:LI}(h:l.length≤1099511627776):zhj 1 l=some (l,()):=by
 simp[zhj,j1n,h]
def cloneS1(sz:Nat)(k:IntKind)(l:LI):St:=⟨[.sl 1 0 (div1 l.length sz) sz .whole,.undef,.nils,.undef,.undef,.undef,.undef,.undef],[none,some ⟨.row k l,false,none⟩]⟩
def j8l(sz:Nat)(k:IntKind)(l:LI):St:=⟨[.sl 1 0 (div1 l.length sz) sz .whole,.undef,.nils,.sl 1 0 (div1 l.length sz) sz .whole,.undef,.undef,.undef,.undef],[none,some ⟨.row k l,false,none⟩]⟩
end Go.AE
namespace Go.AE
open Go Go.RowKit
def zxv(P:Program)(k:IntKind)(u:TypeId):Bool:=match P.underlying u with
 |some (.int k')=>k' ==k
 |_=>false
def j1t(P:Program)(u:TypeId):Bool:=match P.underlying u with
 |some .bool=>true
 |_=>false
def z61(P:Program):List CTy→List TypeId→Bool
 |[],[]=>true
 | .int k::r,u::us=>zxv P k u&&z61 P r us
 | .bool::r,u::us=>j1t P u&&z61 P r us
 | .is k n::r,us=>decide (n≤us.length)&&((us.take n).all (zxv P k)&&z61 P r (us.drop n))
 |_,_=>false
def wfC:(cs:List CTy)→DC cs→Prop
 |[],_=>True
 | .int k::r,d=>k.has d.1∧wfC r d.2
 | .bool::r,d=>wfC r d.2
 | .is k n::r,d=>(ya (α:=Int) d.1=n∧∀x∈(d.1:LI),k.has x)∧wfC r d.2
 |_::_,_=>False
theorem zhk{P:Program}{w:World}{r:Reach}{base:Nat}{k:IntKind}{u:TypeId}{v:Value}(ht:zxv P k u=true)(h:Cell.okWide P w r base u v):∃x,v= .int k x∧k.has x:=by
 unfold zxv at ht
 split at ht
 ·rename_i k' hu
  have hk:k' =k:=by simpa using ht
  subst hk
  unfold Cell.okWide at h
  rw[hu]at h
  unfold Cell.ok at h
  rw[hu]at h
  cases v<;>simp at h
  obtain⟨rfl,h⟩:=h
  exact⟨_,rfl,h⟩
 ·cases ht
theorem zxw{P:Program}{w:World}{r:Reach}{base:Nat}{u:TypeId}{v:Value}(ht:j1t P u=true)(h:Cell.okWide P w r base u v):∃x,v= .bool x:=by
 unfold j1t at ht
 split at ht
 ·rename_i hu
  unfold Cell.okWide at h
  rw[hu]at h
  unfold Cell.ok at h
  rw[hu]at h
  cases v<;>simp at h
  exact⟨_,rfl⟩
 ·cases ht
theorem j8m{P:Program}{w:World}{r:Reach}{base:Nat}{k:IntKind}:∀{us:List TypeId} {vs:List Value},us.all (zxv P k)=true→vs.length=us.length→(∀(i:Nat) v,vs[i]? =some v→∃u,us[i]? =some u∧Cell.okWide P w r base u v)→
  ∃l:LI,vs=l.map (.int k)∧l.length=us.length∧∀x∈l,k.has x
 |[],vs,_,hl,_=>⟨[],by simpa using hl,rfl,by simp⟩
 |u::us,[],_,hl,_=>by simp at hl
 |u::us,v::vs,ha,hl,h=>by
  simp only[List.all_cons,yl]at ha
  obtain⟨l,e,h1,h2⟩:=j8m (us:=us) (vs:=vs) ha.2 (by simpa using hl) fun i v hv=>by simpa using h (i+1) v (by simpa using hv)
  obtain⟨u',hu',hc⟩:=h 0 v rfl
  simp at hu'
  subst hu'
  obtain⟨x,rfl,hx⟩:=zhk ha.1 hc
  refine⟨x::l,by rw[e];rfl,by simp[h1],fun y hy=> ?_⟩
  rcases yr.1 hy with rfl|hy
  ·exact hx
  ·exact h2 y hy
theorem zg7{P:Program}{w:World}{r:Reach}{base:Nat}:∀{cs:List CTy} {us:List TypeId} {vs:List Value},z61 P cs us=true→vs.length=us.length→(∀(i:Nat) v,vs[i]? =some v→∃u,us[i]? =some u∧Cell.okWide P w r base u v)→
  ∃d:DC cs,wfC cs d∧∀M,RelC M (mkCs cs d) vs
 |[],[],vs,_,hl,_=>⟨(),trivial,fun M=>RelC_nil.2 (by simpa using hl)⟩
 |[],_::_,vs,hc,_,_=>by simp[z61]at hc
 | .int k::cs,[],vs,hc,_,_=>by simp[z61]at hc
 | .bool::cs,[],vs,hc,_,_=>by simp[z61]at hc
 | .int k::cs,u::us,[],_,hl,_=>by simp at hl
 | .bool::cs,u::us,[],_,hl,_=>by simp at hl
 | .int k::cs,u::us,v::vs,hc,hl,h=>by
  simp only[z61,yl]at hc
  obtain⟨d,h1,h2⟩:=zg7 (us:=us) (vs:=vs) hc.2 (by simpa using hl) fun i v hv=>by simpa using h (i+1) v (by simpa using hv)
  obtain⟨u',hu',hw⟩:=h 0 v rfl
  simp at hu'
  subst hu'
  obtain⟨x,rfl,hx⟩:=zhk hc.1 hw
  exact⟨(x,d),⟨hx,h1⟩,fun M=>RelC_cons.2 ⟨[.int k x],vs,rfl,RelX_int.2 ⟨rfl,hx,fun m hm=>by cases hm⟩,h2 M⟩⟩
 | .bool::cs,u::us,v::vs,hc,hl,h=>by
  simp only[z61,yl]at hc
  obtain⟨d,h1,h2⟩:=zg7 (us:=us) (vs:=vs) hc.2 (by simpa using hl) fun i v hv=>by simpa using h (i+1) v (by simpa using hv)
  obtain⟨u',hu',hw⟩:=h 0 v rfl
  simp at hu'
  subst hu'
  obtain⟨x,rfl⟩:=zxw hc.1 hw
  exact⟨(x,d),h1,fun M=>RelC_cons.2 ⟨[.bool x],vs,rfl,by simp[mk1,RelX],h2 M⟩⟩
 | .str::cs,us,vs,hc,_,_=>by simp[z61]at hc
 | .fsl _ _::cs,us,vs,hc,_,_=>by simp[z61]at hc
 | .dsl _::cs,us,vs,hc,_,_=>by simp[z61]at hc
 | .is k n::cs,us,vs,hc,hl,h=>by
  simp only[z61,yl,decide_eq_true_eq]at hc
  obtain⟨hn,ha,hc⟩:=hc
  obtain⟨d,h1,h2⟩:=zg7 (us:=us.drop n) (vs:=vs.drop n) hc (by simp[hl]) fun i v hv=>by
   rw[List.getElem?_drop]at hv⊢
   exact h (n+i) v hv
  obtain⟨l,e,g1,g2⟩:=j8m (us:=us.take n) (vs:=vs.take n) (w:=w) (r:=r) (base:=base) ha (by simp[hl]) fun i v hv=>by
   rw[List.getElem?_take]at hv⊢
   split at hv
   ·rename_i hi
    rw[iP hi]
    exact h i v hv
   ·cases hv
  have hln:l.length=n:=by simp at g1;omega
  exact⟨(l,d),⟨⟨hln,g2⟩,h1⟩,fun M=>RelC_cons.2 ⟨vs.take n,vs.drop n,by simp,RelX_is.2 ⟨hln,e,g2⟩,h2 M⟩⟩
theorem agg_of{P:Program}{w:World}{r:Reach}{base:Nat}{t:TypeId}{v:Value}{cs:List CTy}{us:List TypeId}(hu:(match P.underlying t with|some (.struct _)|some (.array _ _)=>true|_=>false)=true)
  (ht:P.cellTypes P.depth t=some us) (hn:P.cellsOf t=us.length) (hc:z61 P cs us=true) (h:Value.okWide P w r base t v):∃d:DC cs,wfC cs d∧∀M,RelV M (.agg (mkCs cs d)) v:=by
 have h' :∃xs:Array Value,v= .agg xs∧xs.size=P.cellsOf t∧Row.okWide P w r base t xs:=by
  unfold Value.okWide at h
  split at hu
  ·rename_i hq;rw[hq]at h;exact h
  ·rename_i hq;rw[hq]at h;exact h
  ·cases hu
 obtain⟨xs,rfl,hsz,ts,hts,_,hrow⟩:=h'
 rw[ht]at hts
 cases hts
 obtain⟨d,h1,h2⟩:=zg7 (vs:=xs.toList) (w:=w) (r:=r) (base:=base) hc (by simp;omega) fun i v hv=>by
  have hi:i<us.length:=by
   have:=(List.getElem?_eq_some_iff.1 hv).1
   simp at this
   omega
  obtain⟨u,hu',hw⟩:=hrow i v (by simpa using hv)
  rw[Nat.mod_eq_of_lt hi]at hu'
  exact⟨u,hu',hw⟩
 exact⟨d,h1,fun M=>RelX_agg.2 ⟨xs,rfl,h2 M⟩⟩
end Go.AE
namespace Go.AE
open Go Go.RowKit
open Go.MapKept (Stamped stamped_push stamped_empty stamped_iff)
open Go.ChangeMaps (setBlock)
def MapAt(w:World)(b:Nat)(T:List (Value×Value)):Prop:=
 ∃es clock,w.heap[b]? =some (.map es clock)∧Stamped es clock∧(es.toList.map fun e=>(e.key,e.val)).Perm T
theorem MapAt.made(w:World):MapAt (w.alloc (.map #[] 0)) w.heap.size []:=
 ⟨#[],0,(MapKept.heap_alloc w _).1,stamped_empty 0,.nil⟩
theorem zsc{w:World}{b:Nat}{o o' :Obj}(h:w.heap[b]? =some o):(setBlock w b o').heap[b]? =some o' :=by
 have:=(Array.getElem?_eq_some_iff.1 h).1
 simp[setBlock,this]
theorem zn4{w:World}{b i:Nat}{o' :Obj}(h:i≠b):(setBlock w b o').heap[i]? =w.heap[i]? :=by
 simp[setBlock,Array.getElem?_setIfInBounds_ne (Ne.symm h)]
theorem MapAt.ins{P:Program}{k t e:TypeId}(K:Maps.Keyed P k)(ht:P.underlying t=some (.map k e)){w:World}{b:Nat}{T:List (Value×Value)}(h:MapAt w b T)(hT:∀p∈T,∃l,keyOf P k p.1=some l){key val:Value}
  (hkey:∃l,keyOf P k key=some l) (hne:∀p∈T,p.1≠key):∃w',(Instr.mapUpdate t (.map (some b)) key val).run P w= .ok () w' ∧MapAt w' b ((key,val)::T)∧w.grownBy w' (some b):=by
 obtain⟨es,clock,hb,hst,hp⟩:=h
 obtain⟨kl,hkey⟩:=hkey
 have mem:∀x∈es.toList,(x.key,x.val)∈T:=fun x hx=>hp.mem_iff.1 (List.mem_map.2 ⟨x,hx,rfl⟩)
 have hn:∀x∈es.toList,x.key≠key:=fun x hx=>hne _ (mem x hx)
 rcases K.find w hkey es.toList (fun x hx=>hT _ (mem x hx))with⟨h1,_⟩|⟨j,e0,_,h2,h3⟩
 ·refine⟨setBlock w b (.map (es.push ⟨key,val,clock⟩) (clock+1)),?_,⟨_,_,zsc hb,stamped_push hst hn,?_⟩,⟨rfl,rfl,rfl,by simp[setBlock],fun i _ hi=>zn4 fun e=>hi (by rw[e])⟩⟩
  ·simp[Instr.mapUpdate,run_underlying ht,MapKept.run_getObj_map hb,K.check w false hkey,h1,MapKept.run_setObj_map _ hb,Result.andThen,setBlock]
  ·rw[Array.toList_push,List.map_append,List.map_singleton]
   exact(List.perm_append_singleton _ _).trans (hp.cons _)
 ·exact absurd h3 (hn e0 (List.mem_of_getElem? h2))
theorem MapAt.kept{w w' :World}{n b:Nat}{T:List (Value×Value)}(h:MapAt w b T)(hb:Below n w w')(hn:b<n):MapAt w' b T:=by
 obtain⟨es,clock,h1,h2,h3⟩:=h
 exact⟨es,clock,(hb.block b hn).trans h1,h2,h3⟩
theorem Below.alloc(w:World)(o:Obj){n:Nat}(hn:n≤w.heap.size):Below n w (w.alloc o):=
 ⟨rfl,rfl,rfl,by simp,fun k hk=>(MapKept.heap_alloc w o).2 k (Nat.lt_of_lt_of_le hk hn)⟩
def rest:Nat→Code→Code
 |0,c=>c
 |n+1,.seq _ y=>rest n y
 |_+1,c=>c
theorem Below.weak{n m:Nat}{w w' :World}(h:Below n w w')(hm:m≤n):Below m w w' :=⟨h.os,h.tape,h.output,h.size,fun k hk=>h.block k (Nat.lt_of_lt_of_le hk hm)⟩
end Go.AE
namespace Go.AE
open Go Go.RowKit
open Go.ChangeMaps (setBlock)
structure FLoop (n dr b r:Nat) (x y:Int) (w0:World) (k:Nat) (a:Go.Act) (w:World):Prop where
 size:a.tmps.size=n
 defers:a.defers=[]
 s0:RelV M0 (.int .i64 none x) (a.tmps.getD 0 undef)
 s1:RelV M0 (.int .i64 none y) (a.tmps.getD 1 undef)
 sr:a.tmps.getD dr undef= .pointer (some ⟨r,0,none⟩)
 mem:∃es clock seen,w.heap[b]? =some (.map es clock)∧MapKept.Stamped es clock∧(es.toList.map fun e=>(e.key,e.val)).Perm (mapT 0)∧w.heap[r]? =some (.mapIter (some b) clock seen clock)∧(leftOf es seen).size=k∧
  ∀e∈es.toList,seen.contains e.born=true→∀q∈codesT,(e.key,e.val)=(.agg #[.int .i64 q.1,.int .i64 q.2.1],.int .i64 q.2.2)→¬(q.2.1=y∧q.2.2=x)
 below:Below w0.heap.size w0 w
 hb:w0.heap.size≤b
 hr:w0.heap.size≤r
 ne:r≠b
def seqB:Code→Code
 | .seq _ y=>y
 |_=> .skip
end Go.AE
namespace Go.AE.Gn
open Go Go.AE
def qpf(F:Nat)(a0:LI)(a1:Int)(a2:Int):Option (Bool×Unit):=
 let v2:Int:=(y0 .i64 (8*(((ya a0):Nat):Int)))
 cond (decide (a1≤v2))
  (let v4:Int:=(y0 .i64 (v2-a1))
  some ((decide (a2≤v4)),()))
  (some (false,()))
def qkw(F:Nat)(a0:LI)(a1:Int)(a2:Int):Option (Int×Unit):=
 cond (decide (a1<0))
  (some (1,()))
  (cond (decide (a2<0))
   (some (1,()))
   (cond (decide (64<a2))
    (some (1,()))
    ((qpf F a0 a1 a2).bind fun r10=>
    cond (!r10.1)
     (some (2,()))
     (some (0,())))))
def z62:LI:=[0,0,0,0,0,0,0,0]
def qwn(F:Nat)(rec:Int→LI→LI→Int→Option (LI×LI×Unit))(x0:Int)(x1:LI)(x2:LI)(x3:Int):Option (LI×LI×Unit):=
 cond (decide (x3<8))
  (cond (decide (0≤x3))
   (cond ((decide (0≤x3))&&(decide (x3<8)))
    (rec x0 x1 (yy x2 (y6 x3) (iand .u8 (ishr .u8 x0 x3) 1)) (y0 .i64 (x3+1)))
     none)
    none)
  (some (x1,x2,()))
def qgs(F:Nat):Nat→Int→LI→LI→Int→Option (LI×LI×Unit)
 |0,_,_,_,_=>none
 |k+1,x0,x1,x2,x3=>qwn F (qgs F k) x0 x1 x2 x3
def ql7(F:Nat)(a0:Int):Option (LI×Unit):=
 (qgs F F a0 z62 z62 0).bind fun r31=>
 let l32:LI:=(if((0=0)∧(8=8))then r31.2.1 else(y8 8 (y9 0 r31.2.1)))
 let l33:LI:=(if((0=0)∧(8=8))then l32 else(((y8 0 r31.1)++l32)++(y9 8 r31.1)))
 some ((if((0=0)∧(8=8))then l33 else(y8 8 (y9 0 l33))),())
def zg8(F:Nat)(a0:LI)(a1:Int):Option (Int×Unit):=
 let v36:Int:=(y0 .i64 (yx a1 8))
 cond ((decide (0≤v36))&&(decide (v36<(((ya a0):Nat):Int))))
  ((ql7 F (y7 a0 (y6 v36) 0)).bind fun r40=>
  let v41:Int:=(yw a1 8)
  cond ((decide (0≤v41))&&(decide (v41<8)))
   (some ((y7 r40.1 (y6 v41) 0),()))
    none)
   none
def qn4(F:Nat)(rec:LI→Int→Int→Int→Int→Int→Option ((Int×Unit)⊕(Int×Int×Unit)))(x0:LI)(x1:Int)(x2:Int)(x3:Int)(x4:Int)(x5:Int):Option ((Int×Unit)⊕(Int×Int×Unit)):=
 cond (decide (x5<x4))
  (cond (x2 !=0)
   (some (.inl (x2,())))
   ((zg8 F x0 (y0 .i64 (x1+x5))).bind fun r66=>
   cond (decide (0≤x5))
    (rec x0 x1 x2 (ior .u64 x3 (ishl .u64 r66.1 x5)) x4 (y0 .i64 (x5+1)))
     none))
  (some (.inr (x2,x3,())))
def qcy(F:Nat):Nat→LI→Int→Int→Int→Int→Int→Option ((Int×Unit)⊕(Int×Int×Unit))
 |0,_,_,_,_,_,_=>none
 |k+1,x0,x1,x2,x3,x4,x5=>qn4 F (qcy F k) x0 x1 x2 x3 x4 x5
def z0j(F:Nat)(a0:LI)(a1:Int)(a2:Int):Option (Int×Int×Unit):=
 (qkw F a0 a1 a2).bind fun r45=>
 (qcy F F a0 a1 r45.1 0 a2 0).bind fun r71=>match r71 with
  | .inl r71=>(some (0,r71.1,()))
  | .inr r71=>(some (r71.2.1,r71.1,()))
def z63(F:Nat)(a0:LI)(a1:Int):Option (Int×Unit):=
 let v73:Int:=(y0 .i64 (yx a1 8))
 cond ((decide (0≤v73))&&(decide (v73<(((ya a0):Nat):Int))))
  ((ql7 F (y7 a0 (y6 v73) 0)).bind fun r77=>
  let v79:Int:=(y0 .i64 (7-(yw a1 8)))
  cond ((decide (0≤v79))&&(decide (v79<8)))
   (some ((y7 r77.1 (y6 v79) 0),()))
    none)
   none
def qjo(F:Nat)(rec:LI→Int→Int→Int→Int→Int→Option ((Int×Unit)⊕(Int×Int×Unit)))(x0:LI)(x1:Int)(x2:Int)(x3:Int)(x4:Int)(x5:Int):Option ((Int×Unit)⊕(Int×Int×Unit)):=
 cond (decide (x5<x4))
  (cond (x2 !=0)
   (some (.inl (x2,())))
   ((z63 F x0 (y0 .i64 (x1+x5))).bind fun r103=>
   rec x0 x1 x2 (ior .u64 (ishl .u64 x3 1) r103.1) x4 (y0 .i64 (x5+1))))
  (some (.inr (x2,x3,())))
def qaa(F:Nat):Nat→LI→Int→Int→Int→Int→Int→Option ((Int×Unit)⊕(Int×Int×Unit))
 |0,_,_,_,_,_,_=>none
 |k+1,x0,x1,x2,x3,x4,x5=>qjo F (qaa F k) x0 x1 x2 x3 x4 x5
def qdu(F:Nat)(a0:LI)(a1:Int)(a2:Int):Option (Int×Int×Unit):=
 (qkw F a0 a1 a2).bind fun r83=>
 (qaa F F a0 a1 r83.1 0 a2 0).bind fun r106=>match r106 with
  | .inl r106=>(some (0,r106.1,()))
  | .inr r106=>(some (r106.2.1,r106.1,()))
def qwo(F:Nat)(a0:LI)(a1:Int)(a2:Int)(a3:Int):Option (Int×Unit):=
 (qkw F a0 a1 a2).bind fun r108=>
 cond (r108.1 !=0)
  (some (r108.1,()))
  (cond (decide (a2<64))
   (cond (decide (0≤a2))
    (cond ((ishr .u64 a3 a2) !=0)
     (some (10,()))
     (some (0,())))
     none)
   (some (0,())))
def q38(F:Nat)(a0:LI):Option (LI×Unit):=zhj 1 a0
def z64(F:Nat)(a0:Int)(a1:Int)(a2:Int):Option (Int×Unit):=
 let b114:Bool:=(decide (0≤a1))
 cond b114
  (cond b114
   (some ((ior .u8 (z5m .u8 a0 (ishl .u8 1 a1)) (ishl .u8 (y0 .u8 (iand .u64 a2 1)) a1)),()))
    none)
   none
def qig(F:Nat)(rec:Int→Int→Int→LI→Int→Int→Option (LI×Unit))(x0:Int)(x1:Int)(x2:Int)(x3:LI)(x4:Int)(x5:Int):Option (LI×Unit):=
 cond (decide (x5<x4))
  (let v160:Int:=(y0 .i64 ((y0 .i64 ((y0 .i64 (x0+x1))-1))-x5))
  let v161:Int:=(y0 .i64 (yx v160 8))
  let b162:Bool:=((decide (0≤v161))&&(decide (v161<(((ya x3):Nat):Int))))
  cond b162
   (cond (decide (0≤x5))
    ((z64 F (y7 x3 (y6 v161) 0) (y0 .i64 (7-(yw v160 8))) (ishr .u64 x2 x5)).bind fun r169=>
    cond b162
     (rec x0 x1 x2 (yy x3 (y6 v161) r169.1) x4 (y0 .i64 (x5+1)))
      none)
     none)
    none)
  (some (x3,()))
def q7d(F:Nat):Nat→Int→Int→Int→LI→Int→Int→Option (LI×Unit)
 |0,_,_,_,_,_,_=>none
 |k+1,x0,x1,x2,x3,x4,x5=>qig F (q7d F k) x0 x1 x2 x3 x4 x5
def q2t(F:Nat)(a0:LI)(a1:Int)(a2:Int)(a3:Int):Option (LI×Int×Unit):=
 (qwo F a0 a1 a2 a3).bind fun r122=>
 cond (r122.1 !=0)
  (some ([],r122.1,()))
  ((q38 F a0).bind fun r124=>
  (q7d F F a1 a2 a3 r124.1 a2 0).bind fun r172=>
  some (r172.1,0,()))
def ql8(F:Nat)(rec:Int→Int→LI→Int→Int→Option (LI×Unit))(x0:Int)(x1:Int)(x2:LI)(x3:Int)(x4:Int):Option (LI×Unit):=
 cond (decide (x4<x3))
  (let v205:Int:=(y0 .i64 (x0+x4))
  let v206:Int:=(y0 .i64 (yx v205 8))
  let b207:Bool:=((decide (0≤v206))&&(decide (v206<(((ya x2):Nat):Int))))
  cond b207
   (cond (decide (0≤x4))
    ((z64 F (y7 x2 (y6 v206) 0) (yw v205 8) (ishr .u64 x1 x4)).bind fun r213=>
    cond b207
     (rec x0 x1 (yy x2 (y6 v206) r213.1) x3 (y0 .i64 (x4+1)))
      none)
     none)
    none)
  (some (x2,()))
def q93(F:Nat):Nat→Int→Int→LI→Int→Int→Option (LI×Unit)
 |0,_,_,_,_,_=>none
 |k+1,x0,x1,x2,x3,x4=>ql8 F (q93 F k) x0 x1 x2 x3 x4
def q89(F:Nat)(a0:LI)(a1:Int)(a2:Int)(a3:Int):Option (LI×Int×Unit):=
 (qwo F a0 a1 a2 a3).bind fun r175=>
 cond (r175.1 !=0)
  (some ([],r175.1,()))
  ((q38 F a0).bind fun r177=>
  (q93 F F a1 a3 r177.1 a2 0).bind fun r216=>
  some (r216.1,0,()))
def qrz(F:Nat)(rec:LI→Int→Int→LI→Int→Int→Option (LI×Unit))(x0:LI)(x1:Int)(x2:Int)(x3:LI)(x4:Int)(x5:Int):Option (LI×Unit):=
 cond (decide (x5<x4))
  (let v248:Int:=(y0 .i64 (x5*x2))
  let v249:Int:=(y0 .i64 (x1+v248))
  (z0j F x0 v249 x2).bind fun r250=>
  let v251:Int:=(y0 .i64 r250.1)
  cond ((decide (((ya x3)+1)≤1099511627776))&&(if(false=true)then(decide (0<1))else true))
   (rec x0 x1 x2 (x3++[v251]) x4 (y0 .i64 (x5+1)))
    none)
  (some (x3,()))
def qd8(F:Nat):Nat→LI→Int→Int→LI→Int→Int→Option (LI×Unit)
 |0,_,_,_,_,_,_=>none
 |k+1,x0,x1,x2,x3,x4,x5=>qrz F (qd8 F k) x0 x1 x2 x3 x4 x5
def ql9(F:Nat)(a0:LI)(a1:Int)(a2:Int)(a3:Int):Option (LI×Int×Unit):=
 cond (decide (a1<0))
  (some ([],1,()))
  (cond (decide (a2<0))
   (some ([],1,()))
   (cond (decide (16<a2))
    (some ([],1,()))
    (cond (decide (a3<0))
     (some ([],1,()))
     (cond (decide (64<a3))
      (some ([],1,()))
      ((qpf F a0 a1 (y0 .i64 (a2*a3))).bind fun r225=>
      cond (!r225.1)
       (some ([],2,()))
       ((qd8 F F a0 a1 a2 [] a3 0).bind fun r256=>
       some (r256.1,0,())))))))
def z0k(F:Nat)(a0:LI)(a1:Int)(a2:Int):Option (Bool×Unit):=
 let v296:Int:=(y0 .i64 (8*(((ya a0):Nat):Int)))
 cond (decide (a1≤v296))
  (let v298:Int:=(y0 .i64 (v296-a1))
  some ((decide (a2≤v298)),()))
  (some (false,()))
def qs0(F:Nat)(rec:Int→Int→Int→Option (Int×Unit))(x0:Int)(x1:Int)(x2:Int):Option (Int×Unit):=
 cond (decide (x2<x0))
  (rec x0 (y0 .i64 (yx x1 2)) (y0 .i64 (x2+1)))
  (some (x1,()))
def qab(F:Nat):Nat→Int→Int→Int→Option (Int×Unit)
 |0,_,_,_=>none
 |k+1,x0,x1,x2=>qs0 F (qab F k) x0 x1 x2
def qdv(F:Nat)(a0:LI)(a1:Int)(a2:Bool):Option (Int×Unit):=
 let v301:Int:=(yw a1 8)
 cond a2
  (let v303:Int:=(y0 .i64 (yx a1 8))
  cond ((decide (0≤v303))&&(decide (v303<(((ya a0):Nat):Int))))
   ((qab F F (y0 .i64 (7-v301)) (y7 a0 (y6 v303) 0) 0).bind fun r315=>
   some ((yw r315.1 2),()))
    none)
  (let v317:Int:=(y0 .i64 (yx a1 8))
  cond ((decide (0≤v317))&&(decide (v317<(((ya a0):Nat):Int))))
   ((qab F F v301 (y7 a0 (y6 v317) 0) 0).bind fun r324=>
   some ((yw r324.1 2),()))
    none)
def qs1(F:Nat)(rec:LI→Int→Int→Bool→Int→Int→Option (Int×Unit))(x0:LI)(x1:Int)(x2:Int)(x3:Bool)(x4:Int)(x5:Int):Option (Int×Unit):=
 cond (decide (x5<x2))
  (cond x3
   ((qdv F x0 (y0 .i64 (x1+x5)) x3).bind fun r367=>
   rec x0 x1 x2 x3 (y0 .u64 ((y0 .u64 (2*x4))+(y0 .u64 r367.1))) (y0 .i64 (x5+1)))
   ((qdv F x0 (y0 .i64 ((y0 .i64 ((y0 .i64 (x1+x2))-1))-x5)) x3).bind fun r372=>
   rec x0 x1 x2 x3 (y0 .u64 ((y0 .u64 (2*x4))+(y0 .u64 r372.1))) (y0 .i64 (x5+1))))
  (some (x4,()))
def qac(F:Nat):Nat→LI→Int→Int→Bool→Int→Int→Option (Int×Unit)
 |0,_,_,_,_,_,_=>none
 |k+1,x0,x1,x2,x3,x4,x5=>qs1 F (qac F k) x0 x1 x2 x3 x4 x5
def qpg(F:Nat)(a0:LI)(a1:Int)(a2:Int)(a3:Bool):Option (Int×Int×Unit):=
 cond (decide (a1<0))
  (some (0,1,()))
  (cond (decide (a2<0))
   (some (0,1,()))
   (cond (decide (64<a2))
    (some (0,1,()))
    ((z0k F a0 a1 a2).bind fun r330=>
    cond (!r330.1)
     (some (0,2,()))
     ((qac F F a0 a1 a2 a3 0 0).bind fun r376=>
     some (r376.1,0,())))))
def qla(F:Nat)(rec:Int→Int→Int→Option (Int×Unit))(x0:Int)(x1:Int)(x2:Int):Option (Int×Unit):=
 cond (decide (x2<x0))
  (rec x0 (y0 .u64 (2*x1)) (y0 .i64 (x2+1)))
  (some (x1,()))
def q94(F:Nat):Nat→Int→Int→Int→Option (Int×Unit)
 |0,_,_,_=>none
 |k+1,x0,x1,x2=>qla F (q94 F k) x0 x1 x2
def qad(F:Nat)(a0:Int):Option (Int×Unit):=
 (q94 F F a0 1 0).bind fun r384=>
 some (r384.1,())
def qs2(F:Nat)(rec:Int→Int→Bool→Int→LI→Int→Option (LI×Unit))(x0:Int)(x1:Int)(x2:Bool)(x3:Int)(x4:LI)(x5:Int):Option (LI×Unit):=
 cond (decide (x5<x1))
  (let v540:Int:=(y0 .i64 (x0+x5))
  cond x2
   (let v543:Int:=(y0 .i64 ((y0 .i64 ((y0 .i64 (x0+x1))-1))-x5))
   let v544:Int:=(yw v543 8)
   cond x2
    ((qdv F x4 v543 x2).bind fun r549=>
    let v550:Int:=(y0 .i64 (yx v543 8))
    let b551:Bool:=((decide (0≤v550))&&(decide (v550<(((ya x4):Nat):Int))))
    cond b551
     ((qad F (y0 .i64 (7-v544))).bind fun r555=>
     cond b551
      (rec x0 x1 x2 (y0 .u64 (yx x3 2)) (yy x4 (y6 v550) (y0 .u8 (y0 .i64 ((y7 x4 (y6 v550) 0)+(y0 .i64 ((y0 .i64 ((y0 .i64 (yw x3 2))-r549.1))*(y0 .i64 r555.1))))))) (y0 .i64 (x5+1)))
       none)
      none)
    ((qdv F x4 v543 x2).bind fun r565=>
    let v566:Int:=(y0 .i64 (yx v543 8))
    let b567:Bool:=((decide (0≤v566))&&(decide (v566<(((ya x4):Nat):Int))))
    cond b567
     ((qad F v544).bind fun r571=>
     cond b567
      (rec x0 x1 x2 (y0 .u64 (yx x3 2)) (yy x4 (y6 v566) (y0 .u8 (y0 .i64 ((y7 x4 (y6 v566) 0)+(y0 .i64 ((y0 .i64 ((y0 .i64 (yw x3 2))-r565.1))*(y0 .i64 r571.1))))))) (y0 .i64 (x5+1)))
       none)
      none))
   (let v578:Int:=(yw v540 8)
   cond x2
    ((qdv F x4 v540 x2).bind fun r583=>
    let v584:Int:=(y0 .i64 (yx v540 8))
    let b585:Bool:=((decide (0≤v584))&&(decide (v584<(((ya x4):Nat):Int))))
    cond b585
     ((qad F (y0 .i64 (7-v578))).bind fun r589=>
     cond b585
      (rec x0 x1 x2 (y0 .u64 (yx x3 2)) (yy x4 (y6 v584) (y0 .u8 (y0 .i64 ((y7 x4 (y6 v584) 0)+(y0 .i64 ((y0 .i64 ((y0 .i64 (yw x3 2))-r583.1))*(y0 .i64 r589.1))))))) (y0 .i64 (x5+1)))
       none)
      none)
    ((qdv F x4 v540 x2).bind fun r599=>
    let v600:Int:=(y0 .i64 (yx v540 8))
    let b601:Bool:=((decide (0≤v600))&&(decide (v600<(((ya x4):Nat):Int))))
    cond b601
     ((qad F v578).bind fun r605=>
     cond b601
      (rec x0 x1 x2 (y0 .u64 (yx x3 2)) (yy x4 (y6 v600) (y0 .u8 (y0 .i64 ((y7 x4 (y6 v600) 0)+(y0 .i64 ((y0 .i64 ((y0 .i64 (yw x3 2))-r599.1))*(y0 .i64 r605.1))))))) (y0 .i64 (x5+1)))
       none)
      none)))
  (some (x4,()))
def qae(F:Nat):Nat→Int→Int→Bool→Int→LI→Int→Option (LI×Unit)
 |0,_,_,_,_,_,_=>none
 |k+1,x0,x1,x2,x3,x4,x5=>qs2 F (qae F k) x0 x1 x2 x3 x4 x5
def q2b(F:Nat)(a0:LI)(a1:Int)(a2:Int)(a3:Bool)(a4:Int):Option (LI×Int×Unit):=
 (qpg F a0 a1 a2 a3).bind fun r386=>
 cond (r386.2.1 !=0)
  (some ([],r386.2.1,()))
  (let b388:Bool:=(decide (a2<64))
  cond b388
   ((qad F a2).bind fun r389=>
   let b390:Bool:=(decide (r389.1≤a4))
   cond b390
    (some ([],10,()))
    (cond ((decide ((0+(ya a0))≤1099511627776))&&(if(false=true)then(decide (0<(ya a0)))else true))
     ((qae F F a1 a2 a3 a4 ([]++a0) 0).bind fun r612=>
     some (r612.1,0,()))
      none))
   (cond ((decide ((0+(ya a0))≤1099511627776))&&(if(false=true)then(decide (0<(ya a0)))else true))
    ((qae F F a1 a2 a3 a4 ([]++a0) 0).bind fun r691=>
    some (r691.1,0,()))
     none))
def qog(F:Nat)(rec:LI→LI→Int→Option (Unit⊕Unit))(x0:LI)(x1:LI)(x2:Int):Option (Unit⊕Unit):=
 let v720:Int:=(((ya x0):Nat):Int)
 cond (decide (x2<v720))
  (cond ((decide (0≤x2))&&(decide (x2<(((ya x0):Nat):Int))))
   (cond ((decide (0≤x2))&&(decide (x2<(((ya x1):Nat):Int))))
    (cond ((y7 x0 (y6 x2) 0) !=(y7 x1 (y6 x2) 0))
     (some (.inl ()))
     (rec x0 x1 (y0 .i64 (x2+1))))
     none)
    none)
  (some (.inr ()))
def qaw(F:Nat):Nat→LI→LI→Int→Option (Unit⊕Unit)
 |0,_,_,_=>none
 |k+1,x0,x1,x2=>qog F (qaw F k) x0 x1 x2
def z0l(F:Nat)(a0:LI)(a1:LI):Option (Bool×Unit):=
 cond ((((ya a0):Nat):Int) !=(((ya a1):Nat):Int))
  (some (false,()))
  ((qaw F F a0 a1 0).bind fun r729=>match r729 with
   | .inl r729=>(some (false,()))
   | .inr r729=>(some (true,())))
def q0j:LI:=[0,0,0,0,0,0,0,0]
def q5b(F:Nat)(rec:Int→Int→Int→LI→Int→Option (Unit⊕(Int×Unit)))(x0:Int)(x1:Int)(x2:Int)(x3:LI)(x4:Int):Option (Unit⊕(Int×Unit)):=
 cond (decide (x4<16))
  (cond ((decide (0≤x4))&&(decide (x4<16)))
   (let v198:Int:=(y7 x3 (y6 x4) 0)
   cond (decide (v198<0))
    (some (.inl ()))
    (cond (decide (0≤x2))
     (let v201:Int:=(ishl .i64 1 x2)
     cond (decide (v201≤v198))
      (some (.inl ()))
      (let v205:Int:=(y0 .i64 (x1+(y0 .i64 (x2*x4))))
      cond (decide (0≤v205))
       (rec (ior .u64 x0 (ishl .u64 (y0 .u64 v198) v205)) x1 x2 x3 (y0 .i64 (x4+1)))
        none))
      none))
    none)
  (some (.inr (x0,())))
def q1s(F:Nat):Nat→Int→Int→Int→LI→Int→Option (Unit⊕(Int×Unit))
 |0,_,_,_,_,_=>none
 |k+1,x0,x1,x2,x3,x4=>q5b F (q1s F k) x0 x1 x2 x3 x4
def q4t(F:Nat)(a0:Int)(a1:Int)(a2:Int)(a3:LI):Option (LI×Int×Unit):=
 (q1s F F a0 a1 a2 (if((0=0)∧(16=16))then a3 else(y8 16 (y9 0 a3))) 0).bind fun r210=>match r210 with
  | .inl r210=>(some ([],1,()))
  | .inr r210=>((q89 F q0j 0 64 r210.1).bind fun r211=>
   some (r211.1,r211.2.1,()))
def q5j(F:Nat)(a0:Int)(a1:Int)(a2:LI):Option (LI×Int×Unit):=
 cond (decide (a0<0))
  (some ([],1,()))
  (cond (decide (255<a0))
   (some ([],1,()))
   (cond (decide (a1<0))
    (some ([],1,()))
    (cond (decide (255<a1))
     (some ([],1,()))
     ((q4t F (ior .u64 (y0 .u64 a0) (ishl .u64 (y0 .u64 a1) 8)) 16 3 (if((0=0)∧(16=16))then a2 else(y8 16 (y9 0 a2)))).bind fun r224=>
     some (r224.1,r224.2.1,())))))
def q05:LI:=[0,0,0,0,0,0,0,0,0,0,0,0,0,0,0,0]
def qn5(F:Nat)(a0:LI):Option (Int×Int×LI×Int×Unit):=
 cond ((((ya a0):Nat):Int) !=8)
  (some (0,0,q05,1,()))
  ((ql9 F a0 16 3 16).bind fun r373=>
  let n374:Nat:=(ya r373.1)
  let l376:LI:=(((y8 0 q05)++(y8 (min n374 16) r373.1))++(y9 (0+(min n374 16)) q05))
  cond (decide (0<(((ya a0):Nat):Int)))
   (cond (decide (1<(((ya a0):Nat):Int)))
    (let l381:LI:=(if((0=0)∧(16=16))then l376 else(y8 16 (y9 0 l376)))
    let l382:LI:=(if((0=0)∧(16=16))then l381 else(((y8 0 q05)++l381)++(y9 16 q05)))
    some ((y7 a0 0 0),(y7 a0 1 0),(if((0=0)∧(16=16))then l382 else(y8 16 (y9 0 l382))),0,()))
     none)
    none)
def qph(F:Nat)(a0:Int)(a1:Int)(a2:Int)(a3:Int)(a4:Int):Option (Int×Unit):=
 cond (decide (a3<1))
  (some (0,()))
  (let v396:Int:=(y0 .i64 ((y0 .i64 ((y0 .i64 (a0*(y0 .i64 (a3-a2))))+(y0 .i64 (a1*a2))))+a4))
  let b397:Bool:=(!(a3==0))
  cond b397
   (let v398:Int:=(y0 .i64 (yx v396 a3))
   cond b397
    (cond (decide ((yw v396 a3)<0))
     (some ((y0 .i64 (v398-1)),()))
     (some (v398,())))
     none)
    none)
def qlb(F:Nat)(rec:Int→Int→LI→LI→Int→Int→Int→Option (LI×LI×Unit))(x0:Int)(x1:Int)(x2:LI)(x3:LI)(x4:Int)(x5:Int)(x6:Int):Option (LI×LI×Unit):=
 cond (decide (x6<x5))
  (let v442:Int:=(y0 .i64 (x6+2))
  let v443:Int:=(y0 .i64 (x6+1))
  (qph F x0 x1 v443 x4 0).bind fun r444=>
  cond ((decide (0≤v442))&&(decide (v442<8)))
   (rec x0 x1 x2 (yy x3 (y6 v442) r444.1) x4 x5 v443)
    none)
  (some (x2,x3,()))
def q6s(F:Nat):Nat→Int→Int→LI→LI→Int→Int→Int→Option (LI×LI×Unit)
 |0,_,_,_,_,_,_,_=>none
 |k+1,x0,x1,x2,x3,x4,x5,x6=>qlb F (q6s F k) x0 x1 x2 x3 x4 x5 x6
def qs3(F:Nat)(a0:Int)(a1:Int):Option (LI×Unit):=
 cond (decide (a0≤a1))
  ((q6s F F a0 a1 q0j [a0,a1,0,0,0,0,0,255] 5 4 0).bind fun r448=>
  let l449:LI:=(if((0=0)∧(8=8))then r448.2.1 else(y8 8 (y9 0 r448.2.1)))
  let l450:LI:=(if((0=0)∧(8=8))then l449 else(((y8 0 r448.1)++l449)++(y9 8 r448.1)))
  some ((if((0=0)∧(8=8))then l450 else(y8 8 (y9 0 l450))),()))
  ((q6s F F a0 a1 q0j [a0,a1,0,0,0,0,0,0] 7 6 0).bind fun r459=>
  let l460:LI:=(if((0=0)∧(8=8))then r459.2.1 else(y8 8 (y9 0 r459.2.1)))
  let l461:LI:=(if((0=0)∧(8=8))then l460 else(((y8 0 r459.1)++l460)++(y9 8 r459.1)))
  some ((if((0=0)∧(8=8))then l461 else(y8 8 (y9 0 l461))),()))
def q5c(F:Nat)(rec:LI→LI→LI→LI→Int→Option (LI×LI×Unit))(x0:LI)(x1:LI)(x2:LI)(x3:LI)(x4:Int):Option (LI×LI×Unit):=
 cond (decide (x4<16))
  (let b481:Bool:=((decide (0≤x4))&&(decide (x4<16)))
  cond b481
   (let v482:Int:=(y7 x3 (y6 x4) 0)
   cond ((decide (0≤v482))&&(decide (v482<8)))
    (cond b481
     (rec x0 (yy x1 (y6 x4) (y7 x2 (y6 v482) 0)) x2 x3 (y0 .i64 (x4+1)))
      none)
     none)
    none)
  (some (x0,x1,()))
def q2u(F:Nat):Nat→LI→LI→LI→LI→Int→Option (LI×LI×Unit)
 |0,_,_,_,_,_=>none
 |k+1,x0,x1,x2,x3,x4=>q5c F (q2u F k) x0 x1 x2 x3 x4
def qjp(F:Nat)(a0:LI):Option (LI×Int×Unit):=
 (qn5 F a0).bind fun r384=>
 let l385:LI:=(if((0=0)∧(16=16))then r384.2.2.1 else(((y8 0 q05)++r384.2.2.1)++(y9 16 q05)))
 cond (r384.2.2.2.1 !=0)
  (let l387:LI:=(if((0=0)∧(16=16))then l385 else(y8 16 (y9 0 l385)))
  let l388:LI:=(if((0=0)∧(16=16))then l387 else(((y8 0 q05)++l387)++(y9 16 q05)))
  some ((if((0=0)∧(16=16))then l388 else(y8 16 (y9 0 l388))),r384.2.2.2.1,()))
  ((qs3 F r384.1 r384.2.1).bind fun r463=>
  (q2u F F q05 l385 (if((0=0)∧(8=8))then r463.1 else(((y8 0 q0j)++r463.1)++(y9 8 q0j))) (if((0=0)∧(16=16))then l385 else(y8 16 (y9 0 l385))) 0).bind fun r489=>
  let l490:LI:=(if((0=0)∧(16=16))then r489.2.1 else(y8 16 (y9 0 r489.2.1)))
  let l491:LI:=(if((0=0)∧(16=16))then l490 else(((y8 0 r489.1)++l490)++(y9 16 r489.1)))
  some ((if((0=0)∧(16=16))then l491 else(y8 16 (y9 0 l491))),0,()))
def q4o(F:Nat)(a0:LI):Option (LI×Int×Unit):=
 (q4t F 0 0 4 (if((0=0)∧(16=16))then a0 else(y8 16 (y9 0 a0)))).bind fun r500=>
 some (r500.1,r500.2.1,())
def zxx(F:Nat)(a0:Int):Option (Bool×Unit):=
 cond (decide (a0<1))
  (some (true,()))
  (some ((decide (8<a0)),()))
def z1v(F:Nat)(rec:Int→Int→Int→Int→Option (Int×Int×Unit))(x0:Int)(x1:Int)(x2:Int)(x3:Int):Option (Int×Int×Unit):=
 cond (decide (x3<8))
  (cond (decide (0≤x1))
   (rec x0 x1 (ior .i64 (ishl .i64 x2 x1) x0) (y0 .i64 (x3+x1)))
    none)
  (some (x2,x3,()))
def qjq(F:Nat):Nat→Int→Int→Int→Int→Option (Int×Int×Unit)
 |0,_,_,_,_=>none
 |k+1,x0,x1,x2,x3=>z1v F (qjq F k) x0 x1 x2 x3
def q0n(F:Nat)(a0:Int)(a1:Int):Option (Int×Unit):=
 (zxx F a1).bind fun r514=>
 cond r514.1
  (some (0,()))
  (cond (decide (0≤a1))
   ((qjq F F (iand .i64 a0 (y0 .i64 ((ishl .i64 1 a1)-1))) a1 0 0).bind fun r533=>
   let v534:Int:=(y0 .i64 (r533.2.1-8))
   cond (decide (0≤v534))
    (some ((ishr .i64 r533.1 v534),()))
     none)
    none)
def q62(F:Nat)(rec:LI→LI→LI→Int→Option (LI×LI×Unit))(x0:LI)(x1:LI)(x2:LI)(x3:Int):Option (LI×LI×Unit):=
 cond (decide (x3<16))
  (cond ((decide (0≤x3))&&(decide (x3<(((ya x2):Nat):Int))))
   ((q0n F (y7 x2 (y6 x3) 0) 4).bind fun r553=>
   cond ((decide (0≤x3))&&(decide (x3<16)))
    (rec x0 (yy x1 (y6 x3) r553.1) x2 (y0 .i64 (x3+1)))
     none)
    none)
  (some (x0,x1,()))
def q3v(F:Nat):Nat→LI→LI→LI→Int→Option (LI×LI×Unit)
 |0,_,_,_,_=>none
 |k+1,x0,x1,x2,x3=>q62 F (q3v F k) x0 x1 x2 x3
def qn6(F:Nat)(a0:LI):Option (LI×Int×Unit):=
 cond ((((ya a0):Nat):Int) !=8)
  (some (q05,1,()))
  ((ql9 F a0 0 4 16).bind fun r507=>
  (q3v F F q05 q05 r507.1 0).bind fun r557=>
  let l558:LI:=(if((0=0)∧(16=16))then r557.2.1 else(y8 16 (y9 0 r557.2.1)))
  let l559:LI:=(if((0=0)∧(16=16))then l558 else(((y8 0 r557.1)++l558)++(y9 16 r557.1)))
  some ((if((0=0)∧(16=16))then l559 else(y8 16 (y9 0 l559))),0,()))
def q2m(F:Nat)(a0:LI)(a1:Int)(a2:Int):Option (Int×Unit):=
 (qpg F a0 a1 a2 false).bind fun r687=>
 some ((y0 .i64 r687.1),())
def q7e(F:Nat)(rec:LI→LI→LI→Int→Option (LI×LI×LI×Unit))(x0:LI)(x1:LI)(x2:LI)(x3:Int):Option (LI×LI×LI×Unit):=
 cond (decide (x3<16))
  ((q2m F x0 (y0 .i64 (16+(y0 .i64 (3*x3)))) 3).bind fun r704=>
  cond ((decide (0≤x3))&&(decide (x3<16)))
   (rec x0 x1 (yy x2 (y6 x3) r704.1) (y0 .i64 (x3+1)))
    none)
  (some (x0,x1,x2,()))
def q50(F:Nat):Nat→LI→LI→LI→Int→Option (LI×LI×LI×Unit)
 |0,_,_,_,_=>none
 |k+1,x0,x1,x2,x3=>q7e F (q50 F k) x0 x1 x2 x3
def qs4(F:Nat)(a0:LI):Option (Int×Int×LI×Int×Unit):=
 cond ((((ya a0):Nat):Int) !=8)
  (some (0,0,q05,1,()))
  ((q50 F F a0 q05 q05 0).bind fun r709=>
  let n710:Nat:=(ya r709.1)
  cond (decide (0<((n710:Nat):Int)))
   (cond (decide (1<((n710:Nat):Int)))
    (let l715:LI:=(if((0=0)∧(16=16))then r709.2.2.1 else(y8 16 (y9 0 r709.2.2.1)))
    let l716:LI:=(if((0=0)∧(16=16))then l715 else(((y8 0 r709.2.1)++l715)++(y9 16 r709.2.1)))
    some ((y7 r709.1 0 0),(y7 r709.1 1 0),(if((0=0)∧(16=16))then l716 else(y8 16 (y9 0 l716))),0,()))
     none)
    none)
def qlc(F:Nat)(a0:Int)(a1:Int):Option (Int×Unit):=
 cond (!(a1==0))
  (cond (decide ((yw a0 a1)<0))
   (some ((y0 .i64 ((yw a0 a1)+a1)),()))
   (some ((yw a0 a1),())))
   none
def qhg(F:Nat)(a0:Int)(a1:Int)(a2:Int)(a3:Int)(a4:Int):Option (Int×Unit):=
 cond (decide (a3<1))
  (some (0,()))
  (let v735:Int:=(y0 .i64 ((y0 .i64 ((y0 .i64 (a0*(y0 .i64 (a3-a2))))+(y0 .i64 (a1*a2))))+a4))
  (qlc F v735 a3).bind fun r740=>
  cond (!(a3==0))
   (some ((y0 .i64 (yx (y0 .i64 (v735-r740.1)) a3)),()))
    none)
def qoh(F:Nat)(rec:Int→Int→LI→LI→Int→Option (LI×LI×Unit))(x0:Int)(x1:Int)(x2:LI)(x3:LI)(x4:Int):Option (LI×LI×Unit):=
 cond (decide (x4≤6))
  (let v753:Int:=(y0 .i64 (x4+1))
  (qhg F x0 x1 x4 7 0).bind fun r754=>
  cond ((decide (0≤v753))&&(decide (v753<8)))
   (rec x0 x1 x2 (yy x3 (y6 v753) r754.1) v753)
    none)
  (some (x2,x3,()))
def qax(F:Nat):Nat→Int→Int→LI→LI→Int→Option (LI×LI×Unit)
 |0,_,_,_,_,_=>none
 |k+1,x0,x1,x2,x3,x4=>qoh F (qax F k) x0 x1 x2 x3 x4
def qoi(F:Nat)(rec:Int→Int→LI→LI→Int→Option (LI×LI×Unit))(x0:Int)(x1:Int)(x2:LI)(x3:LI)(x4:Int):Option (LI×LI×Unit):=
 cond (decide (x4≤4))
  (let v771:Int:=(y0 .i64 (x4+1))
  (qhg F x0 x1 x4 5 0).bind fun r772=>
  cond ((decide (0≤v771))&&(decide (v771<8)))
   (rec x0 x1 x2 (yy x3 (y6 v771) r772.1) v771)
    none)
  (some (x2,x3,()))
def qay(F:Nat):Nat→Int→Int→LI→LI→Int→Option (LI×LI×Unit)
 |0,_,_,_,_,_=>none
 |k+1,x0,x1,x2,x3,x4=>qoi F (qay F k) x0 x1 x2 x3 x4
def z0m(F:Nat)(a0:Int)(a1:Int):Option (LI×Unit):=
 cond (decide (a1<a0))
  ((qax F F a0 a1 q0j [a0,a1,0,0,0,0,0,0] 1).bind fun r758=>
  let l759:LI:=(if((0=0)∧(8=8))then r758.2.1 else(y8 8 (y9 0 r758.2.1)))
  let l760:LI:=(if((0=0)∧(8=8))then l759 else(((y8 0 r758.1)++l759)++(y9 8 r758.1)))
  some ((if((0=0)∧(8=8))then l760 else(y8 8 (y9 0 l760))),()))
  ((qay F F a0 a1 q0j [a0,a1,0,0,0,0,0,0] 1).bind fun r776=>
  let l777:LI:=(yy r776.2.1 7 255)
  let l778:LI:=(if((0=0)∧(8=8))then l777 else(y8 8 (y9 0 l777)))
  let l779:LI:=(if((0=0)∧(8=8))then l778 else(((y8 0 r776.1)++l778)++(y9 8 r776.1)))
  some ((if((0=0)∧(8=8))then l779 else(y8 8 (y9 0 l779))),()))
def q63(F:Nat)(rec:LI→LI→LI→Int→Option (LI×LI×Unit))(x0:LI)(x1:LI)(x2:LI)(x3:Int):Option (LI×LI×Unit):=
 cond (decide (x3<16))
  (let b798:Bool:=((decide (0≤x3))&&(decide (x3<16)))
  cond b798
   (let v800:Int:=(y7 x1 (y6 x3) 0)
   cond ((decide (0≤v800))&&(decide (v800<8)))
    (cond b798
     (rec x0 (yy x1 (y6 x3) (y7 x2 (y6 v800) 0)) x2 (y0 .i64 (x3+1)))
      none)
     none)
    none)
  (some (x0,x1,()))
def q3w(F:Nat):Nat→LI→LI→LI→Int→Option (LI×LI×Unit)
 |0,_,_,_,_=>none
 |k+1,x0,x1,x2,x3=>q63 F (q3w F k) x0 x1 x2 x3
def qhh(F:Nat)(a0:LI):Option (LI×Int×Unit):=
 (qs4 F a0).bind fun r723=>
 let l724:LI:=(if((0=0)∧(16=16))then r723.2.2.1 else(((y8 0 q05)++r723.2.2.1)++(y9 16 q05)))
 cond (r723.2.2.2.1 !=0)
  (let l726:LI:=(if((0=0)∧(16=16))then l724 else(y8 16 (y9 0 l724)))
  let l727:LI:=(if((0=0)∧(16=16))then l726 else(((y8 0 q05)++l726)++(y9 16 q05)))
  some ((if((0=0)∧(16=16))then l727 else(y8 16 (y9 0 l727))),r723.2.2.2.1,()))
  ((z0m F r723.1 r723.2.1).bind fun r781=>
  (q3w F F q05 l724 (if((0=0)∧(8=8))then r781.1 else(((y8 0 q0j)++r781.1)++(y9 8 q0j))) 0).bind fun r806=>
  let l807:LI:=(if((0=0)∧(16=16))then r806.2.1 else(y8 16 (y9 0 r806.2.1)))
  let l808:LI:=(if((0=0)∧(16=16))then l807 else(((y8 0 r806.1)++l807)++(y9 16 r806.1)))
  some ((if((0=0)∧(16=16))then l808 else(y8 16 (y9 0 l808))),0,()))
def qwp(F:Nat)(rec:Int→Int→Int→Option (Int×Unit))(x0:Int)(x1:Int)(x2:Int):Option (Int×Unit):=
 cond (decide (x2<x0))
  (rec x0 (y0 .i64 (2*x1)) (y0 .i64 (x2+1)))
  (some (x1,()))
def qgt(F:Nat):Nat→Int→Int→Int→Option (Int×Unit)
 |0,_,_,_=>none
 |k+1,x0,x1,x2=>qwp F (qgt F k) x0 x1 x2
def qfp(F:Nat)(a0:Int):Option (Int×Unit):=
 (qgt F F a0 1 0).bind fun r828=>
 some (r828.1,())
def z1w(F:Nat)(rec:Int→Int→Int→Int→Option (Int×Unit))(x0:Int)(x1:Int)(x2:Int)(x3:Int):Option (Int×Unit):=
 cond (decide (x3<8))
  (cond (!(x1==0))
   ((qfp F (y0 .i64 ((y0 .i64 (x1-1))-(yw x3 x1)))).bind fun r858=>
   cond (!(r858.1==0))
    (rec x0 x1 (y0 .i64 ((y0 .i64 (2*x2))+(yw (y0 .i64 (yx x0 r858.1)) 2))) (y0 .i64 (x3+1)))
     none)
    none)
  (some (x2,()))
def qjr(F:Nat):Nat→Int→Int→Int→Int→Option (Int×Unit)
 |0,_,_,_,_=>none
 |k+1,x0,x1,x2,x3=>z1w F (qjr F k) x0 x1 x2 x3
def q0e(F:Nat)(a0:Int)(a1:Int):Option (Int×Unit):=
 cond (decide (a1<1))
  (some (0,()))
  (cond (decide (8<a1))
   (some (0,()))
   ((qfp F a1).bind fun r829=>
   (qlc F a0 r829.1).bind fun r830=>
   (qjr F F r830.1 a1 0 0).bind fun r864=>
   some (r864.1,())))
def q7f(F:Nat)(rec:LI→LI→LI→Int→Option (LI×LI×Unit))(x0:LI)(x1:LI)(x2:LI)(x3:Int):Option (LI×LI×Unit):=
 cond (decide (x3<16))
  ((q2m F x0 (y0 .i64 (4*x3)) 4).bind fun r879=>
  (q0e F r879.1 4).bind fun r880=>
  cond ((decide (0≤x3))&&(decide (x3<16)))
   (rec x0 x1 (yy x2 (y6 x3) r880.1) (y0 .i64 (x3+1)))
    none)
  (some (x1,x2,()))
def q51(F:Nat):Nat→LI→LI→LI→Int→Option (LI×LI×Unit)
 |0,_,_,_,_=>none
 |k+1,x0,x1,x2,x3=>q7f F (q51 F k) x0 x1 x2 x3
def qld(F:Nat)(a0:LI):Option (LI×Int×Unit):=
 cond ((((ya a0):Nat):Int) !=8)
  (some (q05,1,()))
  ((q51 F F a0 q05 q05 0).bind fun r885=>
  let l886:LI:=(if((0=0)∧(16=16))then r885.2.1 else(y8 16 (y9 0 r885.2.1)))
  let l887:LI:=(if((0=0)∧(16=16))then l886 else(((y8 0 r885.1)++l886)++(y9 16 r885.1)))
  some ((if((0=0)∧(16=16))then l887 else(y8 16 (y9 0 l887))),0,()))
def q95(F:Nat)(rec:LI→LI→Int→Option (Unit⊕(LI×Unit)))(x0:LI)(x1:LI)(x2:Int):Option (Unit⊕(LI×Unit)):=
 cond (decide (x2<16))
  (let b1624:Bool:=((decide (0≤x2))&&(decide (x2<16)))
  cond b1624
   (let v1626:Int:=(y7 x0 (y6 x2) 0)
   cond (decide (v1626<0))
    (some (.inl ()))
    (cond b1624
     (cond (decide (7<v1626))
      (some (.inl ()))
      (cond b1624
       ((q2b F x1 (y0 .i64 (16+(y0 .i64 (3*x2)))) 3 false (y0 .u64 v1626)).bind fun r1632=>
       rec x0 r1632.1 (y0 .i64 (x2+1)))
        none))
      none))
    none)
  (some (.inr (x1,())))
def q3h(F:Nat):Nat→LI→LI→Int→Option (Unit⊕(LI×Unit))
 |0,_,_,_=>none
 |k+1,x0,x1,x2=>q95 F (q3h F k) x0 x1 x2
def q96(F:Nat)(a0:Int)(a1:Int)(a2:LI):Option (LI×Int×Unit):=
 cond (decide (a0<0))
  (some ([],1,()))
  (cond (decide (a1<0))
   (some ([],1,()))
   (cond (decide (255<a0))
    (some ([],1,()))
    (cond (decide (255<a1))
     (some ([],1,()))
     ((q3h F F a2 [(y0 .u8 a0),(y0 .u8 a1),0,0,0,0,0,0] 0).bind fun r1635=>match r1635 with
      | .inl r1635=>(some ([],1,()))
      | .inr r1635=>(some (r1635.1,0,()))))))
def q3b(F:Nat)(rec:LI→LI→Int→Option (Unit⊕(LI×Unit)))(x0:LI)(x1:LI)(x2:Int):Option (Unit⊕(LI×Unit)):=
 cond (decide (x2<16))
  (let b1695:Bool:=((decide (0≤x2))&&(decide (x2<16)))
  cond b1695
   (let v1697:Int:=(y7 x0 (y6 x2) 0)
   cond (decide (v1697<0))
    (some (.inl ()))
    (cond b1695
     (cond (decide (15<v1697))
      (some (.inl ()))
      (cond b1695
       ((q2b F x1 (y0 .i64 (4*x2)) 4 false (y0 .u64 v1697)).bind fun r1702=>
       rec x0 r1702.1 (y0 .i64 (x2+1)))
        none))
      none))
    none)
  (some (.inr (x1,())))
def q17(F:Nat):Nat→LI→LI→Int→Option (Unit⊕(LI×Unit))
 |0,_,_,_=>none
 |k+1,x0,x1,x2=>q3b F (q17 F k) x0 x1 x2
def q7g(F:Nat)(a0:LI):Option (LI×Int×Unit):=
 (q17 F F a0 q0j 0).bind fun r1705=>match r1705 with
  | .inl r1705=>(some ([],1,()))
  | .inr r1705=>(some (r1705.1,0,()))
def qaf(F:Nat)(a0:Int):Option (Int×Unit):=
 some ((y0 .i64 (a0*a0)),())
def q6t(F:Nat)(a0:Int)(a1:Int):Option (Int×Unit):=
 some ((max 0 (min a0 a1)),())
def z0n(F:Nat)(a0:Int)(a1:Int):Option (Bool×Unit):=
 cond (decide (0≤a0))
  (some ((decide (a0<a1)),()))
  (some (false,()))
def qwq:LI:=[2858963024,1784303680,1515864576,1414570152,2779054080,2694860880,1431675040,1515868240,2857697280,2857719040,2863289600,2425393296,2492765332,2762253476,2846200912,705315408,2777960512,172118100,2779096320,1436590240,2829603924,1785348160,2762231808,437912832,5285028,2862977168,342452500,1768494080,2693105056,2860651540,1352967248,1784283648,2846195712,1351655592,2829094992,606348324,11162880,613566756,608801316,1352993360,1342874960,2863285316,1717960704,2778768800,1352683680,1764256040,1152035396,1717986816,2856600644,1420317864,2508232064,2526451200,2824098984,2157286784,2853442580,2526412800,2863272980,2689618080,2695210400,2516582400,1082146944,2846402984,2863311428,709513812]
def z65(F:Nat):Option (LI×Unit):=
 some (qwq,())
def z66:LI:=[52428,34952,61166,60616,51328,65260,65224,60544,51200,65516,65152,59392,65512,65280,65520,61440,63248,142,28928,2254,140,29456,12544,36046,2188,12560,26214,13932,6120,4080,29070,14748,43690,61680,23130,13260,15420,21930,38550,42330,29646,5064,12876,15324,27030,49980,39270,1632,626,1252,20032,10016,51510,37740,14790,25500,37686,40134,33150,59160,52464,4044,30532,60962]
def zhl(F:Nat):Option (LI×Unit):=
 some (z66,())
def qn7(F:Nat)(a0:Int)(a1:Int)(a2:Int):Option (Int×Unit):=
 (z0n F a1 64).bind fun r2=>
 cond (!r2.1)
  (some (0,()))
  ((z0n F a2 16).bind fun r4=>
  cond (!r4.1)
   (some (0,()))
   (cond (a0==3)
    ((z65 F).bind fun r7=>
    cond ((decide (0≤a1))&&(decide (a1<64)))
     (let v10:Int:=(y0 .i64 (2*a2))
     cond (decide (0≤v10))
      (some ((iand .u32 (ishr .u32 (y7 r7.1 (y6 a1) 0) v10) 3),()))
       none)
      none)
    (cond (a0==2)
     ((zhl F).bind fun r15=>
     cond ((decide (0≤a1))&&(decide (a1<64)))
      (cond (decide (0≤a2))
       (some ((iand .u16 (ishr .u16 (y7 r15.1 (y6 a1) 0) a2) 1),()))
        none)
       none)
     (some (0,())))))
def zhm(F:Nat):Option (LI×Unit):=
 some (z66,())
def z4h(F:Nat):Option (LI×Unit):=
 some (qwq,())
def z1x(F:Nat)(rec:Int→Int→Int→Int→Option (Int×Int×Unit))(x0:Int)(x1:Int)(x2:Int)(x3:Int):Option (Int×Int×Unit):=
 cond (decide (x3<x0))
  (cond (!(x2==0))
   (rec x0 (y0 .i64 (yx x1 x2)) x2 (y0 .i64 (x3+1)))
    none)
  (some (x1,x2,()))
def q8a(F:Nat):Nat→Int→Int→Int→Int→Option (Int×Int×Unit)
 |0,_,_,_,_=>none
 |k+1,x0,x1,x2,x3=>z1x F (q8a F k) x0 x1 x2 x3
def qpi(F:Nat)(a0:Int)(a1:Int)(a2:Int):Option (Int×Unit):=
 cond (decide (a1<0))
  (some (0,()))
  (cond (decide (63<a1))
   (some (0,()))
   (cond (decide (a2<0))
    (some (0,()))
    (cond (decide (15<a2))
     (some (0,()))
     (cond (a0 !=2)
      (cond (a0 !=3)
       (some (0,()))
       ((zhm F).bind fun r27=>
       let n28:Nat:=(ya r27.1)
       cond ((decide (0≤a1))&&(decide (a1<((n28:Nat):Int))))
        (cond (a0==3)
         ((z4h F).bind fun r33=>
         let n34:Nat:=(ya r33.1)
         cond ((decide (0≤a1))&&(decide (a1<((n34:Nat):Int))))
          ((q8a F F a2 (y7 r33.1 (y6 a1) 0) 4 0).bind fun r45=>
          cond (!(r45.2.1==0))
           (some ((yw r45.1 r45.2.1),()))
            none)
           none)
         ((q8a F F a2 (y7 r27.1 (y6 a1) 0) 2 0).bind fun r52=>
         cond (!(r52.2.1==0))
          (some ((yw r52.1 r52.2.1),()))
           none))
         none))
      ((zhm F).bind fun r55=>
      let n56:Nat:=(ya r55.1)
      cond ((decide (0≤a1))&&(decide (a1<((n56:Nat):Int))))
       (cond (a0==3)
        ((z4h F).bind fun r61=>
        let n62:Nat:=(ya r61.1)
        cond ((decide (0≤a1))&&(decide (a1<((n62:Nat):Int))))
         ((q8a F F a2 (y7 r61.1 (y6 a1) 0) 4 0).bind fun r69=>
         cond (!(r69.2.1==0))
          (some ((yw r69.1 r69.2.1),()))
           none)
          none)
        ((q8a F F a2 (y7 r55.1 (y6 a1) 0) 2 0).bind fun r76=>
        cond (!(r76.2.1==0))
         (some ((yw r76.1 r76.2.1),()))
          none))
        none)))))
def qpj:LI:=[15,15,15,15,15,15,15,15,15,15,15,15,15,15,15,15,15,2,8,2,2,8,8,15,2,8,2,2,8,8,2,2,15,15,6,8,2,8,15,15,2,8,2,2,2,15,15,6,6,2,6,8,15,15,2,2,15,15,15,15,15,2,2,15]
def qpk:LI:=[3,3,15,15,8,3,15,15,8,8,6,6,6,5,3,3,3,3,8,15,3,3,6,10,5,8,8,6,8,5,15,15,8,15,3,5,6,10,8,15,15,3,15,5,15,15,15,15,3,15,5,5,5,8,5,10,5,10,8,13,15,12,3,3]
def qpl:LI:=[15,8,8,3,15,15,3,8,15,15,15,15,15,15,15,8,15,8,15,3,15,8,15,8,3,15,6,10,15,15,10,8,15,3,15,10,10,8,9,10,6,15,8,15,3,6,6,8,15,3,15,15,15,15,15,15,15,15,15,15,3,15,15,8]
def qwr(F:Nat)(a0:(Int×Int×Unit)):Option (LI×Unit):=
 cond ((a0.1==2)&&(a0.2.1==1))
  (some (qpj,()))
  (cond ((a0.1==3)&&(a0.2.1==1))
   (some (qpk,()))
   (cond ((a0.1==3)&&(a0.2.1==2))
    (some (qpl,()))
    (some ([],()))))
def qgu(F:Nat)(a0:Int)(a1:Int)(a2:Int):Option (Int×Unit):=
 (qwr F (a0,a2,())).bind fun r82=>
 let n83:Nat:=(ya r82.1)
 (z0n F a1 ((n83:Nat):Int)).bind fun r85=>
 cond (!r85.1)
  (some (0,()))
  (cond ((decide (0≤a1))&&(decide (a1<((n83:Nat):Int))))
   (some ((y7 r82.1 (y6 a1) 0),()))
    none)
def qaz(F:Nat)(a0:Int):Option (LI×Unit):=
 cond (a0==0)
  (some (qpj,()))
  (cond (a0==1)
   (some (qpk,()))
   (some (qpl,())))
def qhi(F:Nat)(a0:Int)(a1:Int)(a2:Int):Option (Int×Unit):=
 cond (decide (a1<0))
  (some (0,()))
  (cond (decide (63<a1))
   (some (0,()))
   (cond (a0==2)
    (let b95:Bool:=(a2==1)
    cond b95
     ((qaz F 0).bind fun r96=>
     let n97:Nat:=(ya r96.1)
     cond ((decide (0≤a1))&&(decide (a1<((n97:Nat):Int))))
      (some ((y7 r96.1 (y6 a1) 0),()))
       none)
     (cond (a0==3)
      (cond b95
       ((qaz F a2).bind fun r102=>
       let n103:Nat:=(ya r102.1)
       cond ((decide (0≤a1))&&(decide (a1<((n103:Nat):Int))))
        (some ((y7 r102.1 (y6 a1) 0),()))
         none)
       (cond (a2==2)
        ((qaz F a2).bind fun r108=>
        let n109:Nat:=(ya r108.1)
        cond ((decide (0≤a1))&&(decide (a1<((n109:Nat):Int))))
         (some ((y7 r108.1 (y6 a1) 0),()))
          none)
        (some (0,()))))
      (some (0,()))))
    (cond (a0==3)
     (cond (a2==1)
      ((qaz F a2).bind fun r115=>
      let n116:Nat:=(ya r115.1)
      cond ((decide (0≤a1))&&(decide (a1<((n116:Nat):Int))))
       (some ((y7 r115.1 (y6 a1) 0),()))
        none)
      (cond (a2==2)
       ((qaz F a2).bind fun r121=>
       let n122:Nat:=(ya r121.1)
       cond ((decide (0≤a1))&&(decide (a1<((n122:Nat):Int))))
        (some ((y7 r121.1 (y6 a1) 0),()))
         none)
       (some (0,()))))
     (some (0,())))))
def qfq:LI:=[0,9,18,27,37,46,55,64]
def qfr:LI:=[0,4,9,13,17,21,26,30,34,38,43,47,51,55,60,64]
def qdw(F:Nat)(a0:Int):Option (LI×Unit):=
 cond (a0==2)
  (some ([0,21,43,64],()))
  (cond (a0==3)
   (some (qfq,()))
   (cond (a0==4)
    (some (qfr,()))
    (some ([],()))))
def qjs(F:Nat)(a0:Int):Option (LI×Unit):=
 cond (a0==2)
  (some ([0,21,43,64],()))
  (cond (a0==3)
   (some (qfq,()))
   (cond (a0==4)
    (some (qfr,()))
    (some ([],()))))
def qjt:LI:=[0,0,0,0,0,0,0,0]
def q97(F:Nat)(rec:Int→LI→Int→Option (Unit⊕(Int×Unit)))(x0:Int)(x1:LI)(x2:Int):Option (Unit⊕(Int×Unit)):=
 cond (decide (x2<16))
  (cond ((decide (0≤x2))&&(decide (x2<16)))
   (let v187:Int:=(y7 x1 (y6 x2) 0)
   cond (decide (v187<0))
    (some (.inl ()))
    (cond (decide (3<v187))
     (some (.inl ()))
     (let v192:Int:=(y0 .i64 (32+(y0 .i64 (2*x2))))
     cond (decide (0≤v192))
      (rec (ior .u64 x0 (ishl .u64 (y0 .u64 v187) v192)) x1 (y0 .i64 (x2+1)))
       none)))
    none)
  (some (.inr (x0,())))
def q2d(F:Nat):Nat→Int→LI→Int→Option (Unit⊕(Int×Unit))
 |0,_,_,_=>none
 |k+1,x0,x1,x2=>q97 F (q2d F k) x0 x1 x2
def q7h(F:Nat)(a0:Int)(a1:Int)(a2:LI):Option (LI×Int×Unit):=
 cond (decide (a0<0))
  (some ([],1,()))
  (cond (decide (65535<a0))
   (some ([],1,()))
   (cond (decide (a1<0))
    (some ([],1,()))
    (cond (decide (65535<a1))
     (some ([],1,()))
     ((q2d F F (ior .u64 (y0 .u64 a0) (ishl .u64 (y0 .u64 a1) 16)) (if((0=0)∧(16=16))then a2 else(y8 16 (y9 0 a2))) 0).bind fun r197=>match r197 with
      | .inl r197=>(some ([],1,()))
      | .inr r197=>((q89 F qjt 0 64 r197.1).bind fun r198=>
       some (r198.1,r198.2.1,()))))))
def q2v:LI:=[0,0,0,0,0,0,0,0,0,0,0,0,0,0,0,0,0,0,0,0,0,0,0,0,0,0,0,0,0,0,0,0,0,0,0,0,0,0,0,0,0,0,0,0,0,0,0,0,0,0,0,0,0,0,0,0,0,0,0,0,0,0,0,0]
def q06:LI:=[0,0,0,0,0,0,0,0,0,0,0,0,0,0,0,0]
def qs5(F:Nat)(a0:LI):Option (Int×Int×LI×Int×Unit):=
 cond ((((ya a0):Nat):Int) !=8)
  (some (0,0,q06,1,()))
  ((ql9 F a0 0 16 2).bind fun r348=>
  let n349:Nat:=(ya r348.1)
  (ql9 F a0 32 2 16).bind fun r350=>
  let n351:Nat:=(ya r350.1)
  let l353:LI:=(((y8 0 q06)++(y8 (min n351 16) r350.1))++(y9 (0+(min n351 16)) q06))
  cond (decide (0<((n349:Nat):Int)))
   (cond (decide (1<((n349:Nat):Int)))
    (let l358:LI:=(if((0=0)∧(16=16))then l353 else(y8 16 (y9 0 l353)))
    let l359:LI:=(if((0=0)∧(16=16))then l358 else(((y8 0 q06)++l358)++(y9 16 q06)))
    some ((y7 r348.1 0 0),(y7 r348.1 1 0),(if((0=0)∧(16=16))then l359 else(y8 16 (y9 0 l359))),0,()))
     none)
    none)
def qhj(F:Nat)(a0:Int):Option (LI×Unit):=
 (q0n F (ishr .i64 a0 11) 5).bind fun r390=>
 (q0n F (ishr .i64 a0 5) 6).bind fun r392=>
 (q0n F a0 5).bind fun r393=>
 some ([r390.1,r392.1,r393.1,255],())
def qb0(F:Nat)(rec:Int→Int→LI→LI→LI→LI→Int→Option (LI×LI×Unit))(x0:Int)(x1:Int)(x2:LI)(x3:LI)(x4:LI)(x5:LI)(x6:Int):Option (LI×LI×Unit):=
 cond (decide (x6<3))
  (let b424:Bool:=((decide (0≤x6))&&(decide (x6<4)))
  cond b424
   (cond b424
    ((qph F (y7 x2 (y6 x6) 0) (y7 x3 (y6 x6) 0) x0 x1 0).bind fun r428=>
    cond b424
     (rec x0 x1 x2 x3 x4 (yy x5 (y6 x6) r428.1) (y0 .i64 (x6+1)))
      none)
     none)
    none)
  (some (x4,x5,()))
def q2w(F:Nat):Nat→Int→Int→LI→LI→LI→LI→Int→Option (LI×LI×Unit)
 |0,_,_,_,_,_,_,_=>none
 |k+1,x0,x1,x2,x3,x4,x5,x6=>qb0 F (q2w F k) x0 x1 x2 x3 x4 x5 x6
def q6c(F:Nat)(a0:LI)(a1:LI)(a2:Int)(a3:Int):Option (LI×Unit):=
 (q2w F F a2 a3 a0 a1 [0,0,0,0] [0,0,0,255] 0).bind fun r431=>
 let l432:LI:=(if((0=0)∧(4=4))then r431.2.1 else(y8 4 (y9 0 r431.2.1)))
 let l433:LI:=(if((0=0)∧(4=4))then l432 else(((y8 0 r431.1)++l432)++(y9 4 r431.1)))
 some ((if((0=0)∧(4=4))then l433 else(y8 4 (y9 0 l433))),())
def qju(F:Nat)(a0:Int)(a1:Int)(a2:Bool):Option (LI×Unit):=
 (qhj F a0).bind fun r394=>
 (qhj F a1).bind fun r395=>
 let l396:LI:=(if((0=0)∧(4=4))then r394.1 else(((y8 0 [0,0,0,0])++r394.1)++(y9 4 [0,0,0,0])))
 let l397:LI:=(if((0=0)∧(4=4))then r395.1 else(((y8 0 [0,0,0,0])++r395.1)++(y9 4 [0,0,0,0])))
 cond a2
  (let l398:LI:=(if((0=0)∧(4=4))then l396 else(y8 4 (y9 0 l396)))
  let l399:LI:=(if((0=0)∧(4=4))then l397 else(y8 4 (y9 0 l397)))
  (q6c F l398 l399 1 3).bind fun r435=>
  (q6c F l398 l399 2 3).bind fun r436=>
  let l437:LI:=(l398++(l399++(r435.1++r436.1)))
  let l438:LI:=(if((0=0)∧(16=16))then l437 else(((y8 0 q06)++l437)++(y9 16 q06)))
  some ((if((0=0)∧(16=16))then l438 else(y8 16 (y9 0 l438))),()))
  (cond (decide (a1<a0))
   (let l441:LI:=(if((0=0)∧(4=4))then l396 else(y8 4 (y9 0 l396)))
   let l442:LI:=(if((0=0)∧(4=4))then l397 else(y8 4 (y9 0 l397)))
   (q6c F l441 l442 1 3).bind fun r443=>
   (q6c F l441 l442 2 3).bind fun r444=>
   let l445:LI:=(l441++(l442++(r443.1++r444.1)))
   let l446:LI:=(if((0=0)∧(16=16))then l445 else(((y8 0 q06)++l445)++(y9 16 q06)))
   some ((if((0=0)∧(16=16))then l446 else(y8 16 (y9 0 l446))),()))
   (let l448:LI:=(if((0=0)∧(4=4))then l396 else(y8 4 (y9 0 l396)))
   let l449:LI:=(if((0=0)∧(4=4))then l397 else(y8 4 (y9 0 l397)))
   (q6c F l448 l449 1 2).bind fun r450=>
   let l451:LI:=(l448++(l449++(r450.1++[0,0,0,0])))
   let l452:LI:=(if((0=0)∧(16=16))then l451 else(((y8 0 q06)++l451)++(y9 16 q06)))
   some ((if((0=0)∧(16=16))then l452 else(y8 16 (y9 0 l452))),())))
def q64(F:Nat)(rec:LI→LI→LI→LI→Int→Option (LI×LI×Unit))(x0:LI)(x1:LI)(x2:LI)(x3:LI)(x4:Int):Option (LI×LI×Unit):=
 cond (decide (x4<16))
  (let b472:Bool:=((decide (0≤x4))&&(decide (x4<16)))
  cond b472
   (let v473:Int:=(y7 x3 (y6 x4) 0)
   cond ((decide (0≤v473))&&(decide (v473<4)))
    (cond b472
     (let n477:Nat:=((y6 x4)*4)
     rec x0 (((y8 n477 x1)++(y8 4 (y9 ((y6 v473)*4) x2)))++(y9 (n477+4) x1)) x2 x3 (y0 .i64 (x4+1)))
      none)
     none)
    none)
  (some (x0,x1,()))
def q3x(F:Nat):Nat→LI→LI→LI→LI→Int→Option (LI×LI×Unit)
 |0,_,_,_,_,_=>none
 |k+1,x0,x1,x2,x3,x4=>q64 F (q3x F k) x0 x1 x2 x3 x4
def q7x(F:Nat)(a0:LI)(a1:Bool):Option (LI×Int×Unit):=
 (qs5 F a0).bind fun r361=>
 let l362:LI:=(if((0=0)∧(16=16))then r361.2.2.1 else(((y8 0 q06)++r361.2.2.1)++(y9 16 q06)))
 cond (r361.2.2.2.1 !=0)
  (some (q2v,r361.2.2.2.1,()))
  ((qju F r361.1 r361.2.1 a1).bind fun r454=>
  (q3x F F q2v q2v (if((0=0)∧(16=16))then r454.1 else(((y8 0 q06)++r454.1)++(y9 16 q06))) (if((0=0)∧(16=16))then l362 else(y8 16 (y9 0 l362))) 0).bind fun r480=>
  let l481:LI:=(if((0=0)∧(64=64))then r480.2.1 else(y8 64 (y9 0 r480.2.1)))
  let l482:LI:=(if((0=0)∧(64=64))then l481 else(((y8 0 r480.1)++l481)++(y9 64 r480.1)))
  some ((if((0=0)∧(64=64))then l482 else(y8 64 (y9 0 l482))),0,()))
def qhk(F:Nat)(a0:Int):Option (LI×Unit):=
 let v598:Int:=(yw a0 65536)
 cond (decide (v598<0))
  (let v600:Int:=(y0 .i64 (v598+65536))
  (q0e F (y0 .i64 (yx v600 2048)) 5).bind fun r652=>
  (q0e F (y0 .i64 (yx v600 32)) 6).bind fun r654=>
  (q0e F v600 5).bind fun r655=>
  some ([r652.1,r654.1,r655.1,255],()))
  ((q0e F (y0 .i64 (yx v598 2048)) 5).bind fun r657=>
  (q0e F (y0 .i64 (yx v598 32)) 6).bind fun r659=>
  (q0e F v598 5).bind fun r660=>
  some ([r657.1,r659.1,r660.1,255],()))
def qle(F:Nat)(a0:Int):Option (Int×Unit):=
 some ((y0 .i64 (a0*a0)),())
def qjv(F:Nat)(rec:Int→Int→LI→LI→LI→LI→Int→Option (LI×LI×Unit))(x0:Int)(x1:Int)(x2:LI)(x3:LI)(x4:LI)(x5:LI)(x6:Int):Option (LI×LI×Unit):=
 cond (decide (x6<3))
  (let b747:Bool:=((decide (0≤x6))&&(decide (x6<4)))
  cond b747
   (cond b747
    ((qhg F (y7 x2 (y6 x6) 0) (y7 x3 (y6 x6) 0) x0 x1 0).bind fun r751=>
    cond b747
     (rec x0 x1 x2 x3 x4 (yy x5 (y6 x6) r751.1) (y0 .i64 (x6+1)))
      none)
     none)
    none)
  (some (x4,x5,()))
def q7y(F:Nat):Nat→Int→Int→LI→LI→LI→LI→Int→Option (LI×LI×Unit)
 |0,_,_,_,_,_,_,_=>none
 |k+1,x0,x1,x2,x3,x4,x5,x6=>qjv F (q7y F k) x0 x1 x2 x3 x4 x5 x6
def qhl(F:Nat)(a0:LI)(a1:LI)(a2:Int)(a3:Int):Option (LI×Unit):=
 (q7y F F a2 a3 a0 a1 [0,0,0,0] [0,0,0,255] 0).bind fun r754=>
 let l755:LI:=(if((0=0)∧(4=4))then r754.2.1 else(y8 4 (y9 0 r754.2.1)))
 let l756:LI:=(if((0=0)∧(4=4))then l755 else(((y8 0 r754.1)++l755)++(y9 4 r754.1)))
 some ((if((0=0)∧(4=4))then l756 else(y8 4 (y9 0 l756))),())
def qjw(F:Nat)(a0:Int)(a1:Int)(a2:Bool):Option (LI×Unit):=
 (qhk F a0).bind fun r718=>
 let l719:LI:=(if((0=0)∧(4=4))then r718.1 else(((y8 0 [0,0,0,0])++r718.1)++(y9 4 [0,0,0,0])))
 (qhk F a1).bind fun r720=>
 let l721:LI:=(if((0=0)∧(4=4))then r720.1 else(((y8 0 [0,0,0,0])++r720.1)++(y9 4 [0,0,0,0])))
 cond a2
  (let l722:LI:=(if((0=0)∧(4=4))then l719 else(y8 4 (y9 0 l719)))
  let l723:LI:=(if((0=0)∧(4=4))then l721 else(y8 4 (y9 0 l721)))
  (qhl F l722 l723 1 3).bind fun r758=>
  (qhl F l722 l723 2 3).bind fun r759=>
  let l760:LI:=(l722++(l723++(r758.1++r759.1)))
  let l761:LI:=(if((0=0)∧(16=16))then l760 else(((y8 0 q06)++l760)++(y9 16 q06)))
  some ((if((0=0)∧(16=16))then l761 else(y8 16 (y9 0 l761))),()))
  (cond (decide (a1<a0))
   (let l764:LI:=(if((0=0)∧(4=4))then l719 else(y8 4 (y9 0 l719)))
   let l765:LI:=(if((0=0)∧(4=4))then l721 else(y8 4 (y9 0 l721)))
   (qhl F l764 l765 1 3).bind fun r766=>
   (qhl F l764 l765 2 3).bind fun r767=>
   let l768:LI:=(l764++(l765++(r766.1++r767.1)))
   let l769:LI:=(if((0=0)∧(16=16))then l768 else(((y8 0 q06)++l768)++(y9 16 q06)))
   some ((if((0=0)∧(16=16))then l769 else(y8 16 (y9 0 l769))),()))
   (let l771:LI:=(if((0=0)∧(4=4))then l719 else(y8 4 (y9 0 l719)))
   let l772:LI:=(if((0=0)∧(4=4))then l721 else(y8 4 (y9 0 l721)))
   (qhl F l771 l772 1 2).bind fun r773=>
   let l774:LI:=(l771++(l772++(r773.1++[0,0,0,0])))
   let l775:LI:=(if((0=0)∧(16=16))then l774 else(((y8 0 q06)++l774)++(y9 16 q06)))
   some ((if((0=0)∧(16=16))then l775 else(y8 16 (y9 0 l775))),())))
def q7i(F:Nat)(rec:LI→LI→LI→Int→Option (LI×LI×LI×Unit))(x0:LI)(x1:LI)(x2:LI)(x3:Int):Option (LI×LI×LI×Unit):=
 cond (decide (x3<16))
  ((q2m F x0 (y0 .i64 (32+(y0 .i64 (2*x3)))) 2).bind fun r891=>
  cond ((decide (0≤x3))&&(decide (x3<16)))
   (rec x0 x1 (yy x2 (y6 x3) r891.1) (y0 .i64 (x3+1)))
    none)
  (some (x0,x1,x2,()))
def q52(F:Nat):Nat→LI→LI→LI→Int→Option (LI×LI×LI×Unit)
 |0,_,_,_,_=>none
 |k+1,x0,x1,x2,x3=>q7i F (q52 F k) x0 x1 x2 x3
def qs6(F:Nat)(a0:LI):Option (Int×Int×LI×Int×Unit):=
 cond ((((ya a0):Nat):Int) !=8)
  (some (0,0,q06,1,()))
  ((q52 F F a0 q06 q06 0).bind fun r896=>
  (q2m F r896.1 0 16).bind fun r898=>
  (q2m F r896.1 16 16).bind fun r899=>
  let l900:LI:=(if((0=0)∧(16=16))then r896.2.2.1 else(y8 16 (y9 0 r896.2.2.1)))
  let l901:LI:=(if((0=0)∧(16=16))then l900 else(((y8 0 r896.2.1)++l900)++(y9 16 r896.2.1)))
  some (r898.1,r899.1,(if((0=0)∧(16=16))then l901 else(y8 16 (y9 0 l901))),0,()))
def q65(F:Nat)(rec:LI→LI→LI→LI→Int→Option (LI×LI×Unit))(x0:LI)(x1:LI)(x2:LI)(x3:LI)(x4:Int):Option (LI×LI×Unit):=
 cond (decide (x4<16))
  (let b929:Bool:=((decide (0≤x4))&&(decide (x4<16)))
  cond b929
   (let v931:Int:=(y7 x2 (y6 x4) 0)
   cond ((decide (0≤v931))&&(decide (v931<4)))
    (cond b929
     (let n935:Nat:=((y6 x4)*4)
     rec x0 (((y8 n935 x1)++(y8 4 (y9 ((y6 v931)*4) x3)))++(y9 (n935+4) x1)) x2 x3 (y0 .i64 (x4+1)))
      none)
     none)
    none)
  (some (x0,x1,()))
def q3y(F:Nat):Nat→LI→LI→LI→LI→Int→Option (LI×LI×Unit)
 |0,_,_,_,_,_=>none
 |k+1,x0,x1,x2,x3,x4=>q65 F (q3y F k) x0 x1 x2 x3 x4
def q53(F:Nat)(a0:LI)(a1:Bool):Option (LI×Int×Unit):=
 (qs6 F a0).bind fun r908=>
 cond (r908.2.2.2.1 !=0)
  (some (q2v,r908.2.2.2.1,()))
  ((qjw F r908.1 r908.2.1 a1).bind fun r911=>
  (q3y F F q2v q2v (if((0=0)∧(16=16))then r908.2.2.1 else(((y8 0 q06)++r908.2.2.1)++(y9 16 q06))) (if((0=0)∧(16=16))then r911.1 else(((y8 0 q06)++r911.1)++(y9 16 q06))) 0).bind fun r938=>
  let l939:LI:=(if((0=0)∧(64=64))then r938.2.1 else(y8 64 (y9 0 r938.2.1)))
  let l940:LI:=(if((0=0)∧(64=64))then l939 else(((y8 0 r938.1)++l939)++(y9 64 r938.1)))
  some ((if((0=0)∧(64=64))then l940 else(y8 64 (y9 0 l940))),0,()))
def q98(F:Nat)(rec:LI→LI→Int→Option (Unit⊕(LI×Unit)))(x0:LI)(x1:LI)(x2:Int):Option (Unit⊕(LI×Unit)):=
 cond (decide (x2<16))
  (let b1671:Bool:=((decide (0≤x2))&&(decide (x2<16)))
  cond b1671
   (let v1673:Int:=(y7 x0 (y6 x2) 0)
   cond (decide (v1673<0))
    (some (.inl ()))
    (cond b1671
     (cond (decide (3<v1673))
      (some (.inl ()))
      (cond b1671
       ((q2b F x1 (y0 .i64 (32+(y0 .i64 (2*x2)))) 2 false (y0 .u64 v1673)).bind fun r1679=>
       rec x0 r1679.1 (y0 .i64 (x2+1)))
        none))
      none))
    none)
  (some (.inr (x1,())))
def q3i(F:Nat):Nat→LI→LI→Int→Option (Unit⊕(LI×Unit))
 |0,_,_,_=>none
 |k+1,x0,x1,x2=>q98 F (q3i F k) x0 x1 x2
def q99(F:Nat)(a0:Int)(a1:Int)(a2:LI):Option (LI×Int×Unit):=
 cond (decide (a0<0))
  (some ([],1,()))
  (cond (decide (a1<0))
   (some ([],1,()))
   (cond (decide (65535<a0))
    (some ([],1,()))
    (cond (decide (65535<a1))
     (some ([],1,()))
     ((q2b F qjt 0 16 false (y0 .u64 a0)).bind fun r1644=>
     (q2b F r1644.1 16 16 false (y0 .u64 a1)).bind fun r1647=>
     (q3i F F a2 r1647.1 0).bind fun r1682=>match r1682 with
      | .inl r1682=>(some ([],1,()))
      | .inr r1682=>(some (r1682.1,0,()))))))
def q6d:LI:=[0,0,0,0,0,0,0,0,0,0,0,0,0,0,0,0]
def qb1:LI:=[0,0,0,0,0,0,0,0]
def q0h(F:Nat)(a0:Int)(a1:Int)(a2:Int)(a3:LI)(a4:Bool):Option (LI×Bool×Unit):=
 (q2t F a3 a0 a1 (y0 .u64 a2)).bind fun r157=>
 cond a4
  (let b159:Bool:=(r157.2.1==0)
  cond b159
   (some (r157.1,b159,()))
   (some (a3,b159,())))
  (some (a3,false,()))
def qd9(F:Nat)(a0:Bool):Option (Int×Unit):=
 cond a0
  (some (1,()))
  (some (0,()))
def q1i(F:Nat)(a0:Int):Option (Int×Unit):=
 some ((y0 .i64 ((y0 .i64 (4*(yw a0 4)))+(y0 .i64 (yx a0 4)))),())
def qdx(F:Nat)(rec:Bool→Bool→LI→LI→LI→LI→LI→Bool→Int→Option (Bool×Bool×LI×LI×LI×LI×LI×Bool×Unit))(x0:Bool)(x1:Bool)(x2:LI)(x3:LI)(x4:LI)(x5:LI)(x6:LI)(x7:Bool)(x8:Int):Option (Bool×Bool×LI×LI×LI×LI×LI×Bool×Unit):=
 cond (decide (x8<3))
  (let v470:Int:=(y0 .i64 (8*x8))
  cond (!x0)
   (let b472:Bool:=((decide (0≤x8))&&(decide (x8<3)))
   cond b472
    ((q0h F v470 4 (y7 x2 (y6 x8) 0) x6 x7).bind fun r475=>
    cond b472
     ((q0h F (y0 .i64 (v470+4)) 4 (y7 x3 (y6 x8) 0) r475.1 r475.2.1).bind fun r479=>
     rec x0 x1 x2 x3 x4 x5 r479.1 r479.2.1 (y0 .i64 (x8+1)))
      none)
     none)
   (let b482:Bool:=((decide (0≤x8))&&(decide (x8<3)))
   cond b482
    ((q0h F v470 5 (y7 x2 (y6 x8) 0) x6 x7).bind fun r485=>
    let v487:Int:=(y0 .i64 (v470+5))
    cond b482
     (cond b482
      (let v488:Int:=(y7 x3 (y6 x8) 0)
      cond (decide (v488<0))
       (cond b482
        ((qd9 F (decide ((-4)≤v488))).bind fun r491=>
        (q0h F v487 3 (y0 .i64 (v488-(y0 .i64 ((-8)*r491.1)))) r485.1 r485.2.1).bind fun r494=>
        cond r494.2.1
         (cond b482
          (rec x0 x1 x2 x3 x4 x5 r494.1 (decide (v488<4)) (y0 .i64 (x8+1)))
           none)
         (rec x0 x1 x2 x3 x4 x5 r494.1 false (y0 .i64 (x8+1))))
         none)
       ((qd9 F false).bind fun r499=>
       (q0h F v487 3 (y0 .i64 (v488-(y0 .i64 ((-8)*r499.1)))) r485.1 r485.2.1).bind fun r502=>
       cond r502.2.1
        (cond b482
         (rec x0 x1 x2 x3 x4 x5 r502.1 (decide (v488<4)) (y0 .i64 (x8+1)))
          none)
        (rec x0 x1 x2 x3 x4 x5 r502.1 false (y0 .i64 (x8+1)))))
       none)
      none)
     none))
  (some (x0,x1,x2,x3,x4,x5,x6,x7,()))
def q2l(F:Nat):Nat→Bool→Bool→LI→LI→LI→LI→LI→Bool→Int→Option (Bool×Bool×LI×LI×LI×LI×LI×Bool×Unit)
 |0,_,_,_,_,_,_,_,_,_=>none
 |k+1,x0,x1,x2,x3,x4,x5,x6,x7,x8=>qdx F (q2l F k) x0 x1 x2 x3 x4 x5 x6 x7 x8
def qdy(F:Nat)(rec:LI→Bool→LI→Int→Option (LI×Bool×Unit))(x0:LI)(x1:Bool)(x2:LI)(x3:Int):Option (LI×Bool×Unit):=
 cond (decide (x3<16))
  (cond ((decide (0≤x3))&&(decide (x3<16)))
   (let v603:Int:=(y7 x2 (y6 x3) 0)
   cond x1
    (cond (decide (0≤v603))
     ((q1i F x3).bind fun r606=>
     (q0h F (y0 .i64 (47-r606.1)) 1 (iand .i64 (ishr .i64 v603 1) 1) x0 (decide (v603<4))).bind fun r610=>
     (q1i F x3).bind fun r612=>
     (q0h F (y0 .i64 (63-r612.1)) 1 (iand .i64 v603 1) r610.1 r610.2.1).bind fun r615=>
     rec r615.1 r615.2.1 x2 (y0 .i64 (x3+1)))
     ((q1i F x3).bind fun r618=>
     (q0h F (y0 .i64 (47-r618.1)) 1 (iand .i64 (ishr .i64 v603 1) 1) x0 false).bind fun r622=>
     (q1i F x3).bind fun r624=>
     (q0h F (y0 .i64 (63-r624.1)) 1 (iand .i64 v603 1) r622.1 r622.2.1).bind fun r627=>
     rec r627.1 r627.2.1 x2 (y0 .i64 (x3+1))))
    ((q1i F x3).bind fun r630=>
    (q0h F (y0 .i64 (47-r630.1)) 1 (iand .i64 (ishr .i64 v603 1) 1) x0 false).bind fun r634=>
    (q1i F x3).bind fun r636=>
    (q0h F (y0 .i64 (63-r636.1)) 1 (iand .i64 v603 1) r634.1 r634.2.1).bind fun r639=>
    rec r639.1 r639.2.1 x2 (y0 .i64 (x3+1))))
    none)
  (some (x0,x1,()))
def q3j(F:Nat):Nat→LI→Bool→LI→Int→Option (LI×Bool×Unit)
 |0,_,_,_,_=>none
 |k+1,x0,x1,x2,x3=>qdy F (q3j F k) x0 x1 x2 x3
def qlf(F:Nat)(a0:(Bool×Bool×LI×LI×LI×LI×Unit)):Option (LI×Int×Unit):=
 (q2l F F a0.1 a0.2.1 a0.2.2.1 a0.2.2.2.1 a0.2.2.2.2.1 a0.2.2.2.2.2.1 qb1 true 0).bind fun r507=>
 (q0h F 24 3 (y7 r507.2.2.2.2.1 0 0) r507.2.2.2.2.2.2.1 r507.2.2.2.2.2.2.2.1).bind fun r510=>
 (q0h F 27 3 (y7 r507.2.2.2.2.1 1 0) r510.1 r510.2.1).bind fun r513=>
 (qd9 F r507.1).bind fun r515=>
 (q0h F 30 1 r515.1 r513.1 r513.2.1).bind fun r516=>
 (qd9 F r507.2.1).bind fun r518=>
 (q0h F 31 1 r518.1 r516.1 r516.2.1).bind fun r519=>
 (q3j F F r519.1 r519.2.1 r507.2.2.2.2.2.1 0).bind fun r642=>
 cond (!r642.2.1)
  (some ([],1,()))
  (some (r642.1,0,()))
def q5d:LI:=[0,0,0,0,0,0,0,0,0,0,0,0,0,0,0,0,0,0,0,0,0,0,0,0,0,0,0,0,0,0,0,0,0,0,0,0,0,0,0,0,0,0,0,0,0,0,0,0,0,0,0,0,0,0,0,0,0,0,0,0,0,0,0,0]
def q14(F:Nat)(a0:Int)(a1:Int)(a2:LI):Option (Int×Unit):=
 (qdu F a2 a0 a1).bind fun r711=>
 some ((y0 .i64 r711.1),())
def qc5(F:Nat)(rec:LI→LI→LI→LI→Bool→Bool→LI→LI→LI→LI→LI→Int→Option (LI×LI×LI×LI×Bool×Bool×LI×LI×LI×LI×LI×Unit))(x0:LI)(x1:LI)(x2:LI)(x3:LI)(x4:Bool)(x5:Bool)(x6:LI)(x7:LI)(x8:LI)(x9:LI)(x10:LI)(x11:Int):Option (LI×LI×LI×LI×Bool×Bool×LI×LI×LI×LI×LI×Unit):=
 cond (decide (x11<3))
  (let v758:Int:=(y0 .i64 (8*x11))
  cond (!x4)
   ((q14 F v758 4 x10).bind fun r761=>
   let b762:Bool:=((decide (0≤x11))&&(decide (x11<3)))
   cond b762
    ((q14 F (y0 .i64 (v758+4)) 4 x10).bind fun r764=>
    cond b762
     (rec x0 x1 x2 x3 x4 x5 (yy x6 (y6 x11) r761.1) (yy x7 (y6 x11) r764.1) x8 x9 x10 (y0 .i64 (x11+1)))
      none)
     none)
   ((q14 F v758 5 x10).bind fun r769=>
   let b770:Bool:=((decide (0≤x11))&&(decide (x11<3)))
   cond b770
    ((q14 F (y0 .i64 (v758+5)) 3 x10).bind fun r772=>
    let l773:LI:=(yy x6 (y6 x11) r769.1)
    cond b770
     (let l774:LI:=(yy x7 (y6 x11) r772.1)
     cond b770
      (let v775:Int:=(y7 l774 (y6 x11) 0)
      cond (decide (4≤v775))
       (cond b770
        (cond b770
         (rec x0 x1 x2 x3 x4 x5 l773 (yy l774 (y6 x11) (y0 .i64 (v775+(-8)))) x8 x9 x10 (y0 .i64 (x11+1)))
          none)
         none)
       (rec x0 x1 x2 x3 x4 x5 l773 l774 x8 x9 x10 (y0 .i64 (x11+1))))
       none)
      none)
     none))
  (some (x0,x1,x2,x3,x4,x5,x6,x7,x8,x9,x10,()))
def q2n(F:Nat):Nat→LI→LI→LI→LI→Bool→Bool→LI→LI→LI→LI→LI→Int→Option (LI×LI×LI×LI×Bool×Bool×LI×LI×LI×LI×LI×Unit)
 |0,_,_,_,_,_,_,_,_,_,_,_,_=>none
 |k+1,x0,x1,x2,x3,x4,x5,x6,x7,x8,x9,x10,x11=>qc5 F (q2n F k) x0 x1 x2 x3 x4 x5 x6 x7 x8 x9 x10 x11
def q66(F:Nat)(rec:LI→LI→LI→LI→Bool→Bool→LI→LI→LI→LI→LI→Int→Option (LI×LI×LI×LI×Bool×Bool×LI×LI×LI×LI×Unit))(x0:LI)(x1:LI)(x2:LI)(x3:LI)(x4:Bool)(x5:Bool)(x6:LI)(x7:LI)(x8:LI)(x9:LI)(x10:LI)(x11:Int):Option (LI×LI×LI×LI×Bool×Bool×LI×LI×LI×LI×Unit):=
 cond (decide (x11<16))
  ((q1i F x11).bind fun r811=>
  (q14 F (y0 .i64 (47-r811.1)) 1 x10).bind fun r813=>
  (q1i F x11).bind fun r815=>
  (q14 F (y0 .i64 (63-r815.1)) 1 x10).bind fun r817=>
  cond ((decide (0≤x11))&&(decide (x11<16)))
   (rec x0 x1 x2 x3 x4 x5 x6 x7 x8 (yy x9 (y6 x11) (y0 .i64 ((y0 .i64 (2*r813.1))+r817.1))) x10 (y0 .i64 (x11+1)))
    none)
  (some (x0,x1,x2,x3,x4,x5,x6,x7,x8,x9,()))
def q3z(F:Nat):Nat→LI→LI→LI→LI→Bool→Bool→LI→LI→LI→LI→LI→Int→Option (LI×LI×LI×LI×Bool×Bool×LI×LI×LI×LI×Unit)
 |0,_,_,_,_,_,_,_,_,_,_,_,_=>none
 |k+1,x0,x1,x2,x3,x4,x5,x6,x7,x8,x9,x10,x11=>q66 F (q3z F k) x0 x1 x2 x3 x4 x5 x6 x7 x8 x9 x10 x11
def q40(F:Nat)(a0:LI):Option ((Bool×Bool×LI×LI×LI×LI×Unit)×Int×Unit):=
 cond ((((ya a0):Nat):Int) !=8)
  (some ((false,false,[0,0,0],[0,0,0],[0,0],q6d,()),1,()))
  ((q14 F 30 1 a0).bind fun r713=>
  (q14 F 31 1 a0).bind fun r715=>
  (q2n F F [0,0,0] [0,0,0] [0,0] q6d (r713.1==1) (r715.1==1) [0,0,0] [0,0,0] [0,0] q6d a0 0).bind fun r781=>
  (q14 F 24 3 r781.2.2.2.2.2.2.2.2.2.2.1).bind fun r783=>
  (q14 F 27 3 r781.2.2.2.2.2.2.2.2.2.2.1).bind fun r784=>
  (q3z F F r781.1 r781.2.1 r781.2.2.1 r781.2.2.2.1 r781.2.2.2.2.1 r781.2.2.2.2.2.1 r781.2.2.2.2.2.2.1 r781.2.2.2.2.2.2.2.1 [r783.1,r784.1] r781.2.2.2.2.2.2.2.2.2.1 r781.2.2.2.2.2.2.2.2.2.2.1 0).bind fun r823=>
  some ((r823.2.2.2.2.1,r823.2.2.2.2.2.1,r823.2.2.2.2.2.2.1,r823.2.2.2.2.2.2.2.1,r823.2.2.2.2.2.2.2.2.1,r823.2.2.2.2.2.2.2.2.2.1,()),0,()))
def qtm:LI:=[0,0,0,255,0,0,0,255]
def qc6(F:Nat)(rec:Bool→Bool→LI→LI→LI→LI→LI→LI→Int→Int→Option (LI×LI×Int×Unit))(x0:Bool)(x1:Bool)(x2:LI)(x3:LI)(x4:LI)(x5:LI)(x6:LI)(x7:LI)(x8:Int)(x9:Int):Option (LI×LI×Int×Unit):=
 cond (decide (x9<3))
  (let b918:Bool:=((decide (0≤x9))&&(decide (x9<3)))
  cond b918
   (let v920:Int:=(y7 x3 (y6 x9) 0)
   cond x0
    (cond b918
     (let v921:Int:=(y7 x2 (y6 x9) 0)
     cond b918
      (let v922:Int:=(y0 .i64 (v921+v920))
      cond (x8==3)
       (cond (decide (v922<0))
        (cond b918
         ((q0n F v921 5).bind fun r925=>
         let b926:Bool:=((decide (0≤x9))&&(decide (x9<4)))
         cond b926
          ((q0n F v922 5).bind fun r927=>
          cond b926
           (rec x0 x1 x2 x3 x4 x5 x6 (yy (yy x7 (y6 x9) r925.1) (4+(y6 x9)) r927.1) x9 (y0 .i64 (x9+1)))
            none)
           none)
          none)
        (cond ((ishr .i64 v922 5) !=0)
         (cond b918
          ((q0n F v921 5).bind fun r933=>
          let b934:Bool:=((decide (0≤x9))&&(decide (x9<4)))
          cond b934
           ((q0n F v922 5).bind fun r935=>
           cond b934
            (rec x0 x1 x2 x3 x4 x5 x6 (yy (yy x7 (y6 x9) r933.1) (4+(y6 x9)) r935.1) x9 (y0 .i64 (x9+1)))
             none)
            none)
           none)
         (cond b918
          ((q0n F v921 5).bind fun r939=>
          let b940:Bool:=((decide (0≤x9))&&(decide (x9<4)))
          cond b940
           ((q0n F v922 5).bind fun r941=>
           cond b940
            (rec x0 x1 x2 x3 x4 x5 x6 (yy (yy x7 (y6 x9) r939.1) (4+(y6 x9)) r941.1) x8 (y0 .i64 (x9+1)))
             none)
            none)
           none)))
       (cond b918
        ((q0n F v921 5).bind fun r945=>
        let b946:Bool:=((decide (0≤x9))&&(decide (x9<4)))
        cond b946
         ((q0n F v922 5).bind fun r947=>
         cond b946
          (rec x0 x1 x2 x3 x4 x5 x6 (yy (yy x7 (y6 x9) r945.1) (4+(y6 x9)) r947.1) x8 (y0 .i64 (x9+1)))
           none)
          none)
         none))
       none)
      none)
    (cond b918
     ((q0n F (y7 x2 (y6 x9) 0) 4).bind fun r952=>
     let b953:Bool:=((decide (0≤x9))&&(decide (x9<4)))
     cond b953
      ((q0n F v920 4).bind fun r954=>
      cond b953
       (rec x0 x1 x2 x3 x4 x5 x6 (yy (yy x7 (y6 x9) r952.1) (4+(y6 x9)) r954.1) x8 (y0 .i64 (x9+1)))
        none)
       none)
      none))
    none)
  (some (x6,x7,x8,()))
def q15(F:Nat):Nat→Bool→Bool→LI→LI→LI→LI→LI→LI→Int→Int→Option (LI×LI×Int×Unit)
 |0,_,_,_,_,_,_,_,_,_,_=>none
 |k+1,x0,x1,x2,x3,x4,x5,x6,x7,x8,x9=>qc6 F (q15 F k) x0 x1 x2 x3 x4 x5 x6 x7 x8 x9
def qda(F:Nat)(a0:(Bool×Bool×LI×LI×LI×LI×Unit)):Option (LI×Int×Unit):=
 (q15 F F a0.1 a0.2.1 a0.2.2.1 a0.2.2.2.1 a0.2.2.2.2.1 a0.2.2.2.2.2.1 qb1 qtm 3 0).bind fun r958=>
 some (r958.2.1,r958.2.2.1,())
def qlg(F:Nat)(a0:Bool)(a1:Int):Option (Int×Unit):=
 let v961:Int:=(iand .i64 a1 15)
 cond a0
  (some ((y0 .i64 (yx v961 8)),()))
  (some ((y0 .i64 (yx (yw v961 4) 2)),()))
def zd4:LI:=[2,8,5,17,9,29,13,42,18,60,24,80,33,106,47,183]
def qn8(F:Nat)(a0:Int):Option (LI×Unit):=
 let v975:Int:=(iand .i64 a0 7)
 cond ((decide (0≤v975))&&(decide (v975<8)))
  (let l978:LI:=(y8 2 (y9 ((y6 v975)*2) zd4))
  let v979:Int:=(y7 l978 0 0)
  let v980:Int:=(y7 l978 1 0)
  some ([v979,v980,(y0 .i64 (0-v979)),(y0 .i64 (0-v980))],()))
   none
def qc7(F:Nat)(rec:Bool→Bool→LI→LI→LI→LI→LI→LI→LI→Int→Int→Int→LI→Int→Int→Option (Bool×Bool×LI×LI×LI×LI×LI×LI×LI×LI×Int×Unit))(x0:Bool)(x1:Bool)(x2:LI)(x3:LI)(x4:LI)(x5:LI)(x6:LI)(x7:LI)(x8:LI)(x9:Int)(x10:Int)(x11:Int)(x12:LI)(x13:Int)(x14:Int):Option (Bool×Bool×LI×LI×LI×LI×LI×LI×LI×LI×Int×Unit):=
 cond (decide (x14<3))
  (let b1095:Bool:=((decide (0≤x9))&&(decide (x9<16)))
  cond b1095
   (let b1097:Bool:=((decide (0≤x14))&&(decide (x14<4)))
   cond b1097
    (let n1098:Nat:=(((y6 x9)*4)+(y6 x14))
    cond ((decide (0≤x11))&&(decide (x11<2)))
     ((qn8 F (y7 x4 (y6 x11) 0)).bind fun r1103=>
     let v1104:Int:=(iand .i64 x10 3)
     cond ((decide (0≤v1104))&&(decide (v1104<4)))
      ((q6t F (y0 .i64 ((y7 x8 n1098 0)+(y7 r1103.1 (y6 v1104) 0))) 255).bind fun r1108=>
      cond b1095
       (cond b1097
        (rec x0 x1 x2 x3 x4 x5 x6 x7 (yy x8 n1098 r1108.1) x9 x10 x11 x12 x13 (y0 .i64 (x14+1)))
         none)
        none)
       none)
      none)
     none)
    none)
  (some (x0,x1,x2,x3,x4,x5,x6,x7,x8,x12,x13,()))
def q2c(F:Nat):Nat→Bool→Bool→LI→LI→LI→LI→LI→LI→LI→Int→Int→Int→LI→Int→Int→Option (Bool×Bool×LI×LI×LI×LI×LI×LI×LI×LI×Int×Unit)
 |0,_,_,_,_,_,_,_,_,_,_,_,_,_,_,_=>none
 |k+1,x0,x1,x2,x3,x4,x5,x6,x7,x8,x9,x10,x11,x12,x13,x14=>qc7 F (q2c F k) x0 x1 x2 x3 x4 x5 x6 x7 x8 x9 x10 x11 x12 x13 x14
def q67(F:Nat)(rec:Bool→Bool→LI→LI→LI→LI→LI→LI→LI→LI→Int→Option (LI×LI×Unit))(x0:Bool)(x1:Bool)(x2:LI)(x3:LI)(x4:LI)(x5:LI)(x6:LI)(x7:LI)(x8:LI)(x9:LI)(x10:Int):Option (LI×LI×Unit):=
 cond (decide (x10<16))
  (let b1069:Bool:=((decide (0≤x10))&&(decide (x10<16)))
  cond b1069
   ((qlg F x1 x10).bind fun r1071=>
   cond ((decide (0≤r1071.1))&&(decide (r1071.1<2)))
    (cond b1069
     (let n1075:Nat:=((y6 x10)*4)
     (q2c F F x0 x1 x2 x3 x4 x5 x6 x7 (((y8 n1075 x8)++(y8 4 (y9 ((y6 r1071.1)*4) x7)))++(y9 (n1075+4) x8)) x10 (y7 x9 (y6 x10) 0) r1071.1 x9 x10 0).bind fun r1111=>
     rec r1111.1 r1111.2.1 r1111.2.2.1 r1111.2.2.2.1 r1111.2.2.2.2.1 r1111.2.2.2.2.2.1 r1111.2.2.2.2.2.2.1 r1111.2.2.2.2.2.2.2.1 r1111.2.2.2.2.2.2.2.2.1 r1111.2.2.2.2.2.2.2.2.2.1 (y0 .i64 (r1111.2.2.2.2.2.2.2.2.2.2.1+1)))
      none)
     none)
    none)
  (some (x6,x8,()))
def q41(F:Nat):Nat→Bool→Bool→LI→LI→LI→LI→LI→LI→LI→LI→Int→Option (LI×LI×Unit)
 |0,_,_,_,_,_,_,_,_,_,_,_=>none
 |k+1,x0,x1,x2,x3,x4,x5,x6,x7,x8,x9,x10=>q67 F (q41 F k) x0 x1 x2 x3 x4 x5 x6 x7 x8 x9 x10
def qhm(F:Nat)(a0:(Bool×Bool×LI×LI×LI×LI×Unit)):Option (LI×Unit):=
 (qda F (a0.1,a0.2.1,a0.2.2.1,a0.2.2.2.1,a0.2.2.2.2.1,a0.2.2.2.2.2.1,())).bind fun r959=>
 (q41 F F a0.1 a0.2.1 a0.2.2.1 a0.2.2.2.1 a0.2.2.2.2.1 a0.2.2.2.2.2.1 q5d r959.1 q5d a0.2.2.2.2.2.1 0).bind fun r1113=>
 some (r1113.2.1,())
def qjx(F:Nat)(a0:LI):Option (LI×Int×Unit):=
 (q40 F a0).bind fun r824=>
 cond (r824.2.1 !=0)
  (some (q5d,r824.2.1,()))
  ((qhm F (r824.1.1,r824.1.2.1,r824.1.2.2.1,r824.1.2.2.2.1,r824.1.2.2.2.2.1,r824.1.2.2.2.2.2.1,())).bind fun r1114=>
  some (r1114.1,0,()))
def q23(F:Nat)(a0:LI)(a1:Int)(a2:Int):Option (Int×Unit):=
 (qpg F a0 a1 a2 true).bind fun r1225=>
 some ((y0 .i64 r1225.1),())
def q7j(F:Nat)(rec:LI→LI→LI→Int→Option (LI×LI×Unit))(x0:LI)(x1:LI)(x2:LI)(x3:Int):Option (LI×LI×Unit):=
 cond (decide (x3<16))
  (let v1326:Int:=(y0 .i64 ((y0 .i64 (4*(yw x3 4)))+(y0 .i64 (yx x3 4))))
  (q23 F x0 (y0 .i64 (47-v1326)) 1).bind fun r1328=>
  (q23 F x0 (y0 .i64 (63-v1326)) 1).bind fun r1331=>
  cond ((decide (0≤x3))&&(decide (x3<16)))
   (rec x0 x1 (yy x2 (y6 x3) (y0 .i64 ((y0 .i64 (2*r1328.1))+r1331.1))) (y0 .i64 (x3+1)))
    none)
  (some (x1,x2,()))
def q54(F:Nat):Nat→LI→LI→LI→Int→Option (LI×LI×Unit)
 |0,_,_,_,_=>none
 |k+1,x0,x1,x2,x3=>q7j F (q54 F k) x0 x1 x2 x3
def qs7(F:Nat)(a0:LI):Option (LI×Unit):=
 (q54 F F a0 q6d q6d 0).bind fun r1337=>
 some (r1337.2.1,())
def qdz(F:Nat)(rec:LI→LI→LI→LI→LI→Bool→Bool→LI→LI→LI→LI→Int→Option (LI×LI×LI×LI×LI×Bool×Bool×LI×LI×LI×LI×Unit))(x0:LI)(x1:LI)(x2:LI)(x3:LI)(x4:LI)(x5:Bool)(x6:Bool)(x7:LI)(x8:LI)(x9:LI)(x10:LI)(x11:Int):Option (LI×LI×LI×LI×LI×Bool×Bool×LI×LI×LI×LI×Unit):=
 cond (decide (x11<3))
  (cond x5
   (let v1271:Int:=(y0 .i64 (8*x11))
   (q23 F x0 v1271 5).bind fun r1272=>
   let b1273:Bool:=((decide (0≤x11))&&(decide (x11<3)))
   cond b1273
    (let l1275:LI:=(yy x7 (y6 x11) r1272.1)
    (q23 F x0 (y0 .i64 (v1271+5)) 3).bind fun r1277=>
    cond b1273
     (let l1278:LI:=(yy x8 (y6 x11) r1277.1)
     cond b1273
      (let v1279:Int:=(y7 l1278 (y6 x11) 0)
      cond (decide (3<v1279))
       (cond b1273
        (cond b1273
         (rec x0 x1 x2 x3 x4 x5 x6 l1275 (yy l1278 (y6 x11) (y0 .i64 (v1279-8))) x9 x10 (y0 .i64 (x11+1)))
          none)
         none)
       (rec x0 x1 x2 x3 x4 x5 x6 l1275 l1278 x9 x10 (y0 .i64 (x11+1))))
       none)
      none)
     none)
   (let v1285:Int:=(y0 .i64 (8*x11))
   (q23 F x0 v1285 4).bind fun r1286=>
   let b1287:Bool:=((decide (0≤x11))&&(decide (x11<3)))
   cond b1287
    ((q23 F x0 (y0 .i64 (v1285+4)) 4).bind fun r1291=>
    cond b1287
     (rec x0 x1 x2 x3 x4 x5 x6 (yy x7 (y6 x11) r1286.1) (yy x8 (y6 x11) r1291.1) x9 x10 (y0 .i64 (x11+1)))
      none)
     none))
  (some (x0,x1,x2,x3,x4,x5,x6,x7,x8,x9,x10,()))
def q3k(F:Nat):Nat→LI→LI→LI→LI→LI→Bool→Bool→LI→LI→LI→LI→Int→Option (LI×LI×LI×LI×LI×Bool×Bool×LI×LI×LI×LI×Unit)
 |0,_,_,_,_,_,_,_,_,_,_,_,_=>none
 |k+1,x0,x1,x2,x3,x4,x5,x6,x7,x8,x9,x10,x11=>qdz F (q3k F k) x0 x1 x2 x3 x4 x5 x6 x7 x8 x9 x10 x11
def q6u(F:Nat)(a0:LI):Option ((Bool×Bool×LI×LI×LI×LI×Unit)×Int×Unit):=
 cond ((((ya a0):Nat):Int) !=8)
  (some ((false,false,[0,0,0],[0,0,0],[0,0],q6d,()),1,()))
  ((q23 F a0 30 1).bind fun r1227=>
  (q23 F a0 31 1).bind fun r1229=>
  (q3k F F a0 [0,0,0] [0,0,0] [0,0] q6d (r1227.1==1) (r1229.1==1) [0,0,0] [0,0,0] [0,0] q6d 0).bind fun r1294=>
  (q23 F r1294.1 24 3).bind fun r1296=>
  (q23 F r1294.1 27 3).bind fun r1297=>
  (qs7 F r1294.1).bind fun r1338=>
  some ((r1294.2.2.2.2.2.1,r1294.2.2.2.2.2.2.1,r1294.2.2.2.2.2.2.2.1,r1294.2.2.2.2.2.2.2.2.1,[r1296.1,r1297.1],r1338.1,()),0,()))
def q78(F:Nat)(a0:Int)(a1:Int)(a2:Int):Option (Bool×Unit):=
 cond (decide (a1≤a0))
  (some ((decide (a0≤a2)),()))
  (some (false,()))
def qhn(F:Nat)(a0:Int)(a1:Int):Option (Int×Unit):=
 cond (!(a1==0))
  (cond (decide ((yw a0 a1)<0))
   (some ((y0 .i64 ((yw a0 a1)+a1)),()))
   (some ((yw a0 a1),())))
   none
def qe0(F:Nat)(rec:Bool→Bool→LI→LI→LI→LI→LI→LI→Int→Int→Option (LI×LI×Int×Unit))(x0:Bool)(x1:Bool)(x2:LI)(x3:LI)(x4:LI)(x5:LI)(x6:LI)(x7:LI)(x8:Int)(x9:Int):Option (LI×LI×Int×Unit):=
 cond (decide (0≤x9))
  (cond x0
   (let b1454:Bool:=((decide (0≤x9))&&(decide (x9<3)))
   cond b1454
    (let v1456:Int:=(y7 x2 (y6 x9) 0)
    cond b1454
     (let v1458:Int:=(y0 .i64 (v1456+(y7 x3 (y6 x9) 0)))
     (q78 F v1458 0 31).bind fun r1459=>
     cond (!r1459.1)
      (cond b1454
       ((q0e F v1456 5).bind fun r1461=>
       let b1462:Bool:=((decide (0≤x9))&&(decide (x9<4)))
       cond b1462
        ((qhn F v1458 32).bind fun r1464=>
        (q0e F r1464.1 5).bind fun r1465=>
        cond b1462
         (rec x0 x1 x2 x3 x4 x5 x6 (yy (yy x7 (y6 x9) r1461.1) (4+(y6 x9)) r1465.1) x9 (y0 .i64 (x9-1)))
          none)
         none)
        none)
      (cond b1454
       ((q0e F v1456 5).bind fun r1468=>
       let b1469:Bool:=((decide (0≤x9))&&(decide (x9<4)))
       cond b1469
        ((qhn F v1458 32).bind fun r1471=>
        (q0e F r1471.1 5).bind fun r1472=>
        cond b1469
         (rec x0 x1 x2 x3 x4 x5 x6 (yy (yy x7 (y6 x9) r1468.1) (4+(y6 x9)) r1472.1) x8 (y0 .i64 (x9-1)))
          none)
         none)
        none))
      none)
     none)
   (let b1475:Bool:=((decide (0≤x9))&&(decide (x9<3)))
   cond b1475
    ((q0e F (y7 x2 (y6 x9) 0) 4).bind fun r1478=>
    let b1479:Bool:=((decide (0≤x9))&&(decide (x9<4)))
    cond b1479
     (cond b1475
      ((q0e F (y7 x3 (y6 x9) 0) 4).bind fun r1482=>
      cond b1479
       (rec x0 x1 x2 x3 x4 x5 x6 (yy (yy x7 (y6 x9) r1478.1) (4+(y6 x9)) r1482.1) x8 (y0 .i64 (x9-1)))
        none)
       none)
      none)
     none))
  (some (x6,x7,x8,()))
def q1a(F:Nat):Nat→Bool→Bool→LI→LI→LI→LI→LI→LI→Int→Int→Option (LI×LI×Int×Unit)
 |0,_,_,_,_,_,_,_,_,_,_=>none
 |k+1,x0,x1,x2,x3,x4,x5,x6,x7,x8,x9=>qe0 F (q1a F k) x0 x1 x2 x3 x4 x5 x6 x7 x8 x9
def qag(F:Nat)(a0:(Bool×Bool×LI×LI×LI×LI×Unit)):Option (LI×Int×Unit):=
 (q1a F F a0.1 a0.2.1 a0.2.2.1 a0.2.2.2.1 a0.2.2.2.2.1 a0.2.2.2.2.2.1 qb1 qtm 3 2).bind fun r1485=>
 some (r1485.2.1,r1485.2.2.1,())
def qpm(F:Nat)(a0:Bool)(a1:Int):Option (Int×Unit):=
 (qhn F a1 16).bind fun r1487=>
 cond a0
  (some ((y0 .i64 (yx r1487.1 8)),()))
  (some ((y0 .i64 (yx (yw r1487.1 4) 2)),()))
def qs8(F:Nat)(a0:Int):Option (LI×Unit):=
 (qhn F a0 8).bind fun r1497=>
 cond (r1497.1==0)
  (some ([2,8,(-2),(-8)],()))
  (cond (r1497.1==1)
   (some ([5,17,(-5),(-17)],()))
   (cond (r1497.1==2)
    (some ([9,29,(-9),(-29)],()))
    (cond (r1497.1==3)
     (some ([13,42,(-13),(-42)],()))
     (cond (r1497.1==4)
      (some ([18,60,(-18),(-60)],()))
      (cond (r1497.1==5)
       (some ([24,80,(-24),(-80)],()))
       (cond (r1497.1==6)
        (some ([33,106,(-33),(-106)],()))
        (cond (r1497.1==7)
         (some ([47,183,(-47),(-183)],()))
          none)))))))
def q5k(F:Nat)(a0:Int)(a1:Int):Option (Int×Unit):=
 cond (decide (a1<a0))
  (cond (decide (a1<0))
   (some (0,()))
   (some (a1,())))
  (cond (decide (a0<0))
   (some (0,()))
   (some (a0,())))
def qjy(F:Nat)(rec:Int→LI→LI→Int→Option (LI×LI×Unit))(x0:Int)(x1:LI)(x2:LI)(x3:Int):Option (LI×LI×Unit):=
 cond (decide (x3<3))
  (let b1526:Bool:=((decide (0≤x3))&&(decide (x3<4)))
  cond b1526
   ((q5k F (y0 .i64 ((y7 x1 (y6 x3) 0)+x0)) 255).bind fun r1530=>
   cond b1526
    (rec x0 (yy x1 (y6 x3) r1530.1) x2 (y0 .i64 (x3+1)))
     none)
    none)
  (some (x1,x2,()))
def q6e(F:Nat):Nat→Int→LI→LI→Int→Option (LI×LI×Unit)
 |0,_,_,_,_=>none
 |k+1,x0,x1,x2,x3=>qjy F (q6e F k) x0 x1 x2 x3
def q1o(F:Nat)(a0:LI)(a1:Int):Option (LI×Unit):=
 (q6e F F a1 a0 [0,0,0,0] 0).bind fun r1533=>
 some (r1533.1,())
def q7k(F:Nat)(rec:Bool→Bool→LI→LI→LI→LI→LI→LI→LI→Int→Option (LI×LI×Unit))(x0:Bool)(x1:Bool)(x2:LI)(x3:LI)(x4:LI)(x5:LI)(x6:LI)(x7:LI)(x8:LI)(x9:Int):Option (LI×LI×Unit):=
 cond (decide (x9<16))
  ((qpm F x1 x9).bind fun r1554=>
  let b1555:Bool:=((decide (0≤r1554.1))&&(decide (r1554.1<2)))
  cond b1555
   (cond b1555
    ((qs8 F (y7 x4 (y6 r1554.1) 0)).bind fun r1560=>
    let b1561:Bool:=((decide (0≤x9))&&(decide (x9<16)))
    cond b1561
     (let v1563:Int:=(y7 x5 (y6 x9) 0)
     cond ((decide (0≤v1563))&&(decide (v1563<4)))
      ((q1o F (y8 4 (y9 ((y6 r1554.1)*4) x7)) (y7 r1560.1 (y6 v1563) 0)).bind fun r1566=>
      cond b1561
       (let n1567:Nat:=((y6 x9)*4)
       rec x0 x1 x2 x3 x4 x5 x6 x7 (((y8 n1567 x8)++r1566.1)++(y9 (n1567+4) x8)) (y0 .i64 (x9+1)))
        none)
       none)
      none)
     none)
    none)
  (some (x6,x8,()))
def q55(F:Nat):Nat→Bool→Bool→LI→LI→LI→LI→LI→LI→LI→Int→Option (LI×LI×Unit)
 |0,_,_,_,_,_,_,_,_,_,_=>none
 |k+1,x0,x1,x2,x3,x4,x5,x6,x7,x8,x9=>q7k F (q55 F k) x0 x1 x2 x3 x4 x5 x6 x7 x8 x9
def qcz(F:Nat)(a0:(Bool×Bool×LI×LI×LI×LI×Unit)):Option (LI×Unit):=
 (qag F (a0.1,a0.2.1,a0.2.2.1,a0.2.2.2.1,a0.2.2.2.2.1,a0.2.2.2.2.2.1,())).bind fun r1486=>
 (q55 F F a0.1 a0.2.1 a0.2.2.1 a0.2.2.2.1 a0.2.2.2.2.1 a0.2.2.2.2.2.1 q5d r1486.1 q5d 0).bind fun r1570=>
 some (r1570.2.1,())
def qho(F:Nat)(a0:LI):Option (LI×Int×Unit):=
 (q6u F a0).bind fun r1342=>
 cond (r1342.2.1 !=0)
  (some (q5d,r1342.2.1,()))
  ((qcz F (r1342.1.1,r1342.1.2.1,r1342.1.2.2.1,r1342.1.2.2.2.1,r1342.1.2.2.2.2.1,r1342.1.2.2.2.2.2.1,())).bind fun r1571=>
  some (r1571.1,0,()))
def qjz(F:Nat)(rec:Bool→Bool→LI→LI→LI→LI→Int→Option (Unit⊕(Bool×Bool×LI×LI×LI×LI×Unit)))(x0:Bool)(x1:Bool)(x2:LI)(x3:LI)(x4:LI)(x5:LI)(x6:Int):Option (Unit⊕(Bool×Bool×LI×LI×LI×LI×Unit)):=
 cond (decide (x6<3))
  (cond x0
   (let b1634:Bool:=((decide (0≤x6))&&(decide (x6<3)))
   cond b1634
    (let v1636:Int:=(y7 x2 (y6 x6) 0)
    (q78 F v1636 0 31).bind fun r1637=>
    cond (!r1637.1)
     (some (.inl ()))
     (cond b1634
      (let v1639:Int:=(y7 x3 (y6 x6) 0)
      (q78 F v1639 (-4) 3).bind fun r1640=>
      cond (!r1640.1)
       (some (.inl ()))
       (cond (!x0)
        (cond b1634
         ((q78 F v1636 0 15).bind fun r1643=>
         cond (!r1643.1)
          (some (.inl ()))
          (cond b1634
           ((q78 F v1639 0 15).bind fun r1645=>
           cond (!r1645.1)
            (some (.inl ()))
            (rec x0 x1 x2 x3 x4 x5 (y0 .i64 (x6+1))))
            none))
          none)
        (rec x0 x1 x2 x3 x4 x5 (y0 .i64 (x6+1)))))
       none))
     none)
   (cond (!x0)
    (let b1650:Bool:=((decide (0≤x6))&&(decide (x6<3)))
    cond b1650
     ((q78 F (y7 x2 (y6 x6) 0) 0 15).bind fun r1653=>
     cond (!r1653.1)
      (some (.inl ()))
      (cond b1650
       ((q78 F (y7 x3 (y6 x6) 0) 0 15).bind fun r1656=>
       cond (!r1656.1)
        (some (.inl ()))
        (rec x0 x1 x2 x3 x4 x5 (y0 .i64 (x6+1))))
        none))
      none)
    (rec x0 x1 x2 x3 x4 x5 (y0 .i64 (x6+1)))))
  (some (.inr (x0,x1,x2,x3,x4,x5,())))
def q42(F:Nat):Nat→Bool→Bool→LI→LI→LI→LI→Int→Option (Unit⊕(Bool×Bool×LI×LI×LI×LI×Unit))
 |0,_,_,_,_,_,_,_=>none
 |k+1,x0,x1,x2,x3,x4,x5,x6=>qjz F (q42 F k) x0 x1 x2 x3 x4 x5 x6
def qk0(F:Nat)(rec:Bool→Bool→LI→LI→LI→LI→Int→Option (Unit⊕(Bool×Bool×LI×LI×LI×LI×Unit)))(x0:Bool)(x1:Bool)(x2:LI)(x3:LI)(x4:LI)(x5:LI)(x6:Int):Option (Unit⊕(Bool×Bool×LI×LI×LI×LI×Unit)):=
 cond (decide (x6<16))
  (cond ((decide (0≤x6))&&(decide (x6<16)))
   ((q78 F (y7 x5 (y6 x6) 0) 0 3).bind fun r1675=>
   cond (!r1675.1)
    (some (.inl ()))
    (rec x0 x1 x2 x3 x4 x5 (y0 .i64 (x6+1))))
    none)
  (some (.inr (x0,x1,x2,x3,x4,x5,())))
def q7z(F:Nat):Nat→Bool→Bool→LI→LI→LI→LI→Int→Option (Unit⊕(Bool×Bool×LI×LI×LI×LI×Unit))
 |0,_,_,_,_,_,_,_=>none
 |k+1,x0,x1,x2,x3,x4,x5,x6=>qk0 F (q7z F k) x0 x1 x2 x3 x4 x5 x6
def z67(F:Nat)(a0:(Bool×Bool×LI×LI×LI×LI×Unit)):Option (Bool×Unit):=
 (q42 F F a0.1 a0.2.1 a0.2.2.1 a0.2.2.2.1 a0.2.2.2.2.1 a0.2.2.2.2.2.1 0).bind fun r1660=>match r1660 with
  | .inl r1660=>(some (false,()))
  | .inr r1660=>((q7z F F r1660.1 r1660.2.1 r1660.2.2.1 r1660.2.2.2.1 r1660.2.2.2.2.1 r1660.2.2.2.2.2.1 0).bind fun r1678=>match r1678 with
    | .inl r1678=>(some (false,()))
    | .inr r1678=>((q78 F (y7 r1678.2.2.2.2.1 0 0) 0 7).bind fun r1680=>
     cond r1680.1
      ((q78 F (y7 r1678.2.2.2.2.1 1 0) 0 7).bind fun r1682=>
      some (r1682.1,()))
      (some (false,()))))
def q6f(F:Nat)(a0:LI)(a1:Int)(a2:Int)(a3:Int):Option (LI×Unit):=
 (q2b F a0 a1 a2 true (y0 .u64 a3)).bind fun r2317=>
 some (r2317.1,())
def z68(F:Nat)(a0:Bool):Option (Int×Unit):=
 cond a0
  (some (1,()))
  (some (0,()))
def qk1(F:Nat)(rec:LI→LI→Int→Option (LI×Unit))(x0:LI)(x1:LI)(x2:Int):Option (LI×Unit):=
 cond (decide (x2<16))
  (let v2474:Int:=(y0 .i64 ((y0 .i64 (4*(yw x2 4)))+(y0 .i64 (yx x2 4))))
  let b2476:Bool:=((decide (0≤x2))&&(decide (x2<16)))
  cond b2476
   (let v2478:Int:=(y7 x1 (y6 x2) 0)
   (q6f F x0 (y0 .i64 (47-v2474)) 1 (y0 .i64 (yx v2478 2))).bind fun r2480=>
   cond b2476
    ((q6f F r2480.1 (y0 .i64 (63-v2474)) 1 (yw v2478 2)).bind fun r2484=>
    rec r2484.1 x1 (y0 .i64 (x2+1)))
     none)
    none)
  (some (x0,()))
def qah(F:Nat):Nat→LI→LI→Int→Option (LI×Unit)
 |0,_,_,_=>none
 |k+1,x0,x1,x2=>qk1 F (qah F k) x0 x1 x2
def z69(F:Nat)(a0:LI)(a1:LI):Option (LI×Unit):=
 (qah F F a0 a1 0).bind fun r2487=>
 some (r2487.1,())
def qgv(F:Nat)(rec:Bool→Bool→LI→LI→LI→LI→LI→Int→Option (Bool×Bool×LI×LI×LI×LI×LI×Unit))(x0:Bool)(x1:Bool)(x2:LI)(x3:LI)(x4:LI)(x5:LI)(x6:LI)(x7:Int):Option (Bool×Bool×LI×LI×LI×LI×LI×Unit):=
 cond (decide (x7<3))
  (cond x0
   (let v2534:Int:=(y0 .i64 (8*x7))
   let b2535:Bool:=((decide (0≤x7))&&(decide (x7<3)))
   cond b2535
    ((q6f F x6 v2534 5 (y7 x2 (y6 x7) 0)).bind fun r2538=>
    cond b2535
     ((qhn F (y7 x3 (y6 x7) 0) 8).bind fun r2542=>
     (q6f F r2538.1 (y0 .i64 (v2534+5)) 3 r2542.1).bind fun r2543=>
     rec x0 x1 x2 x3 x4 x5 r2543.1 (y0 .i64 (x7+1)))
      none)
     none)
   (let v2546:Int:=(y0 .i64 (8*x7))
   let b2547:Bool:=((decide (0≤x7))&&(decide (x7<3)))
   cond b2547
    ((q6f F x6 v2546 4 (y7 x2 (y6 x7) 0)).bind fun r2550=>
    cond b2547
     ((q6f F r2550.1 (y0 .i64 (v2546+4)) 4 (y7 x3 (y6 x7) 0)).bind fun r2554=>
     rec x0 x1 x2 x3 x4 x5 r2554.1 (y0 .i64 (x7+1)))
      none)
     none))
  (some (x0,x1,x2,x3,x4,x5,x6,()))
def q3l(F:Nat):Nat→Bool→Bool→LI→LI→LI→LI→LI→Int→Option (Bool×Bool×LI×LI×LI×LI×LI×Unit)
 |0,_,_,_,_,_,_,_,_=>none
 |k+1,x0,x1,x2,x3,x4,x5,x6,x7=>qgv F (q3l F k) x0 x1 x2 x3 x4 x5 x6 x7
def qpn(F:Nat)(a0:(Bool×Bool×LI×LI×LI×LI×Unit)):Option (LI×Int×Unit):=
 (z67 F (a0.1,a0.2.1,a0.2.2.1,a0.2.2.2.1,a0.2.2.2.2.1,a0.2.2.2.2.2.1,())).bind fun r2491=>
 cond (!r2491.1)
  (some ([],1,()))
  ((q3l F F a0.1 a0.2.1 a0.2.2.1 a0.2.2.2.1 a0.2.2.2.2.1 a0.2.2.2.2.2.1 qb1 0).bind fun r2557=>
  (q6f F r2557.2.2.2.2.2.2.1 24 3 (y7 r2557.2.2.2.2.1 0 0)).bind fun r2560=>
  (q6f F r2560.1 27 3 (y7 r2557.2.2.2.2.1 1 0)).bind fun r2563=>
  (z68 F r2557.1).bind fun r2565=>
  (q6f F r2563.1 30 1 r2565.1).bind fun r2566=>
  (z68 F r2557.2.1).bind fun r2568=>
  (q6f F r2566.1 31 1 r2568.1).bind fun r2569=>
  (z69 F r2569.1 r2557.2.2.2.2.2.1).bind fun r2571=>
  some (r2571.1,0,()))
end Go.AE.Gn

/- A part of the proof, put together of my texts: Fw16, Fw17, Fw18, Fw19, Fw20, Fw21, Fw23, Fw24, A02defs, A07defs, B10defs, C11defs. -/
import Derived.Maps.Range
import Derived.DeepKeys5
import Derived.Test.YtdnccegimipapaaGreatRowEtcfitRedP2
set_option linter.unusedVariables false
set_option linter.unusedSimpArgs false
open List renaming replicate → yy, getD_eq_getElem?_getD → ye, getElem?_append_left → yg, getElem?_eq_getElem → yj, getElem?_append_right → w6, mem_cons → yr, mem_append → yk, length → ya, length_append → yo, getElem?_eq_none → w7, set → yx, take → y8, drop → y9, getD → y7
open Option.some renaming injEq → yf
open Nat renaming le_refl → w8
open Prod.mk renaming injEq → ym
open Bool renaming and_eq_true → yl
open Go.IntKind renaming wrap → y0
open Int renaming toNat → y6, tdiv → yw, tmod → yv
namespace Go.AE
open Go Go.RowKit
variable {ρ:Type}
def st0(n:Nat):St:=⟨yy n .undef,[none]⟩
def zj9:Act:=⟨none,false,false,false⟩
noncomputable def fzOf(M:List Place)(k:Nat):Option Obj:=by
 classical exact if h:∃ob,FzAt M k ob then some h.choose else none
noncomputable def qvz(M:List Place):Place:=⟨true,0,0,0,0,fzOf M⟩
theorem zoh{M:List Place}{k:Nat}{ob:Obj}(h:fzOf M k=some ob):FzAt M k ob:=by
 unfold fzOf at h
 split at h
 ·rename_i hx
  cases h
  exact hx.choose_spec
 ·cases h
theorem qw0{M:List Place}:FzSub [qvz M] M:=fun k ob ⟨i,pl,h1,h2⟩=>by
 have:pl=qvz M:=by simpa using List.mem_of_getElem? h1
 subst this
 exact zoh h2
theorem z4y{M:List Place}{H:Heap}{B:Base}{w:World}(r:RelH M H B w):FzSub M [qvz M]:=fun k ob h=>by
 refine⟨0,qvz M,rfl,?_⟩
 show fzOf M k=some ob
 have hx:∃ob,FzAt M k ob:=⟨ob,h⟩
 have e:fzOf M k=some hx.choose:=by
  unfold fzOf
  rw[dif_pos hx]
 have h1:=(r.fz k ob h).1
 have h2:=(r.fz k _ hx.choose_spec).1
 rw[h1]at h2
 rw[e,Option.some.inj h2]
theorem told0{M:List Place}{st:St}{B:Base}{w:World}{a:Array Value}(hH:RelH M st.heap B w)(n:Nat)(hn:n=a.size):Told M st B w a [zj9] [qvz M] (st0 n):=by
 refine⟨⟨by simp[st0,hn],fun t=> ?_⟩,⟨rfl,hH.base,fun i o h=> ?_,fun i j oi oj pi pj h=> ?_,fun i o pl k h=> ?_,fun i o pl h=> ?_,fun k ob h=>hH.fz k ob (qw0 k ob h),fun i o pl h=> ?_,hH.bf⟩,rfl,fun i ac h=> ?_,z4y hH,qw0⟩
 ·have:(yy n AV.undef).getD t .undef= .undef:=by
   rw[ye,List.getElem?_replicate]
   split<;>rfl
  show RelV _ ((yy n AV.undef).getD t .undef) _
  rw[this]
  exact q42 _ _
 all_goals try (cases i<;>simp[st0]at h)
 subst h
 refine⟨qvz M,rfl,fun b h=>(by cases h),⟨fun _=>⟨fun h=>(by cases h),fun h=>(by cases h)⟩,fun k ob h=>zoh h⟩,fun oi h=>(by simp[st0]at h),fun h=>(by cases h)⟩
theorem ext_rel{M:List Place}{st:St}{B:Base}{w0:World}{a:Go.Act}{w:World}(r:Rel M st B w0 a w){its:List Item}{d:D (tysI its [])}(h:extI st true its [] () [zj9]=some d){n:Nat}(hn:st.tmps.length=n):∃M',Rel M' (bldI its [] d (st0 n)).1 B w0 a w:=by
 obtain⟨⟨M2,t⟩,_⟩:=q5t r.tmps r.heap (fun h=>by cases h) (told0 (a:=a.tmps) r.heap n (by rw[←hn];exact r.tmps.1)) h
 exact⟨M2,t.tmps,r.defers,t.heap,r.below⟩
def z1r(P:Program)(st:St):List ResultVar→Option (List AV)
 |[]=>some []
 | .tmp t::r=>match z1r P st r with
  |some l=>some (st.tmps.getD t .undef::l)
  |none=>none
 | .cell t ty::r=>match zly P st.heap ty (st.tmps.getD t .undef),z1r P st r with
  |some x,some l=>some (x::l)
  |_,_=>none
def retV(rs:Array Value):Value:=if h:rs.size=1 then rs[0]else .tuple rs
def retA:List AV→AV
 |[x]=>x
 |l=> .tup l
def z4z(a:Array Value)(x:ResultVar):Sem Value:=
 match x with
 | .tmp t=>pure (a.getD t undef)
 | .cell c t=>(do loadVar t (←asAddr (a.getD c undef)):Sem Value)
theorem qw1{P:Program}{M:List Place}{st:St}{B:Base}{w:World}{a:Array Value}(ht:RelT M st.tmps a)(hH:RelH M st.heap B w):∀{rs:List ResultVar} {l:List AV},z1r P st rs=some l→
  ∃vs:List Value,RelL M l vs∧(rs.mapM (z4z a)).run P w= .ok vs w
 |[],l,h=>by
  simp only[z1r,yf]at h
  subst h
  exact⟨[],RelL_nil.2 rfl,by simp⟩
 | .tmp t::r,l,h=>by
  simp only[z1r]at h
  split at h
  ·rename_i l' hl
   cases h
   obtain⟨vs,h1,h2⟩:=qw1 ht hH hl
   have h3:(z4z a (.tmp t)).run P w= .ok (a.getD t undef) w:=rfl
   exact⟨a.getD t undef::vs,RelL_cons.2 ⟨_,_,rfl,ht.2 t,h1⟩,by rw[List.mapM_cons];simp only[Sem.run_bind,Sem.run_pure,Result.andThen_ok,h2,h3]⟩
  ·cases h
 | .cell c t::r,l,h=>by
  simp only[z1r]at h
  split at h
  ·rename_i x l' hx hl
   cases h
   obtain⟨vs,h1,h2⟩:=qw1 ht hH hl
   obtain⟨A,u,e,hu,hrun⟩:=z4d hH (ht.2 c) hx
   have h3:(z4z a (.cell c t)).run P w= .ok u w:=by
    show((do loadVar t (←asAddr (a.getD c undef)):Sem Value)).run P w=_
    rw[Sem.run_bind,e]
    simp only[asAddr,Sem.run_pure,Result.andThen_ok]
    exact hrun w (Below.refl _ _)
   exact⟨u::vs,RelL_cons.2 ⟨_,_,rfl,hu,h1⟩,by rw[List.mapM_cons];simp only[Sem.run_bind,Sem.run_pure,Result.andThen_ok,h2,h3]⟩
  ·cases h
theorem z50{P:Program}{M:List Place}{st:St}{B:Base}{w:World}{a:Array Value}(ht:RelT M st.tmps a)(hH:RelH M st.heap B w){fn:Func}{l:List AV}(h:z1r P st fn.results.toList=some l):
  ∃vs:Array Value,RelL M l vs.toList∧(results fn a).run P w= .ok (retV vs) w:=by
 obtain⟨vs,h1,h2⟩:=qw1 ht hH h
 refine⟨vs.toArray,by simpa using h1,?_⟩
 have h3:(fn.results.mapM (z4z a)).run P w= .ok vs.toArray w:=by
  rw[Array.mapM_eq_mapM_toList]
  show((List.toArray<$>fn.results.toList.mapM (z4z a):Sem (Array Value))).run P w=_
  rw[map_eq_pure_bind,Sem.run_bind,h2]
  rfl
 have h4:results fn a=(do
   let vs←fn.results.mapM (z4z a)
   pure (if h:vs.size=1 then vs[0]else .tuple vs)):=by
  unfold results
  have:(fun(x:ResultVar)=>(match x with| .tmp t=>pure (a.getD t undef)| .cell c t=>(do loadVar t (←asAddr (a.getD c undef)):Sem Value):Sem Value))=z4z a:=by
   funext x
   cases x<;>rfl
  rw[←this]
  rfl
 rw[h4,Sem.run_bind,h3]
 rfl
theorem zcs{M:List Place}{l:List AV}{vs:Array Value}(h:RelL M l vs.toList):RelV M (retA l) (retV vs):=by
 have hlen:∀{l:List AV} {vs:List Value},RelL M l vs→l.length=vs.length:=by
  intro l
  induction l with
  |nil=>intro vs h;rw[RelL_nil]at h;subst h;rfl
  |cons x l ih=>intro vs h;obtain⟨v,r,rfl,_,hr⟩:=RelL_cons.1 h;simp[ih hr]
 have hl:=hlen h
 simp at hl
 unfold retA retV
 split
 ·rename_i x
  simp at hl
  rw[dif_pos hl.symm]
  obtain⟨v,r,e,hx,hr⟩:=RelL_cons.1 h
  rw[RelL_nil]at hr
  subst hr
  have:vs[0]'(by omega)=v:=by
   have:=congrArg (fun l:List Value=>l[0]?) e
   simpa[hl.symm]using this
  rw[this]
  exact hx
 ·rename_i hne
  rw[dif_neg]
  ·simp only[RelV,RelX]
   exact⟨vs,rfl,h⟩
  ·intro h1
   rw[h1]at hl
   obtain⟨x,rfl⟩:=List.length_eq_one_iff.1 hl
   exact hne x rfl
def zbr(P:Program)(cal:Cal ρ)(qcal:QCal ρ)(ann:Nat→Option (Ann ρ))(f:FuncId)(args:List AV)(H:Heap)(K:List AV→Heap→Option ρ):Option ρ:=
 match P.funcs[f]? with
 |some fn=>match fn.body with
  |some c=>q6r P cal qcal ann c ⟨args++yy (fn.ntmps-args.length) .undef,H⟩ fun e st=>match e with
   | .normal| .ret=>match z1r P st fn.results.toList with
    |some l=>K l st.heap
    |none=>none
   |_=>none
  |none=>none
 |none=>none
theorem qx5{M:List Place}:∀{l:List AV} {vs:List Value},RelL M l vs→l.length=vs.length
 |[],vs,h=>by rw[RelL_nil]at h;subst h;rfl
 |x::l,vs,h=>by obtain⟨v,r,rfl,_,hr⟩:=RelL_cons.1 h;simp[qx5 hr]
theorem z51{M:List Place}{args:List AV}{vs:Array Value}(h:RelL M args vs.toList)(n:Nat):RelT M (args++yy n .undef) (vs++Array.replicate n undef):=by
 have hs:=qx5 h
 simp at hs
 refine⟨by simp[hs],fun t=> ?_⟩
 by_cases ht:t<args.length
 ·have e1:(args++yy n AV.undef).getD t .undef=args[t]:=by simp[ye,yg ht,ht]
  rw[e1]
  obtain⟨v,hv,hr⟩:=zce h (yj ht)
  have e2:(vs++Array.replicate n undef).getD t undef=v:=by
   have hv' :vs[t]? =some v:=by simpa using hv
   simp[Array.getElem?_append_left (show t<vs.size by omega),hv']
  rw[e2]
  exact hr
 ·have e1:(args++yy n AV.undef).getD t .undef= .undef:=by
   rw[ye,w6 (by omega),List.getElem?_replicate]
   split<;>rfl
  rw[e1]
  exact q42 _ _
theorem z0z{P:Program}(hP:q1w P){cal:Cal ρ}(hcal:∀f,qpt P f (cal f)){qcal:QCal ρ}(hq:∀f,qjh P f (qcal f)){ann:Nat→Option (Ann ρ)}{x:Bool}{f:FuncId}{args:List AV}{H:Heap}{K:List AV→Heap→Option ρ}{r:ρ}
  (h:zbr P cal qcal ann f args H K=some r) {M:List Place} {B:Base} {w:World} {vs:Array Value}
  (hann:∀fn c,P.funcs[f]? =some fn→fn.body=some c→∀id an c',ann id=some an→(id,c')∈q8o c→qzc P x B w (.block id c') an)
  (hl:RelL M args vs.toList) (hH:RelH M H B w):
  Calls P f vs w fun e w' =>∃rs l H' M',e= .returned (retV rs)∧K l H' =some r∧ExtO x M M' ∧RelL M' l rs.toList∧RelH M' H' B w' ∧Beneath B w w' :=by
 unfold zbr at h
 split at h
 ·rename_i fn hf
  split at h
  ·rename_i c hb
   have hs:=qx5 hl
   simp at hs
   refine calls_of_wp hf hb ?_
   have hr0:Rel M ⟨args++yy (fn.ntmps-args.length) .undef,H⟩ B w {tmps:=vs++Array.replicate (fn.ntmps-vs.size) undef,defers:=[]} w:=
    ⟨by rw[hs];exact z51 hl _,rfl,hH,Beneath.refl _ _⟩
   refine qf0 hP hcal hq c (hann fn c hf hb) _ _ h M _ w _ hr0 fun e M' st' a' w' hE hk hr=> ?_
   have fin:(match z1r P st' fn.results.toList with|some l=>K l st'.heap|none=>none)=some r→
     a'.defers=[]∧∃v,(results fn a'.tmps).run P w' = .ok v w' ∧∃rs l H' M',Ending.returned v= .returned (retV rs)∧K l H' =some r∧ExtO x M M' ∧RelL M' l rs.toList∧RelH M' H' B w' ∧Beneath B w w' :=by
    intro hk
    split at hk
    ·rename_i l hres
     obtain⟨rs,h1,h2⟩:=z50 hr.tmps hr.heap hres
     exact⟨hr.defers,_,h2,rs,l,_,M',rfl,hk,hE,h1,hr.heap,hr.below⟩
    ·cases hk
   cases e<;>simp only[reduceCtorEq]at hk
   case normal=>exact fin hk
   case ret=>exact fin hk
  ·cases h
 ·cases h
structure Env (ρ:Type) where
 sum:FuncId→Option (List AV→Heap→(AV→Heap→Option ρ)→Option ρ)
 qsum:FuncId→Option (List AV→Heap→(AV→Option ρ)→Option ρ)
structure EnvOk (P:Program) (E:Env ρ):Prop where
 sum:∀f s,E.sum f=some s→qpt P f s
 qsum:∀f s,E.qsum f=some s→qjh P f s
def qof(E:Env ρ):QCal ρ:=fun f args H K=>match E.qsum f with
 |some s=>s args H K
 |none=>none
def evFn(P:Program)(E:Env ρ):Nat→Cal ρ
 |0=>fun _ _ _ _=>none
 |n+1=>fun f args H K=>match E.sum f with
  |some s=>s args H K
  |none=>zbr P (evFn P E n) (qof E) (fun _=>none) f args H fun l H' =>K (retA l) H'
theorem zkz{P:Program}{E:Env ρ}(hE:EnvOk P E)(f:FuncId):qjh P f (qof E f):=by
 intro args H K r h M B w vs hl hH
 unfold qof at h
 split at h
 ·rename_i s hs
  exact hE.qsum f s hs args H K r h M B w vs hl hH
 ·cases h
theorem z52{P:Program}(hP:q1w P){E:Env ρ}(hE:EnvOk P E):∀(n:Nat) (f:FuncId),qpt P f (evFn P E n f)
 |0,f=>fun args H K r h=>by cases h
 |n+1,f=>by
  intro args H K r h M B w vs hl hH
  unfold evFn at h
  split at h
  ·rename_i s hs
   exact hE.sum f s hs args H K r h M B w vs hl hH
  ·refine(z0z hP (z52 hP hE n) (zkz hE) (x:=true) h (fun _ _ _ _ id an c' h1=>(by cases h1)) hl hH).mono ?_
   rintro e w' ⟨rs,l,H',M',h1,h2,h3,h4,h5,h6⟩
   exact⟨retV rs,retA l,H',M',h1,h2,h3 rfl,h5,h6,zcs h4⟩
inductive CO where
 |hole (t:Ty)
 |const (a:AV)
 |row (k:IntKind) (sz:Nat) (own:Bool)
inductive Out where
 |ty (t:Ty)
 |row (k:IntKind) (sz:Nat) (own:Bool:=true)
 |agg (cs:List CO)
 |prow (pin:Nat) (k:IntKind)
 |psegs (pin:Nat) (cs:List CO)
@[reducible] def qzg:List CO→List Ty→List Ty
 |[],acc=>acc
 | .hole t::r,acc=>t::qzg r acc
 | .const _::r,acc=>qzg r acc
 | .row k _ _::r,acc=> .row k::qzg r acc
@[reducible] def tysO:List Out→List Ty
 |[]=>[]
 | .ty t::r=>t::tysO r
 | .row k _ _::r=> .row k::tysO r
 | .agg cs::r=>qzg cs (tysO r)
 | .prow _ k::r=> .row k::tysO r
 | .psegs _ cs::r=>qzg cs (tysO r)
def z93:List CO→Nat
 |[]=>0
 | .row _ _ _::r=>z93 r+1
 |_::r=>z93 r
def slO(b sz:Nat)(l:LI)(own:Bool):AV:= .sl b 0 (div1 l.length sz) sz (if own then .own else .whole)
def qw2:(cs:List CO)→(acc:List Ty)→D (qzg cs acc)→Nat→List AV
 |[],_,_,_=>[]
 | .hole t::r,acc,d,b=>mkC t d.1::qw2 r acc d.2 b
 | .const a::r,acc,d,b=>a::qw2 r acc d b
 | .row _ sz own::r,acc,d,b=>slO b sz d.1 own::qw2 r acc d.2 (b+1)
def qgj:(cs:List CO)→(acc:List Ty)→D (qzg cs acc)→Heap
 |[],_,_=>[]
 | .hole _::r,acc,d=>qgj r acc d.2
 | .const _::r,acc,d=>qgj r acc d
 | .row k _ own::r,acc,d=>some ⟨.row k d.1,own,none⟩::qgj r acc d.2
def qoe:(cs:List CO)→(acc:List Ty)→D (qzg cs acc)→D acc
 |[],_,d=>d
 | .hole _::r,acc,d=>qoe r acc d.2
 | .const _::r,acc,d=>qoe r acc d
 | .row _ _ _::r,acc,d=>qoe r acc d.2
def avsO:(os:List Out)→D (tysO os)→Nat→List AV
 |[],_,_=>[]
 | .ty t::r,d,b=>mkT t d.1::avsO r d.2 b
 | .row _ sz own::r,d,b=>slO b sz d.1 own::avsO r d.2 (b+1)
 | .agg cs::r,d,b=> .agg (qw2 cs (tysO r) d b)::avsO r (qoe cs (tysO r) d) (b+z93 cs)
 | .prow _ _::r,d,b=>avsO r d.2 b
 | .psegs _ cs::r,d,b=>avsO r (qoe cs (tysO r) d) (b+z93 cs)
def qby:(os:List Out)→D (tysO os)→Heap
 |[],_=>[]
 | .ty _::r,d=>qby r d.2
 | .row k _ own::r,d=>some ⟨.row k d.1,own,none⟩::qby r d.2
 | .agg cs::r,d=>qgj cs (tysO r) d++qby r (qoe cs (tysO r) d)
 | .prow _ _::r,d=>qby r d.2
 | .psegs _ cs::r,d=>qgj cs (tysO r) d++qby r (qoe cs (tysO r) d)
def upsO:(os:List Out)→D (tysO os)→Nat→List (Nat×Cont)
 |[],_,_=>[]
 | .ty _::r,d,b=>upsO r d.2 b
 | .row _ _ _::r,d,b=>upsO r d.2 (b+1)
 | .agg cs::r,d,b=>upsO r (qoe cs (tysO r) d) (b+z93 cs)
 | .prow pin k::r,d,b=>(pin,.row k d.1)::upsO r d.2 b
 | .psegs pin cs::r,d,b=>(pin,.segs (qw2 cs (tysO r) d b))::upsO r (qoe cs (tysO r) d) (b+z93 cs)
theorem qla:∀{cs:List CO} {acc:List Ty} {d:D (qzg cs acc)},(qgj cs acc d).length=z93 cs
 |[],_,_=>rfl
 | .hole _::r,acc,d=>qla (cs:=r) (d:=d.2)
 | .const _::r,acc,d=>qla (cs:=r) (d:=d)
 | .row _ _ _::r,acc,d=>by simp[qgj,z93,qla (cs:=r) (d:=d.2)]
theorem qhw:∀{cs:List CO} {acc:List Ty} {d:D (qzg cs acc)},∀x∈qgj cs acc d,x≠none
 |[],_,_=>by simp[qgj]
 | .hole _::r,acc,d=>qhw (cs:=r) (d:=d.2)
 | .const _::r,acc,d=>qhw (cs:=r) (d:=d)
 | .row _ _ _::r,acc,d=>by
  intro x hx
  simp only[qgj,yr]at hx
  rcases hx with rfl|hx
  ·simp
  ·exact qhw (cs:=r) (d:=d.2) x hx
theorem qlb:∀{os:List Out} {d:D (tysO os)},∀x∈qby os d,x≠none
 |[],_=>by simp[qby]
 | .ty _::r,d=>qlb (os:=r) (d:=d.2)
 | .row _ _ _::r,d=>by
  intro x hx
  simp only[qby,yr]at hx
  rcases hx with rfl|hx
  ·simp
  ·exact qlb (os:=r) (d:=d.2) x hx
 | .agg cs::r,d=>by
  intro x hx
  simp only[qby,yk]at hx
  rcases hx with hx|hx
  ·exact qhw x hx
  ·exact qlb x hx
 | .prow _ _::r,d=>qlb (os:=r) (d:=d.2)
 | .psegs _ cs::r,d=>by
  intro x hx
  simp only[qby,yk]at hx
  rcases hx with hx|hx
  ·exact qhw x hx
  ·exact qlb x hx
theorem zmc{os:List Out}{d:D (tysO os)}(i:Nat)(hi:i<(qby os d).length):(qby os d)[i]≠none:=qlb _ (List.getElem_mem hi)
def z1s:Heap→Nat→Nat→Option Nat
 |[],_,_=>none
 |o::r,k,i=>match o with
  |some ob=>if ob.pin=some k then some i else z1s r k (i+1)
  |none=>z1s r k (i+1)
theorem qzh:∀{H:Heap} {k i b:Nat},z1s H k i=some b→i≤b∧∃o,H[b-i]? =some (some o)∧o.pin=some k
 |[],k,i,b,h=>by cases h
 |o::r,k,i,b,h=>by
  have next:z1s r k (i+1)=some b→i≤b∧∃o',(o::r)[b-i]? =some (some o')∧o'.pin=some k:=by
   intro h
   obtain⟨h1,o',h2,h3⟩:=qzh h
   refine⟨by omega,o',?_,h3⟩
   rw[show b-i=(b-(i+1))+1 by omega]
   simpa using h2
  unfold z1s at h
  split at h
  ·rename_i ob
   split at h
   ·rename_i hk
    cases h
    exact⟨w8 _,ob,by simp,hk⟩
   ·exact next h
  ·exact next h
def zoi(H:Heap)(k:IntKind)(sz:Nat)(own:Bool)(x:AV)(used:List Nat):Option (LI×List Nat):=
 match x with
 | .nils=>if 1≤sz then some ([],used)else none
 | .sl b off len s c=>if s=sz∧1≤sz∧used.contains b=false∧(own=true→c= .own)then
   match H[b]? with
   |some (some ⟨_,o,_⟩)=>if own=true→o=true then
     match z0r H (.sl b off len s c)with
     |some (.row k' l)=>if k' =k then some (l,b::used)else none
     |_=>none
    else none
   |_=>none
  else none
 |_=>none
def exCO(H:Heap):(cs:List CO)→(acc:List Ty)→(List Nat→Option (D acc))→List AV→List Nat→Option (D (qzg cs acc))
 |[],_,rest,[],used=>rest used
 | .hole t::r,acc,rest,xs,used=>match popC t xs with
  |some (v,ys)=>match exCO H r acc rest ys used with
   |some d=>some (v,d)
   |none=>none
  |none=>none
 | .const a::r,acc,rest,x::xs,used=>if zcq a x then exCO H r acc rest xs used else none
 | .row k sz own::r,acc,rest,x::xs,used=>match zoi H k sz own x used with
  |some (l,used')=>match exCO H r acc rest xs used' with
   |some d=>some (l,d)
   |none=>none
  |none=>none
 |_,_,_,_,_=>none
def exO(H:Heap)(kept:List Nat):(os:List Out)→List AV→List Nat→Option (D (tysO os))
 |[],[],_=>some ()
 | .ty t::r,x::xs,used=>match getT t x,exO H kept r xs used with
  |some v,some d=>some (v,d)
  |_,_=>none
 | .row k sz own::r,x::xs,used=>match zoi H k sz own x used with
  |some (l,used')=>match exO H kept r xs used' with
   |some d=>some (l,d)
   |none=>none
  |none=>none
 | .agg cs::r,x::xs,used=>match x with
  | .agg ys=>exCO H cs (tysO r) (exO H kept r xs) ys used
  |_=>none
 | .prow pin k::r,xs,used=>match z1s H pin 0 with
  |some b=>match H[b]? with
   |some (some ⟨.row k' l,true,_⟩)=>if k' =k∧kept.contains b=true then(match exO H kept r xs used with|some d=>some (l,d)|none=>none)else none
   |_=>none
  |none=>none
 | .psegs pin cs::r,xs,used=>match z1s H pin 0 with
  |some b=>match H[b]? with
   |some (some ⟨.segs ys,true,_⟩)=>if kept.contains b=true then exCO H cs (tysO r) (exO H kept r xs) ys used else none
   |_=>none
  |none=>none
 |_,_,_=>none
def z53(H:Heap):List Out→List Nat
 |[]=>[]
 | .prow pin _::r=>(match z1s H pin 0 with|some b=>[b]|none=>[])++z53 H r
 | .psegs pin _::r=>(match z1s H pin 0 with|some b=>[b]|none=>[])++z53 H r
 |_::r=>z53 H r
structure News (B:Base) (w:World) (N:List Place) (H:Heap):Prop where
 len:N.length=H.length
 obj:∀(i:Nat) (o:AObj),H[i]? =some (some o)→o.pin=none∧(∃k l,o.c= .row k l)∧∃pl,N[i]? =some pl∧qj4 [] o pl B w∧(pl.nil=false→B.vis pl.blk)
 sep:∀(i j:Nat) (oi oj:AObj) (pi pj:Place),H[i]? =some (some oi)→H[j]? =some (some oj)→N[i]? =some pi→N[j]? =some pj→i≠j→oi.own=true→pi.nil=false→pj.nil=false→pi.blk≠pj.blk
def qx6:List CO→Bool
 |[]=>false
 | .hole t::r=>t.deep||qx6 r
 |_::r=>qx6 r
def qqs:List Out→Bool
 |[]=>false
 | .ty t::r=>t.deep||qqs r
 | .agg cs::r=>qx6 cs||qqs r
 | .psegs _ cs::r=>qx6 cs||qqs r
 |_::r=>qqs r
def fzH(os:List Out):Heap:=if qqs os then[none]else[]
def zoj(B:Base)(w:World)(os:List Out)(d:D (tysO os))(vs:List Value):Prop:=
 ∃N F:List Place,News B w N (qby os d)∧F.length=(fzH os).length∧(∀k ob,¬FzAt N k ob)∧
  (∀k ob,FzAt F k ob→w.heap[k]? =some ob∧B.vis k∧(B.w k∨B.f k))∧
  (∀(i:Nat) (pi:Place) (oi:AObj),N[i]? =some pi→(qby os d)[i]? =some (some oi)→oi.own=true→pi.nil=false→¬B.f pi.blk∧∀ob,¬FzAt F pi.blk ob)∧
  (∀M:List Place,RelL (M++(N++F)) (avsO os d M.length) vs)∧
  ∀(M:List Place) (pin:Nat) (c:Cont),(pin,c)∈upsO os d M.length→∃pl,B.pin pin pl∧qj4 (M++(N++F)) ⟨c,true,none⟩ pl B w∧
   (∀(i:Nat) (pi:Place),N[i]? =some pi→pi.nil=false→pl.nil=false→pi.blk≠pl.blk)∧(pl.nil=false→∀ob,¬FzAt F pl.blk ob)
theorem News.nil(B:Base)(w:World):News B w [] []:=⟨rfl,fun i o h=>(by simp at h),fun i j oi oj pi pj h=>(by simp at h)⟩
def IntoB(M:List Place)(H:Heap)(used:List Nat)(N:List Place)(Hn:Heap):Prop:=
 ∀(i:Nat) (pi:Place) (oi:AObj),N[i]? =some pi→Hn[i]? =some (some oi)→pi.nil=false→∃b o p,b∈used∧H[b]? =some (some o)∧M[b]? =some p∧p.nil=false∧pi.blk=p.blk∧(oi.own=true→o.own=true)
def FromB(M:List Place)(H:Heap)(used:List Nat)(N:List Place)(Hn:Heap):Prop:=
 ∀(i:Nat) (pi:Place) (oi:AObj),N[i]? =some pi→Hn[i]? =some (some oi)→pi.nil=false→∃b o p,b∉used∧H[b]? =some (some o)∧M[b]? =some p∧p.nil=false∧pi.blk=p.blk∧(oi.own=true→o.own=true)
theorem News.append{B:Base}{w:World}{M:List Place}{H:Heap}(hH:RelH M H B w){N1 N2:List Place}{H1 H2:Heap}{used used2:List Nat}(h1:News B w N1 H1)(h2:News B w N2 H2)(f1:FromB M H used N1 H1)(f2:FromB M H used2 N2 H2)
  (hu:IntoB M H used2 N1 H1):News B w (N1++N2) (H1++H2):=by
 have hl:=h1.len
 have part:∀(i:Nat) (o:AObj),(H1++H2)[i]? =some (some o)→(i<N1.length∧H1[i]? =some (some o)∧(N1++N2)[i]? =N1[i]?)∨(N1.length≤i∧H2[i-N1.length]? =some (some o)∧(N1++N2)[i]? =N2[i-N1.length]?):=by
  intro i o h
  by_cases hi:i<N1.length
  ·rw[yg (by omega)]at h
   exact .inl ⟨hi,h,yg hi⟩
  ·rw[w6 (by omega)]at h
   rw[←hl]at h
   exact .inr ⟨by omega,h,w6 (by omega)⟩
 have cross:∀(i j:Nat) (oi oj:AObj) (pi pj:Place),N1[i]? =some pi→H1[i]? =some (some oi)→N2[j]? =some pj→H2[j]? =some (some oj)→(oi.own=true∨oj.own=true)→pi.nil=false→pj.nil=false→pi.blk≠pj.blk:=by
  intro i j oi oj pi pj a1 a2 b1 b2 ho n1 n2
  obtain⟨b,o,p,c1,c2,c3,c4,c5,c6⟩:=hu i pi oi a1 a2 n1
  obtain⟨b',o',p',e1,e2,e3,e4,e5,e6⟩:=f2 j pj oj b1 b2 n2
  have hne:b≠b' :=fun e=>e1 (e▸c1)
  rw[c5,e5]
  rcases ho with ho|ho
  ·exact hH.sep b b' o o' p p' c2 e2 c3 e3 hne (c6 ho) c4 e4
  ·exact fun e=>hH.sep b' b o' o p' p e2 c2 e3 c3 (fun e=>hne e.symm) (e6 ho) e4 c4 e.symm
 refine⟨by simp[hl,h2.len],fun i o h=> ?_,fun i j oi oj pi pj hi hj hpi hpj hne how hni hnj=> ?_⟩
 ·rcases part i o h with⟨_,g1,g2⟩|⟨_,g1,g2⟩
  ·obtain⟨a1,a2,pl,a3,a4⟩:=h1.obj i o g1
   exact⟨a1,a2,pl,by rw[g2];exact a3,a4⟩
  ·obtain⟨a1,a2,pl,a3,a4⟩:=h2.obj _ o g1
   exact⟨a1,a2,pl,by rw[g2];exact a3,a4⟩
 ·rcases part i oi hi with⟨l1,g1,g2⟩|⟨l1,g1,g2⟩<;>rcases part j oj hj with⟨l2,k1,k2⟩|⟨l2,k1,k2⟩
  ·exact h1.sep i j oi oj pi pj g1 k1 (by rw[←g2];exact hpi) (by rw[←k2];exact hpj) hne how hni hnj
  ·exact cross i _ oi oj pi pj (by rw[←g2];exact hpi) g1 (by rw[←k2];exact hpj) k1 (.inl how) hni hnj
  ·exact fun e=>cross j _ oj oi pj pi (by rw[←k2];exact hpj) k1 (by rw[←g2];exact hpi) g1 (.inr how) hnj hni e.symm
  ·exact h2.sep _ _ oi oj pi pj g1 k1 (by rw[←g2];exact hpi) (by rw[←k2];exact hpj) (by omega) how hni hnj
theorem z54{M:List Place}{H:Heap}{B:Base}{w:World}(hH:RelH M H B w){k:IntKind}{sz:Nat}{own:Bool}{x:AV}{used used' :List Nat}{l:LI}(h:zoi H k sz own x used=some (l,used')){v:Value}(hx:RelV M x v):
  ∃pl,pl.fz=noFz∧News B w [pl] [some ⟨.row k l,own,none⟩]∧FromB M H used [pl] [some ⟨.row k l,own,none⟩]∧(∀b∈used,b∈used')∧
   IntoB M H used' [pl] [some ⟨.row k l,own,none⟩]∧
   ∀M' :List Place,∀b,M'[b]? =some pl→RelV M' (slO b sz l own) v:=by
 have one:∀(pl:Place),qj4 [] ⟨.row k l,own,none⟩ pl B w→(pl.nil=false→B.vis pl.blk)→News B w [pl] [some ⟨.row k l,own,none⟩]:=by
  intro pl h1 h2
  refine⟨rfl,fun i o ho=> ?_,fun i j oi oj pi pj hi hj _ _ hne=> ?_⟩
  ·cases i with
   |zero=>simp at ho;subst ho;exact⟨rfl,⟨k,l,rfl⟩,pl,rfl,h1,h2⟩
   |succ i=>simp at ho
  ·have h1:=(List.getElem?_eq_some_iff.1 hi).1
   have h2:=(List.getElem?_eq_some_iff.1 hj).1
   simp at h1 h2
   omega
 have at0:∀(pl pi:Place) (oi:AObj) (i:Nat),[pl][i]? =some pi→[some (⟨.row k l,own,none⟩:AObj)][i]? =some (some oi)→pi=pl∧oi=⟨.row k l,own,none⟩:=by
  intro pl pi oi i h1 h2
  cases i with
  |zero=>simp at h1 h2;exact⟨h1.symm,h2.symm⟩
  |succ i=>simp at h1
 unfold zoi at h
 split at h
 ·split at h
  ·rename_i hs
   cases h
   have hv:v= .slice none 0 0:=by simpa[RelV,RelX]using hx
   subst hv
   refine⟨⟨true,0,0,0,0,noFz⟩,rfl,one _ (.inl ⟨rfl,rfl,by simp[RelO]⟩) (fun h=>(by cases h)),fun i pi oi h1 h2 hn=> ?_,fun b hb=>hb,fun i pi oi h1 h2 hn=> ?_,fun M' b hb=> ?_⟩
   ·rw[(at0 _ _ _ _ h1 h2).1]at hn;cases hn
   ·rw[(at0 _ _ _ _ h1 h2).1]at hn;cases hn
   ·unfold slO
    rw[qms (n:=([]:LI).length) (len:=0) (by simp) hs]
    simp only[RelV,RelX]
    exact⟨⟨true,0,0,0,0,noFz⟩,none,0,hb,rfl,by simp,w8 _,fun _=>⟨fun _=>rfl,rfl⟩,fun h=>(by cases h),fun hf=>(by cases own<;>simp at hf),fun _=>⟨trivial,rfl,by simp,by simp⟩,fun _=>⟨trivial,by simp⟩,by rw[has_iff];simp[loB,hiB]⟩
  ·cases h
 ·rename_i b off len s c
  split at h
  ·rename_i hcond
   obtain⟨rfl,hs,hnu,hco⟩:=hcond
   split at h
   ·rename_i oc o op hob
    split at h
    ·rename_i hoo
     split at h
     ·rename_i k' l' hwc
      split at h
      ·rename_i hk
       subst hk
       cases h
       obtain⟨us,hus,lus⟩:=ql8 hH hx hwc (fun _ _ _ _ _ e=>by cases e;rfl)
       obtain⟨pl0,hpl0,hok0⟩:=hH.obj b _ hob
       have hx0:=hx
       simp only[RelV,RelX]at hx0
       obtain⟨pl,A,cap,hpl,hv,hb,hcap,hnil,hnn,hfull,hown,hwhole,hhas⟩:=hx0
       rw[hpl0]at hpl
       cases hpl
       have hv:v= .slice A len cap:=by simpa using hv
       have hlus:=lus.1
       simp only[qgu]at hlus
       have hll:l.length=len*s:=by have:=congrArg ya hus.1;simp at this;omega
       have hdiv:=qms hll hs
       have hnb:b∉used:=fun hm=>by
        have:used.contains b=true:=by simpa using hm
        rw[this]at hnu;cases hnu
       have off0:own=true→off=0∧pl0.off=0∧len*s=pl0.n∧cap*s≤pl0.size:=fun ho=>hown (hco ho)
       refine⟨⟨pl0.nil,pl0.blk,pl0.off+off,len*s,pl0.size,noFz⟩,rfl,one _ ?_ (fun hn=>hH.vis b _ pl0 hob hpl0 hn),fun i pi oi h1 h2 hn=> ?_,fun b' hb' =>by simp[hb'],fun i pi oi h1 h2 hn=> ?_,fun M' b' hb' => ?_⟩
       ·cases hn:pl0.nil with
        |true=>
         have h1:=(hnil hn).2
         have hl0:len=0:=by omega
         have:l=[]:=List.eq_nil_of_length_eq_zero (by rw[hll];simp[hl0])
         subst this
         exact .inl ⟨rfl,by simp[hl0],by simp[RelO]⟩
        |false=>
         rcases hok0 with⟨n1,_⟩|⟨_,cs,el,fz,g1,g2,g3,g4,g5⟩
         ·rw[hn]at n1;cases n1
         ·refine .inr ⟨rfl,cs,el,fz,g1,g2,by simp only;omega,?_,fun ho=> ?_⟩
          ·simp only
           have hu:us=(cs.toList.drop (pl0.off+off)).take (len*s):=by
            obtain⟨_,A2,cap2,hv2,_,hm⟩:=lus
            simp only[qgu]at hv2 hm
            by_cases hz:len*s=0
            ·rw[hz]at hlus⊢
             have:us=[]:=List.eq_nil_of_length_eq_zero hlus
             rw[this];simp
            ·rcases hm with hm|⟨blk,o2,cs2,el2,fz2,e,hg2,hle2,hus2⟩
             ·exact absurd hm hz
             ·have hl0:0<len:=by
               rcases Nat.eq_zero_or_pos len with h0|h0
               ·rw[h0]at hz;simp at hz
               ·exact h0
              have hA:=(hnn hn).2 (.inl hl0)
              rw[hv]at hv2
              injection hv2 with e1
              rw[←e1,hA]at e
              injection e with e
              injection e with e2 e3
              rw[←e2,g1]at hg2
              cases hg2
              rw[hus2,←e3]
           rw[←hu]
           exact hus
          ·simp only at ho
           obtain⟨z1,z2,z3⟩:=g5 (hoo ho)
           obtain⟨y1,y2,y3,y4⟩:=off0 ho
           exact⟨z1,by simp[y1,y2],z3⟩
       ·obtain⟨e1,e2⟩:=at0 _ _ _ _ h1 h2
        subst e1;subst e2
        exact⟨b,_,pl0,hnb,hob,hpl0,hn,rfl,hoo⟩
       ·obtain⟨e1,e2⟩:=at0 _ _ _ _ h1 h2
        subst e1;subst e2
        exact⟨b,_,pl0,by simp,hob,hpl0,hn,rfl,hoo⟩
       ·unfold slO
        rw[hdiv]
        simp only[RelV,RelX]
        refine⟨⟨pl0.nil,pl0.blk,pl0.off+off,len*s,pl0.size,noFz⟩,A,cap,hb',by rw[hv],by simp,hcap,fun hn=>⟨fun hf=> ?_,(hnil hn).2⟩,fun hn=>⟨(hnn hn).1,fun hq=> ?_⟩,fun hf=>(by cases own<;>simp at hf),fun hf=> ?_,fun _=>⟨trivial,rfl⟩,hhas⟩
        ·exact(hnil hn).1 (hco (by cases own with|true=>rfl|false=>simp at hf))
        ·have h1:0<len∨c= .own:=by
          rcases hq with hq|hq
          ·exact .inl hq
          ·exact .inr (hco (by cases own with|true=>rfl|false=>simp at hq))
         simpa using(hnn hn).2 h1
        ·have ho:own=true:=by cases own with|true=>rfl|false=>simp at hf
         obtain⟨y1,y2,y3,y4⟩:=off0 ho
         exact⟨trivial,by simp[y1,y2],rfl,y4⟩
      ·cases h
     ·cases h
    ·cases h
   ·cases h
  ·cases h
 ·cases h
theorem FromB.append{M:List Place}{H:Heap}{used used2:List Nat}{N1 N2:List Place}{H1 H2:Heap}(hl:N1.length=H1.length)(f1:FromB M H used N1 H1)(f2:FromB M H used2 N2 H2)(hu:∀b∈used,b∈used2):FromB M H used (N1++N2) (H1++H2):=by
 intro i pi oi h1 h2 hn
 by_cases hi:i<N1.length
 ·rw[yg hi]at h1
  rw[yg (by omega)]at h2
  exact f1 i pi oi h1 h2 hn
 ·rw[w6 (by omega)]at h1
  rw[w6 (by omega),←hl]at h2
  obtain⟨b,o,p,a1,a2⟩:=f2 _ pi oi h1 h2 hn
  exact⟨b,o,p,fun h=>a1 (hu b h),a2⟩
theorem IntoB.append{M:List Place}{H:Heap}{used used2:List Nat}{N1 N2:List Place}{H1 H2:Heap}(hl:N1.length=H1.length)(f1:IntoB M H used N1 H1)(f2:IntoB M H used2 N2 H2)(hu:∀b∈used,b∈used2):IntoB M H used2 (N1++N2) (H1++H2):=by
 intro i pi oi h1 h2 hn
 by_cases hi:i<N1.length
 ·rw[yg hi]at h1
  rw[yg (by omega)]at h2
  obtain⟨b,o,p,a1,a2⟩:=f1 i pi oi h1 h2 hn
  exact⟨b,o,p,hu b a1,a2⟩
 ·rw[w6 (by omega)]at h1
  rw[w6 (by omega),←hl]at h2
  exact f2 _ pi oi h1 h2 hn
theorem FromB.nil(M:List Place)(H:Heap)(used:List Nat):FromB M H used [] []:=fun i pi oi h=>by simp at h
theorem IntoB.nil(M:List Place)(H:Heap)(used:List Nat):IntoB M H used [] []:=fun i pi oi h=>by simp at h
theorem qhk{M:List Place}{H:Heap}{B:Base}{w:World}(hH:RelH M H B w):∀{cs:List CO} {acc:List Ty} {rest:List Nat→Option (D acc)} {xs:List AV} {vs:List Value} {used:List Nat} {d:D (qzg cs acc)},exCO H cs acc rest xs used=some d→RelC M xs vs→
  ∃N used',(∀k ob,¬FzAt N k ob)∧News B w N (qgj cs acc d)∧FromB M H used N (qgj cs acc d)∧(∀b∈used,b∈used')∧IntoB M H used' N (qgj cs acc d)∧
   (∀M' Nr:List Place,(qx6 cs=true→FzSub M Nr)→RelC (M' ++N++Nr) (qw2 cs acc d M'.length) vs)∧rest used' =some (qoe cs acc d)
 |[],acc,rest,xs,vs,used,d,h,hr=>by
  cases xs with
  |nil=>
   simp only[exCO]at h
   rw[RelC_nil]at hr
   exact⟨[],used,fun k ob h=>FzAt.nil h,News.nil B w,FromB.nil _ _ _,fun b hb=>hb,IntoB.nil _ _ _,fun M' Nr _=>by simp only[qw2];rw[RelC_nil];exact hr,h⟩
  |cons _ _=>simp[exCO]at h
 | .hole ty::cs,acc,rest,xs,vs,used,d,h,hr=>by
  simp only[exCO]at h
  split at h
  ·rename_i v ys hp
   split at h
   ·rename_i d' hd
    cases h
    obtain⟨a,r,rfl,h1,h2⟩:=z3z (M' :=M) (fun _=>FzSub.refl M) hp hr
    obtain⟨N,used',a0,a1,a2,a3,a4,a5,a6⟩:=qhk hH hd h2
    exact⟨N,used',a0,a1,a2,a3,a4,fun M' Nr hz=>RelC_cons.2 ⟨a,r,rfl,zky (fun hd k ob h=>FzAt.right _ (hz (by simp[qx6,hd]) k ob h)) h1,a5 M' Nr fun hd=>hz (by simp[qx6,hd])⟩,a6⟩
   ·cases h
  ·cases h
 | .const _::cs,acc,rest,[],vs,used,d,h,hr=>by simp[exCO]at h
 | .row _ _ _::cs,acc,rest,[],vs,used,d,h,hr=>by simp[exCO]at h
 |c::cs,acc,rest,x::xs,vs,used,d,h,hr=>by
  obtain⟨u,r,rfl,hx,hr'⟩:=RelC_cons.1 hr
  cases c with
  |hole ty=>
   simp only[exCO]at h
   split at h
   ·rename_i v ys hp
    split at h
    ·rename_i d' hd
     cases h
     obtain⟨a,r',e,h1,h2⟩:=z3z (M' :=M) (fun _=>FzSub.refl M) hp hr
     obtain⟨N,used',a0,a1,a2,a3,a4,a5,a6⟩:=qhk hH hd h2
     exact⟨N,used',a0,a1,a2,a3,a4,fun M' Nr hz=>RelC_cons.2 ⟨a,r',e,zky (fun hd k ob h=>FzAt.right _ (hz (by simp[qx6,hd]) k ob h)) h1,a5 M' Nr fun hd=>hz (by simp[qx6,hd])⟩,a6⟩
    ·cases h
   ·cases h
  |const k=>
   simp only[exCO]at h
   split at h
   ·rename_i hs
    obtain⟨N,used',a0,a1,a2,a3,a4,a5,a6⟩:=qhk hH h hr'
    have:∃v,u=[v]:=by
     have hl:=q1o hx
     have:qdz x=1:=by
      cases x<;>first|rfl|(exfalso;cases k<;>simp[zcq]at hs)
     rw[this]at hl
     exact List.length_eq_one_iff.1 hl
    obtain⟨v,rfl⟩:=this
    exact⟨N,used',a0,a1,a2,a3,a4,fun M' Nr hz=>RelC_cons.2 ⟨[v],r,rfl,qx3 hs hx,a5 M' Nr hz⟩,a6⟩
   ·cases h
  |row k sz own=>
   simp only[exCO]at h
   split at h
   ·rename_i l used1 hrow
    split at h
    ·rename_i d' hd
     cases h
     have:∃v,u=[v]:=by
      have hl:=q1o hx
      have:qdz x=1:=by
       unfold zoi at hrow
       split at hrow<;>first|rfl|(cases hrow)
      rw[this]at hl
      exact List.length_eq_one_iff.1 hl
     obtain⟨v,rfl⟩:=this
     obtain⟨pl,b0,b1,b2,b3,b4,b5⟩:=z54 hH hrow hx
     obtain⟨N,used',a0,a1,a2,a3,a4,a5,a6⟩:=qhk hH hd hr'
     refine⟨[pl]++N,used',fun k ob h=>(h.append).elim (fun h=>FzAt.nil (FzAt.snoc (M:=[]) b0 h)) (a0 k ob),?_,?_,fun b hb=>a3 b (b3 b hb),?_,fun M' Nr hz=> ?_,a6⟩
     ·exact News.append hH (H1:=[some ⟨.row k l,own,none⟩]) b1 a1 b2 a2 b4
     ·exact FromB.append (H1:=[some ⟨.row k l,own,none⟩]) rfl b2 a2 b3
     ·exact IntoB.append (H1:=[some ⟨.row k l,own,none⟩]) rfl b4 a4 a3
     ·have:=a5 (M' ++[pl]) Nr hz
      rw[yo]at this
      refine RelC_cons.2 ⟨[v],r,rfl,b5 _ _ (by simp),?_⟩
      simpa using this
    ·cases h
   ·cases h
theorem qlc{M:List Place}{H:Heap}{B:Base}{w:World}(hH:RelH M H B w){kept:List Nat}:∀{os:List Out} {xs:List AV} {used:List Nat} {d:D (tysO os)} {vs:List Value},exO H kept os xs used=some d→RelL M xs vs→(∀b∈kept,b∈used)→
  ∃N,(∀k ob,¬FzAt N k ob)∧News B w N (qby os d)∧FromB M H used N (qby os d)∧(∀M' Nr:List Place,(qqs os=true→FzSub M Nr)→RelL (M' ++N++Nr) (avsO os d M'.length) vs)∧
   ∀(M' Nr:List Place),(qqs os=true→FzSub M Nr)→∀(pin:Nat) (c:Cont),(pin,c)∈upsO os d M'.length→∃pl b o,B.pin pin pl∧qj4 (M' ++N++Nr) ⟨c,true,none⟩ pl B w∧b∈kept∧H[b]? =some (some o)∧o.own=true∧M[b]? =some pl
 |[],xs,used,d,vs,h,hl,hk=>by
  cases xs with
  |nil=>
   rw[RelL_nil]at hl
   exact⟨[],fun k ob h=>FzAt.nil h,News.nil B w,FromB.nil _ _ _,fun M' Nr _=>by simp only[avsO];rw[RelL_nil];exact hl,fun M' Nr _ pin c hm=>by simp[upsO]at hm⟩
  |cons _ _=>simp[exO]at h
 | .ty t::r,[],used,d,vs,h,hl,hk=>by simp[exO]at h
 | .row k sz own::r,[],used,d,vs,h,hl,hk=>by simp[exO]at h
 | .agg cs::r,[],used,d,vs,h,hl,hk=>by simp[exO]at h
 | .ty t::r,x::xs,used,d,vs,h,hl,hk=>by
  simp only[exO]at h
  split at h
  ·rename_i v d' hv hd
   cases h
   obtain⟨u,vs',rfl,hx,hr⟩:=RelL_cons.1 hl
   obtain⟨N,a0,a1,a2,a3,a4⟩:=qlc hH hd hr hk
   exact⟨N,a0,a1,a2,fun M' Nr hz=>RelL_cons.2 ⟨u,vs',rfl,zkw (fun hd k ob h=>FzAt.right _ (hz (by simp[qqs,hd]) k ob h)) hv hx,a3 M' Nr fun hd=>hz (by simp[qqs,hd])⟩,fun M' Nr hz=>a4 M' Nr fun hd=>hz (by simp[qqs,hd])⟩
  ·cases h
 | .row k sz own::r,x::xs,used,d,vs,h,hl,hk=>by
  simp only[exO]at h
  split at h
  ·rename_i l used1 hrow
   split at h
   ·rename_i d' hd
    cases h
    obtain⟨u,vs',rfl,hx,hr⟩:=RelL_cons.1 hl
    obtain⟨pl,b0,b1,b2,b3,b4,b5⟩:=z54 hH hrow hx
    obtain⟨N,a0,a1,a2,a3,a4⟩:=qlc hH hd hr (fun b hb=>b3 b (hk b hb))
    refine⟨[pl]++N,fun k ob h=>(h.append).elim (fun h=>FzAt.nil (FzAt.snoc (M:=[]) b0 h)) (a0 k ob),?_,?_,fun M' Nr hz=> ?_,fun M' Nr hz pin c hm=> ?_⟩
    ·exact News.append hH (H1:=[some ⟨.row k l,own,none⟩]) b1 a1 b2 a2 b4
    ·exact FromB.append (H1:=[some ⟨.row k l,own,none⟩]) rfl b2 a2 b3
    ·have:=a3 (M' ++[pl]) Nr hz
     rw[yo]at this
     refine RelL_cons.2 ⟨u,vs',rfl,b5 _ _ (by simp),?_⟩
     simpa using this
    ·have:=a4 (M' ++[pl]) Nr hz pin c (by rw[yo];simpa[upsO]using hm)
     simpa using this
   ·cases h
  ·cases h
 | .agg cs::r,x::xs,used,d,vs,h,hl,hk=>by
  simp only[exO]at h
  split at h
  ·rename_i ys
   obtain⟨u,vs',rfl,hx,hr⟩:=RelL_cons.1 hl
   obtain⟨us,hu,hc⟩:=RelX_agg.1 hx
   obtain⟨N1,used1,b0,b1,b2,b3,b4,b5,b6⟩:=qhk hH h hc
   obtain⟨N,a0,a1,a2,a3,a4⟩:=qlc hH b6 hr (fun b hb=>b3 b (hk b hb))
   have hln:N1.length=z93 cs:=by rw[b1.len,qla]
   refine⟨N1++N,fun k ob h=>(h.append).elim (b0 k ob) (a0 k ob),News.append hH b1 a1 b2 a2 b4,FromB.append b1.len b2 a2 b3,fun M' Nr hz=> ?_,fun M' Nr hz pin c hm=> ?_⟩
   ·refine RelL_cons.2 ⟨u,vs',rfl,RelX_agg.2 ⟨us,hu,?_⟩,?_⟩
    ·have:=b5 M' (N++Nr) (fun hd k ob h=>FzAt.right _ (hz (by simp[qqs,hd]) k ob h))
     simpa using this
    ·have:=a3 (M' ++N1) Nr (fun hd=>hz (by simp[qqs,hd]))
     rw[yo,hln]at this
     simpa using this
   ·have:=a4 (M' ++N1) Nr (fun hd=>hz (by simp[qqs,hd])) pin c (by rw[yo,hln];simpa[upsO]using hm)
    simpa using this
  ·cases h
 | .prow pin k::r,xs,used,d,vs,h,hl,hk=>by
  simp only[exO]at h
  split at h
  ·rename_i b hb
   split at h
   ·rename_i k' l pn hob
    split at h
    ·rename_i hc
     obtain⟨rfl,hkb⟩:=hc
     split at h
     ·rename_i d' hd
      cases h
      obtain⟨N,a0,a1,a2,a3,a4⟩:=qlc hH hd hl hk
      refine⟨N,a0,a1,a2,a3,fun M' Nr hz pin' c hm=> ?_⟩
      simp only[upsO,yr,ym]at hm
      rcases hm with⟨rfl,rfl⟩|hm
      ·obtain⟨_,o,ho,hpo⟩:=qzh hb
       rw[Nat.sub_zero,hob]at ho
       cases ho
       obtain⟨pl,hpl,hok⟩:=hH.obj b _ hob
       refine⟨pl,b,_,hH.pin b _ pl _ hob hpl hpo,?_,by simpa using hkb,hob,rfl,hpl⟩
       rcases hok with⟨n1,n2,n3⟩|⟨n1,cs',el,fz,g1,g2,g3,g4,g5⟩
       ·exact .inl ⟨n1,n2,n3⟩
       ·exact .inr ⟨n1,cs',el,fz,g1,g2,g3,g4,g5⟩
      ·exact a4 M' Nr hz pin' c hm
     ·cases h
    ·cases h
   ·cases h
  ·cases h
 | .psegs pin cs::r,xs,used,d,vs,h,hl,hk=>by
  simp only[exO]at h
  split at h
  ·rename_i b hb
   split at h
   ·rename_i ys pn hob
    split at h
    ·rename_i hkb
     obtain⟨_,o,ho,hpo⟩:=qzh hb
     rw[Nat.sub_zero,hob]at ho
     cases ho
     obtain⟨pl,hpl,hok⟩:=hH.obj b _ hob
     have hvs:∃us,RelC M ys us∧(∀M2 ys',RelC M2 ys' us→qj4 M2 ⟨.segs ys',true,none⟩ pl B w):=by
      rcases hok with⟨n1,n2,n3⟩|⟨n1,cs',el,fz,g1,g2,g3,g4,g5⟩
      ·exact⟨_,n3,fun M2 ys' hy=> .inl ⟨n1,n2,hy⟩⟩
      ·exact⟨_,g4,fun M2 ys' hy=> .inr ⟨n1,cs',el,fz,g1,g2,g3,hy,g5⟩⟩
     obtain⟨us,hus,hus2⟩:=hvs
     obtain⟨N1,used1,b0,b1,b2,b3,b4,b5,b6⟩:=qhk hH h hus
     obtain⟨N,a0,a1,a2,a3,a4⟩:=qlc hH b6 hl (fun b hb=>b3 b (hk b hb))
     have hln:N1.length=z93 cs:=by rw[b1.len,qla]
     refine⟨N1++N,fun k ob h=>(h.append).elim (b0 k ob) (a0 k ob),News.append hH b1 a1 b2 a2 b4,FromB.append b1.len b2 a2 b3,fun M' Nr hz=> ?_,fun M' Nr hz pin' c hm=> ?_⟩
     ·have:=a3 (M' ++N1) Nr (fun hd=>hz (by simp[qqs,hd]))
      rw[yo,hln]at this
      simpa[avsO]using this
     ·simp only[upsO,yr,ym]at hm
      rcases hm with⟨rfl,rfl⟩|hm
      ·refine⟨pl,b,_,hH.pin b _ pl _ hob hpl hpo,?_,by simpa using hkb,hob,rfl,hpl⟩
       have:=hus2 _ _ (b5 M' (N++Nr) (fun hd k ob h=>FzAt.right _ (hz (by simp[qqs,hd]) k ob h)))
       simpa using this
      ·have:=a4 (M' ++N1) Nr (fun hd=>hz (by simp[qqs,hd])) pin' c (by rw[yo,hln];exact hm)
       simpa using this
    ·cases h
   ·cases h
  ·cases h
theorem zgr{M:List Place}{H:Heap}{B:Base}{w:World}(hH:RelH M H B w){os:List Out}{xs:List AV}{d:D (tysO os)}{vs:List Value}(h:exO H (z53 H os) os xs (z53 H os)=some d)(hl:RelL M xs vs):zoj B w os d vs:=by
 obtain⟨N,a0,a1,a2,a3,a4⟩:=qlc hH h hl (fun b hb=>hb)
 obtain⟨F,hF,hF1,hF2⟩:∃F:List Place,F.length=(fzH os).length∧(qqs os=true→FzSub M F)∧FzSub F M:=by
  unfold fzH
  split
  ·exact⟨[qvz M],rfl,fun _=>z4y hH,qw0⟩
  ·rename_i hd
   exact⟨[],rfl,fun h=>absurd h hd,fun k ob h=>absurd h FzAt.nil⟩
 have own:∀(i:Nat) (pi:Place) (oi:AObj),N[i]? =some pi→(qby os d)[i]? =some (some oi)→oi.own=true→pi.nil=false→¬B.f pi.blk∧∀ob,¬FzAt F pi.blk ob:=by
  intro i pi oi hpi ho how hn
  obtain⟨b',o',p',e1,e2,e3,e4,e5,e6⟩:=a2 i pi oi hpi ho hn
  obtain⟨f1,f2⟩:=hH.fo b' o' p' e2 e3 (e6 how) e4
  rw[e5]
  exact⟨f1,fun ob h=>f2 ob (hF2 _ _ h)⟩
 refine⟨N,F,a1,hF,a0,fun k ob h=>hH.fz k ob (hF2 k ob h),own,fun M' =>by simpa using a3 M' F hF1,fun M' pin c hm=> ?_⟩
 obtain⟨pl,b,o,c1,c2,c3,c4,c5,c6⟩:=a4 M' F hF1 pin c hm
 refine⟨pl,c1,by simpa using c2,fun i pi hpi hn hn2=> ?_,fun hn ob h=>(hH.fo b o pl c4 c6 c5 hn).2 ob (hF2 _ _ h)⟩
 have hi:i<(qby os d).length:=by rw[←a1.len];exact(List.getElem?_eq_some_iff.1 hpi).1
 cases ho:(qby os d)[i]with
 |none=>exact absurd ho (zmc i hi)
 |some oi=>
  have ho' :(qby os d)[i]? =some (some oi):=by rw[yj hi,ho]
  obtain⟨b',o',p',e1,e2,e3,e4,e5,e6⟩:=a2 i pi oi hpi ho' hn
  rw[e5]
  exact fun e=>hH.sep b b' o o' pl p' c4 e2 c6 e3 (fun e=>e1 (e▸c3)) c5 hn2 e4 e.symm
end Go.AE
namespace Go.AE
open Go Go.RowKit
def qeg(ρ:Type):Env ρ:=⟨fun _=>none,fun _=>none⟩
theorem z55(P:Program)(ρ:Type):EnvOk P (qeg ρ):=⟨fun _ _ h=>(by cases h),fun _ _ h=>(by cases h)⟩
theorem relH_nil(w:World):RelH [] [] (Base.at w.heap.size) w:=⟨rfl,fun k hk=>⟨hk,trivial⟩,fun i o h=>(by simp at h),fun i j oi oj pi pj h=>(by simp at h),fun i o pl k h=>(by simp at h),fun i o pl h=>(by simp at h),fun k ob h=>absurd h FzAt.nil,fun i o pl h=>(by simp at h),fun k hk h=>absurd hk (Nat.not_le_of_lt h)⟩
abbrev M0:List Place:=[⟨true,0,0,0,0,noFz⟩]
abbrev H0:Heap:=[none]
theorem relH_0(w:World):RelH M0 H0 (Base.at w.heap.size) w:=(relH_nil w).addNone _ (fun k ob h=>by cases h)
theorem noOwn_0:∀(i:Nat) (o:AObj),H0[i]? =some (some o)→o.own=false:=fun i o h=>by cases i<;>simp[H0]at h
def zok (P : Program) : Bool := P.funcs.toList.all fun fn => !(fn.body.isSome && decide (fn.name = "runtime.NumGoroutine"))
theorem zja{P:Program}(h:zok P=true):q1w P:=by
 intro g fn hg hb e
 have h1:=List.all_eq_true.1 h fn (by
  have:=Array.mem_of_getElem? hg
  simpa using this)
 simp[hb,e]at h1
theorem has_wf{k:IntKind}{x:Int}(h:(Lit.int k x).wf=true):k.has x:=by
 have:k.min≤x∧x≤k.max:=by simpa[Lit.wf]using h
 exact this
theorem relL_int{M:List Place}{k:IntKind}{x:Int}(h:(Lit.int k x).wf=true){l:List AV}{vs:List Value}(r:RelL M l vs):RelL M (.int k none x::l) (.int k x::vs):=
 RelL_cons.2 ⟨_,_,rfl,by
  simp only[RelX]
  exact⟨trivial,has_wf h,fun m h=>(by cases h)⟩,r⟩
end Go.AE
namespace Go.AE
open Go Go.RowKit
variable {ρ:Type}
def bldS(nt:Nat)(its:List Item)(d:D (tysI its [])):St:=(bldI its [] d (st0 nt)).1
def extS(nt:Nat)(its:List Item)(st:St):Option (D (tysI its [])):=if st.tmps.length=nt then extI st true its [] () [zj9]else none
theorem qmu{M:List Place}{st:St}{B:Base}{w0:World}{a:Go.Act}{w:World}(r:Rel M st B w0 a w){its:List Item}{nt:Nat}{d:D (tysI its [])}(h:extS nt its st=some d):∃M',Rel M' (bldS nt its d) B w0 a w:=by
 unfold extS at h
 split at h
 ·rename_i hn
  exact ext_rel r h hn
 ·cases h
def annS(nt:Nat)(ins outs:List Item)(L:D (tysI ins [])→Option (D (tysI outs []))):Ann ρ:=fun st K=>
 (extS nt ins st).bind fun d=>(L d).bind fun r=>K .normal (bldS nt outs r)
def annX(nt:Nat)(ins outX outs:List Item)(e2:Exit)(L:D (tysI ins [])→Option (D (tysI outX [])⊕D (tysI outs []))):Ann ρ:=fun st K=>
 (extS nt ins st).bind fun d=>(L d).bind fun r=>match r with
  | .inl r=>K e2 (bldS nt outX r)
  | .inr r=>K .normal (bldS nt outs r)
def kS(nt:Nat)(ins outs:List Item)(id:Nat)(L:D (tysI ins [])→Option (D (tysI outs []))):Exit→St→Option (D (tysI outs [])):=fun e st=>match e with
 | .normal=>(extS nt ins st).bind L
 | .exit j=>if j=id then extS nt outs st else none
 |_=>none
def kX(nt:Nat)(ins outX outs:List Item)(id:Nat)(e2:Exit)(L:D (tysI ins [])→Option (D (tysI outX [])⊕D (tysI outs []))):Exit→St→Option (D (tysI outX [])⊕D (tysI outs [])):=fun e st=>match e with
 | .normal=>(extS nt ins st).bind L
 | .exit j=>if j=id then(extS nt outs st).bind fun r=>some (.inr r)else(match e2 with
  | .exit i=>if j=i then(extS nt outX st).bind fun r=>some (.inl r)else none
  |_=>none)
 | .ret=>(match e2 with
  | .ret=>(extS nt outX st).bind fun r=>some (.inl r)
  |_=>none)
 |_=>none
abbrev Cals:=∀(σ:Type),Cal σ
abbrev QCals:=∀(σ:Type),QCal σ
theorem annX_ok{P:Program}(hP:q1w P){cal:Cals}(hcal:∀σ f,qpt P f (cal σ f)){qcal:QCals}(hq:∀σ f,qjh P f (qcal σ f)){nt:Nat}{ins outX outs:List Item}{e2:Exit}{id:Nat}{body:Code}
  {L:Nat→D (tysI ins [])→Option (D (tysI outX [])⊕D (tysI outs []))} {ann:Nat→Option (Ann (D (tysI outX [])⊕D (tysI outs [])))} {B:Base} {w0:World}
  (hann:∀id an c',ann id=some an→(id,c')∈q8o body→qzc P false B w0 (.block id c') an) (h0:∀d,L 0 d=none)
  (hs:∀k d,q6r P (cal _) (qcal _) ann body (bldS nt ins d) (kX nt ins outX outs id e2 (L k))=L (k+1) d) (he:e2= .ret∨∃j,e2= .exit j∧j≠id) (F:Nat):
  qzc (ρ:=ρ) P false B w0 (.block id (.loop body)) (annX nt ins outX outs e2 (L F)):=by
 intro st K r h M a w Q hr hn
 unfold annX at h
 simp only[Option.bind_eq_some_iff]at h
 obtain⟨d,hd,x,hx,hk⟩:=h
 refine wp_block ?_
 obtain⟨M1,hr1⟩:=qmu hr hd
 refine qvy (fun n a' w' =>∃d' M',L n d' =some x∧Rel M' (bldS nt ins d') B w0 a' w') (n:=F) ⟨d,M1,hx,hr1⟩ ?_
 rintro n a1 w1 ⟨d1,M1,h1,hr1⟩
 cases n with
 |zero=>rw[h0]at h1;cases h1
 |succ n=>
  rw[←hs]at h1
  refine qf0 hP (hcal _) (hq _) body hann _ _ h1 M1 a1 w1 _ hr1 fun e M' st' a' w' hE hk' hr' => ?_
  have out1:∀{r'},extS nt outs st' =some r' →x= .inr r' →Q .normal a' w' :=by
   intro r' hr2 hx2
   subst hx2
   obtain⟨M2,hr3⟩:=qmu hr' hr2
   exact hn .normal M2 _ a' w' (fun h=>by cases h) hk hr3
  have out2:∀{r'},extS nt outX st' =some r' →x= .inl r' →Q e2 a' w' :=by
   intro r' hr2 hx2
   subst hx2
   obtain⟨M2,hr3⟩:=qmu hr' hr2
   exact hn e2 M2 _ a' w' (fun h=>by cases h) hk hr3
  cases e with
  |normal=>
   simp only[kX,Option.bind_eq_some_iff]at hk'
   obtain⟨d2,hd2,hL⟩:=hk'
   obtain⟨M2,hr2⟩:=qmu hr' hd2
   exact⟨n,by omega,d2,M2,hL,hr2⟩
  |exit j=>
   simp only[kX]at hk'
   unfold Exit.inBlock
   show if j=id then Q .normal a' w' else Q (.exit j) a' w'
   split at hk'
   ·rename_i hj
    rw[iP hj]
    simp only[Option.bind_eq_some_iff,yf]at hk'
    obtain⟨r',h2,h3⟩:=hk'
    exact out1 h2 h3.symm
   ·rename_i hj
    rw[iN hj]
    split at hk'
    ·split at hk'
     ·rename_i i hi
      simp only[Option.bind_eq_some_iff,yf]at hk'
      obtain⟨r',h2,h3⟩:=hk'
      subst hi
      exact out2 h2 h3.symm
     ·cases hk'
    ·cases hk'
  |ret=>
   simp only[kX]at hk'
   split at hk'
   ·simp only[Option.bind_eq_some_iff,yf]at hk'
    obtain⟨r',h2,h3⟩:=hk'
    exact out2 h2 h3.symm
   ·cases hk'
  |goto l=>simp only[kX]at hk';cases hk'
  |panic ch=>simp only[kX]at hk';cases hk'
  |outgrown=>simp only[kX]at hk';cases hk'
theorem annS_ok{P:Program}(hP:q1w P){cal:Cals}(hcal:∀σ f,qpt P f (cal σ f)){qcal:QCals}(hq:∀σ f,qjh P f (qcal σ f)){nt:Nat}{ins outs:List Item}{id:Nat}{body:Code}
  {L:Nat→D (tysI ins [])→Option (D (tysI outs []))} {ann:Nat→Option (Ann (D (tysI outs [])))} {B:Base} {w0:World}
  (hann:∀id an c',ann id=some an→(id,c')∈q8o body→qzc P false B w0 (.block id c') an) (h0:∀d,L 0 d=none)
  (hs:∀k d,q6r P (cal _) (qcal _) ann body (bldS nt ins d) (kS nt ins outs id (L k))=L (k+1) d) (F:Nat):
  qzc (ρ:=ρ) P false B w0 (.block id (.loop body)) (annS nt ins outs (L F)):=by
 intro st K r h M a w Q hr hn
 unfold annS at h
 simp only[Option.bind_eq_some_iff]at h
 obtain⟨d,hd,x,hx,hk⟩:=h
 refine wp_block ?_
 obtain⟨M1,hr1⟩:=qmu hr hd
 refine qvy (fun n a' w' =>∃d' M',L n d' =some x∧Rel M' (bldS nt ins d') B w0 a' w') (n:=F) ⟨d,M1,hx,hr1⟩ ?_
 rintro n a1 w1 ⟨d1,M1,h1,hr1⟩
 cases n with
 |zero=>rw[h0]at h1;cases h1
 |succ n=>
  rw[←hs]at h1
  refine qf0 hP (hcal _) (hq _) body hann _ _ h1 M1 a1 w1 _ hr1 fun e M' st' a' w' hE hk' hr' => ?_
  cases e with
  |normal=>
   simp only[kS,Option.bind_eq_some_iff]at hk'
   obtain⟨d2,hd2,hL⟩:=hk'
   obtain⟨M2,hr2⟩:=qmu hr' hd2
   exact⟨n,by omega,d2,M2,hL,hr2⟩
  |exit j=>
   simp only[kS]at hk'
   show if j=id then Q .normal a' w' else Q (.exit j) a' w'
   split at hk'
   ·rename_i hj
    rw[iP hj]
    obtain⟨M2,hr3⟩:=qmu hr' hk'
    exact hn .normal M2 _ a' w' (fun h=>by cases h) hk hr3
   ·cases hk'
  |ret=>simp only[kS]at hk';cases hk'
  |goto l=>simp only[kS]at hk';cases hk'
  |panic ch=>simp only[kS]at hk';cases hk'
  |outgrown=>simp only[kS]at hk';cases hk'
def z56:List Item→Bool
 |[]=>true
 | .row _ _ _ own _::r=> !own&&z56 r
 | .drow _ _ own _::r=> !own&&z56 r
 | .segs _ _ own _::r=> !own&&z56 r
 |_::r=>z56 r
def zgs(P:Program)(f:FuncId)(n:Nat)(ins:List Item)(os:List Out)(F:D (tysI ins [])→Option (D (tysO os))):Prop:=
 ∀(d:D (tysI ins [])) (r:D (tysO os)),F d=some r→∀(M:List Place) (B:Base) (w:World) (vs:Array Value),RelL M (bldS n ins d).tmps vs.toList→RelH M (bldS n ins d).heap B w→
  Calls P f vs w fun e w' =>∃rs:Array Value,e= .returned (retV rs)∧Beneath B w w' ∧zoj B w' os r rs.toList
def endO(os:List Out):List AV→Heap→Option (D (tysO os)):=fun l H=>exO H (z53 H os) os l (z53 H os)
theorem zol{P:Program}(hP:q1w P){cal:Cals}(hcal:∀σ f,qpt P f (cal σ f)){qcal:QCals}(hq:∀σ f,qjh P f (qcal σ f)){f:FuncId}{n:Nat}{ins:List Item}{os:List Out}{F:D (tysI ins [])→Option (D (tysO os))}{ann:Nat→Option (Ann (D (tysO os)))}
  (hann:∀fn c,P.funcs[f]? =some fn→fn.body=some c→∀id an c',ann id=some an→(id,c')∈q8o c→∀B w,qzc P false B w (.block id c') an)
  (h:∀d,zbr P (cal _) (qcal _) ann f (bldS n ins d).tmps (bldS n ins d).heap (endO os)=F d):zgs P f n ins os F:=by
 intro d r hd M B w vs hl hH
 rw[←h]at hd
 refine(z0z hP (hcal _) (hq _) (x:=false) hd (fun fn c h1 h2 id an c' h3 h4=>hann fn c h1 h2 id an c' h3 h4 _ _) hl hH).mono ?_
 rintro e w' ⟨rs,l,H',M',rfl,hk,_,hl',hH',hb⟩
 exact⟨rs,rfl,hb,zgr hH' hk hl'⟩
theorem z11{M:List Place}{ts:List AV}{a:Array Value}(h:RelT M ts a):RelL M ts a.toList:=by
 have key:∀(ts:List AV) (vs:List Value),ts.length=vs.length→(∀t,RelV M (ts.getD t .undef) (vs.getD t undef))→RelL M ts vs:=by
  intro ts
  induction ts with
  |nil=>intro vs h _;rw[RelL_nil];exact List.length_eq_zero_iff.1 h.symm
  |cons x ts ih=>
   intro vs h h2
   cases vs with
   |nil=>simp at h
   |cons v vs=>exact RelL_cons.2 ⟨v,vs,rfl,by simpa using h2 0,ih vs (by simpa using h) fun t=>by simpa using h2 (t+1)⟩
 refine key ts a.toList (by simpa using h.1) fun t=> ?_
 have:=h.2 t
 rw[show a.getD t undef=a.toList.getD t undef from by simp[ye,Array.getElem?_toList]]at this
 exact this
def extA(n:Nat)(ins:List Item)(args:List AV)(H:Heap):Option (D (tysI ins [])):=if args.length=n then extI ⟨args,H⟩ false ins [] () [zj9]else none
def Base.anyPin(B:Base):Base:=⟨B.w,B.vis,fun _ _=>True,B.f⟩
theorem RelH.anyPin{M:List Place}{H:Heap}{B:Base}{w:World}(r:RelH M H B w):RelH M H B.anyPin w:=⟨r.len,r.base,r.obj,r.sep,fun _ _ _ _ _ _ _=>trivial,r.vis,r.fz,r.fo,r.bf⟩
theorem zgt{M:List Place}{args:List AV}{H:Heap}{B:Base}{w:World}{vs:Array Value}{n:Nat}{ins:List Item}{d:D (tysI ins [])}(hl:RelL M args vs.toList)(hH:RelH M H B w)(h:extA n ins args H=some d):
  ∃M',Told M ⟨args,H⟩ B.anyPin w vs (zj9::ql9 ⟨args,H⟩ false ins) M' (bldS n ins d):=by
 unfold extA at h
 split at h
 ·rename_i hlen
  have ht:RelT M args vs:=by
   have:=z51 hl 0
   simpa using this
  have hs:n=vs.size:=by rw[←hlen];exact ht.1
  obtain⟨⟨M2,t⟩,_⟩:=q5t (st:=⟨args,H⟩) (B:=B.anyPin) ht hH.anyPin (fun _ _ _=>trivial) (told0 (B:=B.anyPin) (st:=⟨args,H⟩) (a:=vs) hH.anyPin n hs) h
  exact⟨M2,by simpa[bldS]using t⟩
 ·cases h
def qx7:Heap→Bool
 |[]=>true
 |o::r=>(match o with
  |some ob=>match ob.pin with
   |some k=>(z1s r k 0).isNone
   |none=>true
  |none=>true)&&qx7 r
theorem qtn:∀{H:Heap} {k i:Nat},z1s H k i=none→∀(j:Nat) (o:AObj),H[j]? =some (some o)→o.pin≠some k
 |[],_,_,_,j,o,h=>by simp at h
 |x::r,k,i,hn,j,o,h=>by
  unfold z1s at hn
  cases j with
  |zero=>
   simp at h
   subst h
   simp only at hn
   split at hn
   ·cases hn
   ·assumption
  |succ j=>
   have h' :r[j]? =some (some o):=by simpa using h
   cases x with
   |none=>exact qtn hn j o h'
   |some ob=>
    simp only at hn
    split at hn
    ·cases hn
    ·exact qtn hn j o h'
theorem z12:∀{H:Heap},qx7 H=true→∀(i j:Nat) (oi oj:AObj) (k:Nat),H[i]? =some (some oi)→H[j]? =some (some oj)→oi.pin=some k→oj.pin=some k→i=j
 |[],_,i,j,oi,oj,k,h,_,_,_=>by simp at h
 |x::r,hn,i,j,oi,oj,k,hi,hj,h1,h2=>by
  simp only[qx7,yl]at hn
  obtain⟨hx,hr⟩:=hn
  cases i with
  |zero=>
   cases j with
   |zero=>rfl
   |succ j=>
    simp at hi
    subst hi
    simp only[h1,Option.isNone_iff_eq_none]at hx
    exact absurd h2 (qtn hx j oj (by simpa using hj))
  |succ i=>
   cases j with
   |zero=>
    simp at hj
    subst hj
    simp only[h2,Option.isNone_iff_eq_none]at hx
    exact absurd h1 (qtn hx i oi (by simpa using hi))
   |succ j=>
    have:=z12 hr i j oi oj k (by simpa using hi) (by simpa using hj) h1 h2
    omega
def findU:List (Nat×Cont)→Nat→Option Cont
 |[],_=>none
 |(j,c)::r,k=>if j=k then some c else findU r k
theorem zgu:∀{l:List (Nat×Cont)} {k:Nat} {c:Cont},findU l k=some c→(k,c)∈l
 |[],_,_,h=>by cases h
 |(j,c')::r,k,c,h=>by
  unfold findU at h
  split at h
  ·rename_i hj
   cases h
   subst hj
   simp
  ·simp[zgu h]
def updB(ups:List (Nat×Cont))(shared:Bool)(whole:Bool)(o:AObj)(b:Nat)(H:Heap):Heap:=
 match o.own with
 |true=>match whole,o.pin with
  |true,some k=>match findU ups k,H[b]? with
   |some c,some (some o')=>H.set b (some ⟨c,true,o'.pin⟩)
   |_,_=>H.set b none
  |_,_=>H.set b none
 |false=>match shared,H[b]? with
  |true,some (some o')=>H.set b (some ⟨o'.c,false,o'.pin⟩)
  |_,_=>H
def z1t(ups:List (Nat×Cont))(shared:Bool):List Act→Heap→Heap→Heap
 |ac::r,some o::H1,H=>z1t ups shared r H1 (match ac.id with|some b=>updB ups shared ac.whole o b H|none=>H)
 |_::r,none::H1,H=>z1t ups shared r H1 H
 |_,_,H=>H
theorem updB_len(ups:List (Nat×Cont))(shared whole:Bool)(o:AObj)(b:Nat)(H:Heap):(updB ups shared whole o b H).length=H.length:=by
 unfold updB
 repeat' split
 all_goals simp
theorem z57(ups:List (Nat×Cont))(shared:Bool):∀(acts:List Act) (H1 H:Heap),(z1t ups shared acts H1 H).length=H.length
 |[],_,_=>rfl
 |_::_,[],_=>rfl
 |ac::r,some o::H1,H=>by
  rw[z1t,z57 ups shared r H1]
  split
  ·exact updB_len _ _ _ _ _ _
  ·rfl
 |_::r,none::H1,H=>by rw[z1t,z57 ups shared r H1]
def Left(ups:List (Nat×Cont))(shared:Bool)(acts:List Act)(H1:Heap)(j:Nat)(o o2:AObj):Prop:=
 o2.pin=o.pin∧((o2.c=o.c∧(o2.own=true→o.own=true)∧∀(i:Nat) (ac:Act) (o1:AObj),acts[i]? =some ac→H1[i]? =some (some o1)→ac.id=some j→o1.own=false∧(shared=true→o2.own=false))∨
  (∃(i:Nat) (ac:Act) (o1:AObj) (k:Nat),acts[i]? =some ac∧H1[i]? =some (some o1)∧ac.id=some j∧ac.whole=true∧o1.own=true∧o1.pin=some k∧(k,o2.c)∈ups))
theorem z40{H:Heap}{b j:Nat}{x:Option AObj}{o:AObj}(h:(H.set b x)[j]? =some (some o)):(b=j∧x=some o)∨(b≠j∧H[j]? =some (some o)):=by
 rw[List.getElem?_set]at h
 split at h
 ·rename_i e
  split at h
  ·exact .inl ⟨e,by simpa using h⟩
  ·cases h
 ·rename_i e
  exact .inr ⟨e,h⟩
theorem qzi{ups:List (Nat×Cont)}{shared:Bool}:∀{acts:List Act} {H1 H:Heap} {j:Nat} {o2:AObj},(z1t ups shared acts H1 H)[j]? =some (some o2)→∃o,H[j]? =some (some o)∧Left ups shared acts H1 j o o2
 |[],H1,H,j,o2,h=>⟨o2,by simpa[z1t]using h,rfl,.inl ⟨rfl,fun h=>h,fun i ac o1 hi=>by simp at hi⟩⟩
 |ac::r,[],H,j,o2,h=>⟨o2,by simpa[z1t]using h,rfl,.inl ⟨rfl,fun h=>h,fun i ac o1 _ hi=>by simp at hi⟩⟩
 |ac::r,none::H1,H,j,o2,h=>by
  rw[z1t]at h
  obtain⟨o,h1,h2,h3⟩:=qzi h
  refine⟨o,h1,h2,?_⟩
  rcases h3 with⟨a1,a2,a3⟩|⟨i,ac',o1,k,b1,b2,b3⟩
  ·refine .inl ⟨a1,a2,fun i ac' o1 hi hi1=> ?_⟩
   cases i with
   |zero=>simp at hi1
   |succ i=>exact a3 i ac' o1 (by simpa using hi) (by simpa using hi1)
  ·exact .inr ⟨i+1,ac',o1,k,by simpa using b1,by simpa using b2,b3⟩
 |ac::r,some o1::H1,H,j,o2,h=>by
  rw[z1t]at h
  obtain⟨o',h1,h2,h3⟩:=qzi h
  have step:∃o,H[j]? =some (some o)∧o'.pin=o.pin∧((o'.c=o.c∧(o'.own=true→o.own=true)∧(ac.id=some j→o1.own=false∧(shared=true→o'.own=false)))∨
    (o'.own=true∧∃k,ac.id=some j∧ac.whole=true∧o1.own=true∧o1.pin=some k∧(k,o'.c)∈ups)):=by
   cases hid:ac.id with
   |none=>
    rw[hid]at h1
    exact⟨o',h1,rfl,.inl ⟨rfl,fun h=>h,fun h=>by cases h⟩⟩
   |some b=>
    rw[hid]at h1
    simp only at h1
    have other:b≠j→H[j]? =some (some o')→∃o,H[j]? =some (some o)∧o'.pin=o.pin∧((o'.c=o.c∧(o'.own=true→o.own=true)∧(some b=some j→o1.own=false∧(shared=true→o'.own=false)))∨
      (o'.own=true∧∃k,some b=some j∧ac.whole=true∧o1.own=true∧o1.pin=some k∧(k,o'.c)∈ups)):=
     fun hne hH=>⟨o',hH,rfl,.inl ⟨rfl,fun h=>h,fun e=>absurd (Option.some.inj e) hne⟩⟩
    unfold updB at h1
    split at h1
    ·rename_i how
     split at h1
     ·rename_i k hw hp
      split at h1
      ·rename_i c ob hfu hHb
       rcases z40 h1 with⟨rfl,e⟩|⟨e,h1⟩
       ·cases e
        exact⟨ob,hHb,rfl,.inr ⟨rfl,k,rfl,hw,how,hp,zgu hfu⟩⟩
       ·exact other e h1
      ·rcases z40 h1 with⟨rfl,e⟩|⟨e,h1⟩
       ·cases e
       ·exact other e h1
     ·rcases z40 h1 with⟨rfl,e⟩|⟨e,h1⟩
      ·cases e
      ·exact other e h1
    ·rename_i how
     split at h1
     ·rename_i ob hHb
      rcases z40 h1 with⟨rfl,e⟩|⟨e,h1⟩
      ·cases e
       exact⟨ob,hHb,rfl,.inl ⟨rfl,fun h=>(by cases h),fun _=>⟨how,fun _=>rfl⟩⟩⟩
      ·exact other e h1
     ·rename_i hno
      refine⟨o',h1,rfl,.inl ⟨rfl,fun h=>h,fun e=>⟨how,fun hs=> ?_⟩⟩⟩
      cases e
      exact absurd h1 (hno o' hs)
  obtain⟨o,s1,s2,s3⟩:=step
  refine⟨o,s1,by rw[h2,s2],?_⟩
  rcases h3 with⟨a1,a2,a3⟩|⟨i,ac',o1',k,b1,b2,b3⟩
  ·rcases s3 with⟨c1,c2,c3⟩|⟨c1,k,c2,c3,c4,c5,c6⟩
   ·refine .inl ⟨by rw[a1,c1],fun h=>c2 (a2 h),fun i ac' o1' hi hi1 hid=> ?_⟩
    cases i with
    |zero=>
     simp at hi hi1
     subst hi;subst hi1
     obtain⟨d1,d2⟩:=c3 hid
     refine⟨d1,fun hs=> ?_⟩
     cases ho:o2.own with
     |false=>rfl
     |true=>rw[d2 hs]at a2;exact absurd (a2 ho) (by simp)
    |succ i=>exact a3 i ac' o1' (by simpa using hi) (by simpa using hi1) hid
   ·exact .inr ⟨0,ac,o1,k,by simp,by simp,c2,c3,c4,c5,by rw[a1];exact c6⟩
  ·exact .inr ⟨i+1,ac',o1',k,by simpa using b1,by simpa using b2,b3⟩
def qmv:List CO→Bool
 |[]=>false
 | .row _ _ own::r=> !own||qmv r
 |_::r=>qmv r
def q8t:List Out→Bool
 |[]=>false
 | .row _ _ own::r=> !own||q8t r
 | .agg cs::r=>qmv cs||q8t r
 | .psegs _ cs::r=>qmv cs||q8t r
 |_::r=>q8t r
theorem qhx:∀{cs:List CO} {acc:List Ty} {d:D (qzg cs acc)} {o:AObj},some o∈qgj cs acc d→o.own=false→qmv cs=true
 |[],_,_,o,h,_=>by simp[qgj]at h
 | .hole _::r,acc,d,o,h,ho=>qhx (cs:=r) (d:=d.2) h ho
 | .const _::r,acc,d,o,h,ho=>qhx (cs:=r) (d:=d) h ho
 | .row _ _ own::r,acc,d,o,h,ho=>by
  simp only[qgj,yr]at h
  rcases h with h|h
  ·cases h
   simp only at ho
   simp[qmv,ho]
  ·simp[qmv,qhx (cs:=r) (d:=d.2) h ho]
theorem qhl:∀{os:List Out} {d:D (tysO os)} {o:AObj},some o∈qby os d→o.own=false→q8t os=true
 |[],_,o,h,_=>by simp[qby]at h
 | .ty _::r,d,o,h,ho=>qhl (os:=r) (d:=d.2) h ho
 | .row _ _ own::r,d,o,h,ho=>by
  simp only[qby,yr]at h
  rcases h with h|h
  ·cases h
   simp only at ho
   simp[q8t,ho]
  ·simp[q8t,qhl (os:=r) (d:=d.2) h ho]
 | .agg cs::r,d,o,h,ho=>by
  simp only[qby,yk]at h
  rcases h with h|h
  ·simp[q8t,qhx h ho]
  ·simp[q8t,qhl h ho]
 | .prow _ _::r,d,o,h,ho=>qhl (os:=r) (d:=d.2) h ho
 | .psegs _ cs::r,d,o,h,ho=>by
  simp only[qby,yk]at h
  rcases h with h|h
  ·simp[q8t,qhx h ho]
  ·simp[q8t,qhl h ho]
def smRun(n:Nat)(ins:List Item)(os:List Out)(F:D (tysI ins [])→Option (D (tysO os))):List AV→Heap→(AV→Heap→Option ρ)→Option ρ:=fun args H K=>
 (extA n ins args H).bind fun d=>if qx7 (bldS n ins d).heap=true then
  (F d).bind fun r=>K (retA (avsO os r H.length)) (z1t (upsO os r H.length) (q8t os) (zj9::ql9 ⟨args,H⟩ false ins) (bldS n ins d).heap H++(qby os r++fzH os))
 else none
theorem blk_lt{M:List Place}{o:AObj}{pl:Place}{B:Base}{w:World}(h:qj4 M o pl B w)(hn:pl.nil=false):pl.blk<w.heap.size:=by
 rcases h with⟨n1,_⟩|⟨_,cs,el,fz,g1,_⟩
 ·rw[hn]at n1;cases n1
 ·exact(Array.getElem?_eq_some_iff.1 g1).1
theorem smRun_ok{P:Program}{f:FuncId}{n:Nat}{ins:List Item}{os:List Out}{F:D (tysI ins [])→Option (D (tysO os))}(h:zgs P f n ins os F):qpt (ρ:=ρ) P f (smRun n ins os F):=by
 intro args H K r hk M B w vs hl hH
 unfold smRun at hk
 simp only[Option.bind_eq_some_iff]at hk
 obtain⟨d,hd,hk⟩:=hk
 split at hk
 case isFalse=>cases hk
 rename_i hnd
 simp only[Option.bind_eq_some_iff]at hk
 obtain⟨x,hx,hk⟩:=hk
 obtain⟨M1,t⟩:=zgt hl hH hd
 generalize hst:bldS n ins d=st1 at*
 generalize hac:zj9::ql9 ⟨args,H⟩ false ins=acts at*
 have src:∀(i:Nat) (o1:AObj) (pl:Place),st1.heap[i]? =some (some o1)→M1[i]? =some pl→pl.nil=false→
   (∃ac b o p,acts[i]? =some ac∧ac.id=some b∧H[b]? =some (some o)∧M[b]? =some p∧p.nil=false∧pl.blk=p.blk∧(o1.own=true→o.own=true)∧(ac.whole=true→pl=p))∨
   (o1.own=false∧∃ob,FzAt M pl.blk ob):=by
  intro i o1 pl h1 h2 hn
  have hi:i<acts.length:=by rw[t.len];exact(List.getElem?_eq_some_iff.1 h2).1
  obtain⟨p1,hp1,a1,a2,a3,_⟩:=t.act i acts[i] (yj hi)
  rw[h2]at hp1
  cases hp1
  cases hid:(acts[i]).id with
  |none=>
   obtain⟨q1,q2⟩:=(a2.1 hid).2 hn
   exact .inr ⟨by rw[a3 o1 h1,q1],q2⟩
  |some b=>
   obtain⟨o,p,b1,b2,b3,b4,b5,b6⟩:=a1 b hid
   exact .inl ⟨acts[i],b,o,p,yj hi,hid,b1,b2,by rw[←b3];exact hn,b4,fun ho=>b5 (by rw[←a3 o1 h1];exact ho),b6⟩
 let B1:Base:=⟨fun k=>w.heap.size≤k∨∃(i:Nat) (o1:AObj) (pl:Place),st1.heap[i]? =some (some o1)∧o1.own=true∧M1[i]? =some pl∧pl.nil=false∧pl.blk=k,
  fun k=>w.heap.size≤k∨(∃(i:Nat) (o1:AObj) (pl:Place),st1.heap[i]? =some (some o1)∧M1[i]? =some pl∧pl.nil=false∧pl.blk=k)∨∃ob,FzAt M k ob,
  fun k pl=>∃(i:Nat) (o1:AObj),st1.heap[i]? =some (some o1)∧M1[i]? =some pl∧o1.pin=some k,
  fun k=>B.f k∨∃ob,FzAt M k ob⟩
 have wB:∀k,B1.w k→B.w k:=by
  rintro k (hk|⟨i,o1,pl,h1,h2,h3,h4,rfl⟩)
  ·exact(hH.base k hk).1
  ·rcases src i o1 pl h1 h3 h4 with⟨ac,b,o,p,_,_,c3,c4,c5,c6,c7,_⟩|⟨q,_⟩
   ·obtain⟨p',hp',hok⟩:=hH.obj b o c3
    rw[c4]at hp'
    cases hp'
    rcases hok with⟨n1,_⟩|⟨_,_,_,_,_,_,_,_,g5⟩
    ·rw[c5]at n1;cases n1
    ·rw[c6];exact(g5 (c7 h2)).2.2
   ·rw[q]at h2;cases h2
 have visB:∀k,B1.vis k→B.vis k:=by
  rintro k (hk|⟨i,o1,pl,h1,h3,h4,rfl⟩|⟨ob,hk⟩)
  ·exact(hH.base k hk).2
  ·rcases src i o1 pl h1 h3 h4 with⟨ac,b,o,p,_,_,c3,c4,c5,c6,_⟩|⟨_,ob,q⟩
   ·rw[c6];exact hH.vis b o p c3 c4 c5
   ·exact(hH.fz _ _ q).2.1
  ·exact(hH.fz _ _ hk).2.1
 have notF:∀(i:Nat) (o1:AObj) (pl:Place),st1.heap[i]? =some (some o1)→M1[i]? =some pl→o1.own=true→pl.nil=false→¬B1.f pl.blk:=by
  intro i o1 pl h1 h3 h2 h4
  rcases src i o1 pl h1 h3 h4 with⟨ac,b,o,p,_,_,c3,c4,c5,c6,c7,_⟩|⟨q,_⟩
  ·obtain⟨f1,f2⟩:=hH.fo b o p c3 c4 (c7 h2) c5
   rw[c6]
   rintro(h|⟨ob,h⟩)
   ·exact f1 h
   ·exact f2 ob h
  ·rw[q]at h2;cases h2
 have hH1:RelH M1 st1.heap B1 w:=by
  refine⟨t.heap.len,fun k hk=>⟨.inl hk,.inl hk⟩,fun i o1 ho1=> ?_,t.heap.sep,fun i o1 pl k h1 h2 h3=>⟨i,o1,h1,h2,h3⟩,fun i o1 pl h1 h2 h3=> .inr (.inl ⟨i,o1,pl,h1,h2,h3,rfl⟩),
   fun k ob h=>⟨(t.heap.fz k ob h).1,.inr (.inr ⟨ob,t.zf k ob h⟩),.inr (.inr ⟨ob,t.zf k ob h⟩)⟩,fun i o1 pl h1 h2 h3 h4=>⟨notF i o1 pl h1 h2 h3 h4,(t.heap.fo i o1 pl h1 h2 h3 h4).2⟩,fun k hk h=>h.elim (hH.bf k hk) fun⟨ob,h⟩=>absurd (hH.fz_lt h) (by omega)⟩
  obtain⟨pl,hpl,hok⟩:=t.heap.obj i o1 ho1
  refine⟨pl,hpl,?_⟩
  rcases hok with hok|⟨n1,cs,el,fz,g1,g2,g3,g4,g5⟩
  ·exact .inl hok
  ·exact .inr ⟨n1,cs,el,fz,g1,g2,g3,g4,fun ho=>⟨(g5 ho).1,(g5 ho).2.1,.inr ⟨i,o1,pl,ho1,ho,hpl,n1,rfl⟩⟩⟩
 refine(h d x hx M1 B1 w vs (by rw[hst];exact z11 t.tmps) (by rw[hst];exact hH1)).mono ?_
 rintro e w' ⟨rs,rfl,hb,N,Fz,hN,hFl,hN0,hF1,hF2,hav,hups⟩
 have hlen:=hH.len
 have hEx:Ext M (M++(N++Fz)):=Ext.snoc M _
 have hE0:Ext [] (M++(N++Fz)):=fun b pl e=>(by simp at e)
 have hbB:Beneath B w w' :=⟨hb.os,hb.tape,hb.output,hb.size,fun k hk hw=>hb.block k hk fun h1=>hw (wB k h1)⟩
 refine⟨_,_,_,M++(N++Fz),rfl,hk,hEx,?_,hbB,zcs (by rw[hlen];exact hav M)⟩
 have hlpost:=z57 (upsO os x H.length) (q8t os) acts st1.heap H
 generalize hH2:z1t (upsO os x H.length) (q8t os) acts st1.heap H=H2 at*
 have part:∀(i:Nat) (o:AObj) (pl:Place),(H2++(qby os x++fzH os))[i]? =some (some o)→(M++(N++Fz))[i]? =some pl→
   (i<M.length∧M[i]? =some pl∧∃o0,H[i]? =some (some o0)∧Left (upsO os x H.length) (q8t os) acts st1.heap i o0 o)∨(∃j,i=M.length+j∧(qby os x)[j]? =some (some o)∧N[j]? =some pl):=by
  intro i o pl h1 h2
  by_cases hi:i<M.length
  ·rw[yg (by omega)]at h1
   rw[yg hi]at h2
   rw[←hH2]at h1
   exact .inl ⟨hi,h2,qzi h1⟩
  ·rw[w6 (by omega)]at h1 h2
   rw[hlpost,hlen]at h1
   by_cases hi2:i-M.length<N.length
   ·rw[yg (by rw[←hN.len];exact hi2)]at h1
    rw[yg hi2]at h2
    exact .inr ⟨i-M.length,by omega,h1,h2⟩
   ·rw[w6 (by rw[←hN.len];omega)]at h1
    exfalso
    have:=List.mem_of_getElem? h1
    unfold fzH at this
    split at this<;>simp at this
 have upd:∀(j:Nat) (o0 o:AObj) (pl:Place),H[j]? =some (some o0)→M[j]? =some pl→
   (∃(i:Nat) (ac:Act) (o1:AObj) (k:Nat),acts[i]? =some ac∧st1.heap[i]? =some (some o1)∧ac.id=some j∧ac.whole=true∧o1.own=true∧o1.pin=some k∧(k,o.c)∈upsO os x H.length)→
   o0.own=true∧qj4 (M++(N++Fz)) ⟨o.c,true,none⟩ pl B1 w' ∧(∀(i:Nat) (pi:Place),N[i]? =some pi→pi.nil=false→pl.nil=false→pi.blk≠pl.blk)∧(pl.nil=false→∀ob,¬FzAt Fz pl.blk ob):=by
  rintro j o0 o pl h1 h2 ⟨i,ac,o1,k,a1,a2,a3,a4,a5,a6,a7⟩
  obtain⟨p1,hp1,c1,_,c3,_⟩:=t.act i ac a1
  obtain⟨o',p,d1,d2,_,_,d5,d6⟩:=c1 j a3
  have d1' :H[j]? =some (some o'):=d1
  rw[h1]at d1'
  cases d1'
  rw[h2]at d2
  cases d2
  have hpp:=d6 a4
  subst hpp
  rw[hlen]at a7
  obtain⟨pl',⟨i',o1',e1,e2,e3⟩,f2,f3,f4⟩:=hups M k o.c a7
  have:=z12 hnd i i' o1 o1' k a2 e1 a6 e3
  subst this
  rw[hp1]at e2
  cases e2
  exact⟨d5 (by rw[←c3 o1 a2];exact a5),f2,f3,f4⟩
 have newB:∀(j:Nat) (o:AObj) (pl:Place),(qby os x)[j]? =some (some o)→N[j]? =some pl→pl.nil=false→B1.vis pl.blk∧(o.own=true→B1.w pl.blk):=by
  intro j o pl h1 h2 hn
  obtain⟨_,_,p,hp,hok,hv⟩:=hN.obj j o h1
  rw[h2]at hp
  cases hp
  refine⟨hv hn,fun ho=> ?_⟩
  rcases hok with⟨n1,_⟩|⟨_,_,_,_,_,_,_,_,g5⟩
  ·rw[hn]at n1;cases n1
  ·exact(g5 ho).2.2
 have cross:∀(i j:Nat) (oi oj o0:AObj) (pi pj:Place),M[i]? =some pi→H[i]? =some (some o0)→Left (upsO os x H.length) (q8t os) acts st1.heap i o0 oi→(qby os x)[j]? =some (some oj)→N[j]? =some pj→
   (oi.own=true∨oj.own=true)→pi.nil=false→pj.nil=false→pi.blk≠pj.blk:=by
  intro i j oi oj o0 pi pj h1 h2 h3 h4 h5 ho hni hnj
  obtain⟨v1,v2⟩:=newB j oj pj h4 h5 hnj
  obtain⟨p',hp',hok⟩:=hH.obj i o0 h2
  rw[h1]at hp'
  cases hp'
  have hlt:=blk_lt hok hni
  rcases h3 with⟨_,⟨c1,c2,c3⟩|hu⟩
  ·cases hoj:oj.own with
   |true=>
    rcases v2 hoj with hk|⟨i1,o1,pl,e1,e2,e3,e4,e5⟩
    ·omega
    ·obtain⟨ac,b,ob,p,a1,a2,a3,a4,a5,a6,a7,_⟩:=(src i1 o1 pl e1 e3 e4).resolve_right (fun q=>by rw[q.1]at e2;cases e2)
     have hbi:b≠i:=by
      rintro rfl
      have:=(c3 i1 ac o1 a1 e1 a2).1
      rw[e2]at this
      cases this
     rw[←e5,a6]
     exact fun e=>hH.sep b i ob o0 p pi a3 h2 a4 h1 hbi (a7 e2) a5 hni e.symm
   |false=>
    have hoi:oi.own=true:=by
     rcases ho with ho|ho
     ·exact ho
     ·rw[hoj]at ho;cases ho
    have hsh:q8t os=true:=qhl (List.mem_of_getElem? h4) hoj
    have still:∀ob,FzAt M pj.blk ob→pi.blk≠pj.blk:=fun ob hz e=>(hH.fo i o0 pi h2 h1 (c2 hoi) hni).2 ob (by rw[e];exact hz)
    rcases v1 with hk|⟨i1,o1,pl,e1,e3,e4,e5⟩|⟨ob,hz⟩
    ·omega
    ·rcases src i1 o1 pl e1 e3 e4 with⟨ac,b,ob,p,a1,a2,a3,a4,a5,a6,_⟩|⟨_,ob,hz⟩
     ·have hbi:i≠b:=by
       rintro rfl
       have:=(c3 i1 ac o1 a1 e1 a2).2 hsh
       rw[hoi]at this
       cases this
      rw[←e5,a6]
      exact hH.sep i b o0 ob pi p h2 a3 h1 a4 hbi (c2 hoi) hni a5
     ·exact still ob (by rw[←e5];exact hz)
    ·exact still ob hz
  ·obtain⟨_,_,u3,_⟩:=upd i o0 oi pi h2 h1 hu
   exact fun e=>u3 j pj h5 hnj hni e.symm
 have frozen:∀k ob,FzAt (M++(N++Fz)) k ob→FzAt M k ob∨FzAt Fz k ob:=fun k ob h=>(h.append).imp id fun h=>(h.append).resolve_left (hN0 k ob)
 have b1f:∀k,B1.w k∨B1.f k→B.w k∨B.f k:=by
  rintro k (h|h|⟨ob,h⟩)
  ·exact .inl (wB k h)
  ·exact .inr h
  ·exact(hH.fz k ob h).2.2
 refine⟨by simp[hlpost,hN.len,hlen,hFl],fun k hk=>hH.base k (Nat.le_trans hb.size hk),fun i o ho=> ?_,fun i j oi oj pi pj hi hj hpi hpj hne how hni hnj=> ?_,fun i o pl k ho hp hk' => ?_,fun i o pl ho hp hn=> ?_,fun k ob hk=> ?_,fun i o pl ho hp how hn=> ?_,fun k hk=>hH.bf k (Nat.le_trans hb.size hk)⟩
 ·have hi:i<(M++(N++Fz)).length:=by
   have:=(List.getElem?_eq_some_iff.1 ho).1
   rw[yo,yo,hlpost,hlen,←hN.len,←hFl]at this
   rw[yo,yo]
   exact this
  refine⟨(M++(N++Fz))[i],yj hi,?_⟩
  generalize hpl:(M++(N++Fz))[i]=pl
  have hp:(M++(N++Fz))[i]? =some pl:=by rw[yj hi,hpl]
  rcases part i o pl ho hp with⟨_,h2,o0,h3,h4⟩|⟨j,rfl,h2,h3⟩
  ·obtain⟨p',hp',hok⟩:=hH.obj i o0 h3
   rw[h2]at hp'
   cases hp'
   rcases h4 with⟨_,⟨c1,c2,c3⟩|hu⟩
   ·rcases hok with⟨n1,n2,n3⟩|⟨n1,cs,el,fz,g1,g2,g3,g4,g5⟩
    ·exact .inl ⟨n1,n2,by rw[c1];exact n3.mono hEx⟩
    ·refine .inr ⟨n1,cs,el,fz,?_,g2,g3,by rw[c1];exact g4.mono hEx,fun h=>g5 (c2 h)⟩
     rw[hb.block _ ((Array.getElem?_eq_some_iff.1 g1).1)]
     ·exact g1
     ·rintro(hk|⟨i1,o1,pl1,e1,e2,e3,e4,e5⟩)
      ·have:=(Array.getElem?_eq_some_iff.1 g1).1
       omega
      ·obtain⟨ac,b,ob,p,a1,a2,a3,a4,a5,a6,a7,_⟩:=(src i1 o1 pl1 e1 e3 e4).resolve_right (fun q=>by rw[q.1]at e2;cases e2)
       have hbi:b≠i:=by
        rintro rfl
        have:=(c3 i1 ac o1 a1 e1 a2).1
        rw[e2]at this
        cases this
       exact hH.sep b i ob o0 p pl a3 h3 a4 h2 hbi (a7 e2) a5 n1 (by rw[←a6];exact e5)
   ·obtain⟨u1,u2,_⟩:=upd i o0 o pl h3 h2 hu
    rcases hok with⟨n1,n2,n3⟩|⟨n1,cs,el,fz,g1,g2,g3,g4,g5⟩
    ·rcases u2 with⟨m1,m2,m3⟩|⟨m1,_⟩
     ·exact .inl ⟨m1,m2,m3⟩
     ·rw[n1]at m1;cases m1
    ·rcases u2 with⟨m1,_⟩|⟨m1,cs',el',fz',f1,f2,f3,f4,f5⟩
     ·rw[n1]at m1;cases m1
     ·exact .inr ⟨m1,cs',el',fz',f1,f2,f3,f4,fun _=>⟨(f5 rfl).1,(f5 rfl).2.1,(g5 u1).2.2⟩⟩
  ·obtain⟨_,_,p,hp',hok,hv⟩:=hN.obj j o h2
   rw[h3]at hp'
   cases hp'
   rcases hok with⟨n1,n2,n3⟩|⟨n1,cs,el,fz,g1,g2,g3,g4,g5⟩
   ·exact .inl ⟨n1,n2,n3.mono hE0⟩
   ·exact .inr ⟨n1,cs,el,fz,g1,g2,g3,g4.mono hE0,fun h=>⟨(g5 h).1,(g5 h).2.1,wB _ (g5 h).2.2⟩⟩
 ·rcases part i oi pi hi hpi with⟨_,h2,o0,h3,h4⟩|⟨j1,rfl,h2,h3⟩<;>rcases part j oj pj hj hpj with⟨_,k2,o0',k3,k4⟩|⟨j2,rfl,k2,k3⟩
  ·have ho:o0.own=true:=by
    rcases h4 with⟨_,⟨c1,c2,c3⟩|hu⟩
    ·exact c2 how
    ·exact(upd i o0 oi pi h3 h2 hu).1
   exact hH.sep i j o0 o0' pi pj h3 k3 h2 k2 hne ho hni hnj
  ·exact cross i j2 oi oj o0 pi pj h2 h3 h4 k2 k3 (.inl how) hni hnj
  ·exact fun e=>cross j j1 oj oi o0' pj pi k2 k3 k4 h2 h3 (.inr how) hnj hni e.symm
  ·exact hN.sep j1 j2 oi oj pi pj h2 k2 h3 k3 (fun e=>hne (by rw[e])) how hni hnj
 ·rcases part i o pl ho hp with⟨_,h2,o0,h3,h4⟩|⟨j,rfl,h2,h3⟩
  ·exact hH.pin i o0 pl k h3 h2 (by rw[←h4.1];exact hk')
  ·rw[(hN.obj j o h2).1]at hk';cases hk'
 ·rcases part i o pl ho hp with⟨_,h2,o0,h3,h4⟩|⟨j,rfl,h2,h3⟩
  ·exact hH.vis i o0 pl h3 h2 hn
  ·exact visB _ (newB j o pl h2 h3 hn).1
 ·rcases frozen k ob hk with h|h
  ·obtain⟨z1,z2,z3⟩:=hH.fz k ob h
   refine⟨?_,z2,z3⟩
   rw[hb.block k (hH.fz_lt h)]
   ·exact z1
   ·rintro(hk|⟨i1,o1,pl1,e1,e2,e3,e4,e5⟩)
    ·have:=hH.fz_lt h
     omega
    ·exact notF i1 o1 pl1 e1 e3 e2 e4 (.inr ⟨ob,by rw[e5];exact h⟩)
  ·obtain⟨z1,z2,z3⟩:=hF1 k ob h
   exact⟨z1,visB k z2,b1f k z3⟩
 ·rcases part i o pl ho hp with⟨_,h2,o0,h3,h4⟩|⟨j,rfl,h2,h3⟩
  ·have how0:o0.own=true:=by
    rcases h4 with⟨_,⟨c1,c2,c3⟩|hu⟩
    ·exact c2 how
    ·exact(upd i o0 o pl h3 h2 hu).1
   obtain⟨f1,f2⟩:=hH.fo i o0 pl h3 h2 how0 hn
   refine⟨f1,fun ob h=> ?_⟩
   rcases frozen _ ob h with h|h
   ·exact f2 ob h
   ·rcases h4 with⟨_,⟨c1,c2,c3⟩|hu⟩
    ·obtain⟨p',hp',hok⟩:=hH.obj i o0 h3
     rw[h2]at hp'
     cases hp'
     have hlt:=blk_lt hok hn
     rcases(hF1 _ ob h).2.2 with(hk|⟨i1,o1,pl1,e1,e2,e3,e4,e5⟩)|(hk|⟨ob',hk⟩)
     ·omega
     ·obtain⟨ac,b,ob2,p,a1,a2,a3,a4,a5,a6,a7,_⟩:=(src i1 o1 pl1 e1 e3 e4).resolve_right (fun q=>by rw[q.1]at e2;cases e2)
      have hbi:b≠i:=by
       rintro rfl
       have:=(c3 i1 ac o1 a1 e1 a2).1
       rw[e2]at this
       cases this
      exact hH.sep b i ob2 o0 p pl a3 h3 a4 h2 hbi (a7 e2) a5 hn (by rw[←a6];exact e5)
     ·exact f1 hk
     ·exact f2 ob' hk
    ·exact(upd i o0 o pl h3 h2 hu).2.2.2 hn ob h
  ·obtain⟨g1,g2⟩:=hF2 j pl o h3 h2 how hn
   refine⟨fun h=>g1 (.inl h),fun ob h=> ?_⟩
   rcases frozen _ ob h with h|h
   ·exact g1 (.inr ⟨ob,h⟩)
   ·exact g2 ob h
def z58:List Out→Bool
 |[]=>true
 | .ty (.row _)::_=>false
 | .ty t::r=> !t.deep&&z58 r
 |_=>false
def zgv:(cs:List CTy)→DC cs→List Value
 |[],_=>[]
 | .int k::r,d=> .int k d.1::zgv r d.2
 | .bool::r,d=> .bool d.1::zgv r d.2
 | .is k _::r,d=>List.map (Value.int k) d.1++zgv r d.2
 | .str::r,d=> .string (mkS d.1)::zgv r d.2
 | .fsl _ _::r,d=>zgv r d.2
 | .dsl _::r,d=>zgv r d.2
theorem qx8{M:List Place}:∀{cs:List CTy} {d:DC cs} {a:List Value},qqq cs=false→RelC M (mkCs cs d) a→a=zgv cs d
 |[],d,a,_,h=>RelC_nil.1 h
 | .int k::r,d,a,hd,h=>by
  obtain⟨b,t,rfl,hx,hr⟩:=RelC_cons.1 h
  have h2:qqq r=false:=hd
  rw[qx8 (cs:=r) h2 hr,(RelX_int.1 hx).1]
  rfl
 | .bool::r,d,a,hd,h=>by
  obtain⟨b,t,rfl,hx,hr⟩:=RelC_cons.1 h
  have h2:qqq r=false:=hd
  simp only[mk1,RelX]at hx
  rw[qx8 (cs:=r) h2 hr,hx.1]
  rfl
 | .is k n::r,d,a,hd,h=>by
  obtain⟨b,t,rfl,hx,hr⟩:=RelC_cons.1 h
  have h2:qqq r=false:=hd
  rw[qx8 (cs:=r) h2 hr,(RelX_is.1 hx).2.1]
  rfl
 | .str::r,d,a,hd,h=>by
  obtain⟨b,t,rfl,hx,hr⟩:=RelC_cons.1 h
  have h2:qqq r=false:=hd
  simp only[mk1,RelX]at hx
  rw[qx8 (cs:=r) h2 hr,hx.1]
  rfl
 | .fsl _ _::r,d,a,hd,h=>by simp[qqq]at hd
 | .dsl _::r,d,a,hd,h=>by simp[qqq]at hd
def valT:(t:Ty)→t.den→Value
 | .int k,x=> .int k x
 | .bool,x=> .bool x
 | .is k _,l=> .agg (List.map (Value.int k) l).toArray
 | .row _,_=>undef
 | .agg cs,d=> .agg (zgv cs d).toArray
 | .str,l=> .string (mkS l)
 | .fsl _ _,_=>undef
 | .dsl _,_=>undef
 | .drow _,_=>undef
 | .mapc _,_=>undef
def valO:(os:List Out)→D (tysO os)→List Value
 |[],_=>[]
 | .ty t::r,d=>valT t d.1::valO r d.2
 | .row _ _ _::r,d=>valO r d.2
 | .agg cs::r,d=>valO r (qoe cs (tysO r) d)
 | .prow _ _::r,d=>valO r d.2
 | .psegs _ cs::r,d=>valO r (qoe cs (tysO r) d)
theorem valT_eq{M:List Place}{t:Ty}{x:t.den}{v:Value}(ht:∀k,t≠ .row k)(hd:t.deep=false)(h:RelV M (mkT t x) v):v=valT t x:=by
 cases t with
 |int k=>exact(q3d h).1
 |bool=>exact(q3g h).1
 |is k n=>
  obtain⟨vs,e,hc⟩:=RelX_agg.1 h
  have e:v= .agg vs:=by simpa using e
  subst e
  have:=(RelX_is.1 (RelC_single.1 hc)).2.1
  simp only[valT]
  congr 1
  apply Array.toList_inj.1
  simpa using this
 |row k=>exact absurd rfl (ht k)
 |agg cs=>
  obtain⟨vs,e,hc⟩:=RelX_agg.1 h
  have e:v= .agg vs:=by simpa using e
  subst e
  have:=qx8 hd hc
  simp only[valT]
  congr 1
  apply Array.toList_inj.1
  simpa using this
 |str=>
  simp only[mkT,RelV,RelX]at h
  simpa[valT]using h.1
 |fsl k sz=>cases hd
 |dsl e=>cases hd
 |drow e=>cases hd
 |mapc i=>cases hd
theorem mkCs_any{M M' :List Place}{cs:List CTy}{d:DC cs}{a:List Value}(hd:qqq cs=false)(h:RelC M (mkCs cs d) a):RelC M' (mkCs cs d) a:=by
 induction cs generalizing a with
 |nil=>exact RelC_nil.2 (RelC_nil.1 h)
 |cons t r ih=>
  obtain⟨b,t',rfl,hx,hr⟩:=RelC_cons.1 h
  have h2:qqq r=false:=by cases t<;>first|exact hd|cases hd
  refine RelC_cons.2 ⟨b,t',rfl,?_,ih h2 hr⟩
  cases t with
  |fsl k sz=>cases hd
  |dsl e=>cases hd
  |_=>simpa only[mk1,RelX]using hx
theorem mkT_any{M M' :List Place}{t:Ty}{x:t.den}{v:Value}(hd:t.deep=false)(h:RelV M (mkT t x) v):RelV M' (mkT t x) v:=by
 cases t with
 |int k=>exact RelX_int.2 (RelX_int.1 h)
 |bool=>simpa only[mkT,RelV,RelX]using h
 |is k n=>
  obtain⟨vs,e,hc⟩:=RelX_agg.1 h
  exact RelX_agg.2 ⟨vs,e,RelC_single.2 (RelX_is.2 (RelX_is.1 (RelC_single.1 hc)))⟩
 |row k=>exact q42 _ _
 |agg cs=>
  obtain⟨vs,e,hc⟩:=RelX_agg.1 h
  exact RelX_agg.2 ⟨vs,e,mkCs_any hd hc⟩
 |str=>simpa only[mkT,RelV,RelX]using h
 |fsl k sz=>cases hd
 |dsl e=>cases hd
 |drow e=>exact q42 _ _
 |mapc i=>cases hd
theorem zom:∀{os:List Out} {d:D (tysO os)} {M:List Place} {b:Nat} {vs:List Value},z58 os=true→RelL M (avsO os d b) vs→vs=valO os d∧RelL [] (avsO os d 0) vs
 |[],d,M,b,vs,_,h=>by
  simp only[avsO,RelL_nil]at h
  subst h
  exact⟨rfl,RelL_nil.2 rfl⟩
 | .ty t::r,d,M,b,vs,ha,h=>by
  obtain⟨v,vs',rfl,hv,hr⟩:=RelL_cons.1 h
  have ha' :z58 r=true∧(∀k,t≠ .row k)∧t.deep=false:=by
   cases t<;>simp only[z58,yl,Bool.not_eq_true',reduceCtorEq]at ha<;>exact⟨ha.2,fun k h=>(by cases h),ha.1⟩
  obtain⟨e,hl⟩:=zom ha'.1 hr
  have hv2:=valT_eq ha'.2.1 ha'.2.2 hv
  refine⟨by rw[e,hv2];rfl,RelL_cons.2 ⟨v,vs',rfl,?_,hl⟩⟩
  exact mkT_any ha'.2.2 hv
 | .row k sz _::r,d,M,b,vs,ha,h=>by simp[z58]at ha
 | .agg cs::r,d,M,b,vs,ha,h=>by simp[z58]at ha
 | .prow _ _::r,d,M,b,vs,ha,h=>by simp[z58]at ha
 | .psegs _ _::r,d,M,b,vs,ha,h=>by simp[z58]at ha
def zon(n:Nat)(ins:List Item)(os:List Out)(F:D (tysI ins [])→Option (D (tysO os))):List AV→Heap→(AV→Option ρ)→Option ρ:=fun args H K=>
 (extA n ins args H).bind fun d=>(F d).bind fun r=>K (retA (avsO os r 0))
theorem zmd:∀{its:List Item} {acc:List Ty} {d:D (tysI its acc)} {st:St},z56 its=true→(∀(i:Nat) o,st.heap[i]? =some (some o)→o.own=false)→∀(i:Nat) o,(bldI its acc d st).1.heap[i]? =some (some o)→o.own=false:=by
 intro its
 induction its with
 |nil=>intro acc d st _ h;exact h
 |cons it its ih=>
  intro acc d st hn h
  have snoc:∀(x:Option AObj),(∀o,x=some o→o.own=false)→∀(i:Nat) o,(st.heap++[x])[i]? =some (some o)→o.own=false:=by
   intro x hx i o hi
   rw[List.getElem?_append]at hi
   split at hi
   ·exact h i o hi
   ·rcases Nat.eq_zero_or_pos (i-st.heap.length)with h0|h0
    ·rw[h0]at hi
     simp at hi
     exact hx o hi
    ·rw[w7 (by simp;omega)]at hi;cases hi
  cases it with
  |row k sz src own pin=>
   simp only[z56,yl,Bool.not_eq_true']at hn
   exact ih hn.2 (snoc _ (by rintro o ⟨⟩;exact hn.1))
  |segs cs src own pin=>
   simp only[z56,yl,Bool.not_eq_true']at hn
   exact ih hn.2 (snoc _ (by rintro o ⟨⟩;exact hn.1))
  |drow e src own pin=>
   simp only[z56,yl,Bool.not_eq_true']at hn
   exact ih hn.2 (snoc _ (by rintro o ⟨⟩;exact hn.1))
  |drop=>exact ih hn (snoc _ (by rintro o ⟨⟩))
  |slot t ty=>exact ih hn h
  |const t a=>exact ih hn h
  |sl t b sz c=>exact ih hn h
  |ptr t b w=>exact ih hn h
  |fn t f cs=>exact ih hn h
  |cells t cs=>exact ih hn h
def Base.fresh(n:Nat):Base:=⟨fun k=>n≤k,fun _=>True,fun _ _=>True,fun k=>k<n⟩
theorem Beneath.below' {w w' :World}(h:Beneath (Base.fresh w.heap.size) w w'):Below w.heap.size w w' :=⟨h.os,h.tape,h.output,h.size,fun k hk=>h.block k hk (fun h2=>Nat.lt_irrefl _ (Nat.lt_of_lt_of_le hk h2))⟩
theorem zoo{P:Program}{f:FuncId}{n:Nat}{ins:List Item}{os:List Out}{F:D (tysI ins [])→Option (D (tysO os))}(h:zgs P f n ins os F)(hn:z56 ins=true)(ha:z58 os=true):qjh (ρ:=ρ) P f (zon n ins os F):=by
 intro args H K r hk M B w vs hl hH
 unfold zon at hk
 simp only[Option.bind_eq_some_iff]at hk
 obtain⟨d,hd,x,hx,hk⟩:=hk
 have hrun:∀w',Below w.heap.size w w' →Calls P f vs w' fun e w'' =>∃rs:Array Value,e= .returned (retV rs)∧rs=(valO os x).toArray∧RelL [] (avsO os x 0) (valO os x)∧Below w'.heap.size w' w'' :=by
  intro w' hb
  obtain⟨M1,t⟩:=zgt hl (hH.below hb) hd
  have hno:=zmd (acc:=[]) (d:=d) (st:=st0 n) hn (fun i o hi=>by cases i<;>simp[st0]at hi)
  have hH1:RelH M1 (bldS n ins d).heap (Base.fresh w'.heap.size) w' :=by
   refine⟨t.heap.len,fun k hk=>⟨hk,trivial⟩,fun i o ho=> ?_,t.heap.sep,fun _ _ _ _ _ _ _=>trivial,fun _ _ _ _ _ _=>trivial,fun k ob h=>⟨(t.heap.fz k ob h).1,trivial,.inr (t.heap.fz_lt h)⟩,fun i o pl ho hp how hn=>(by rw[hno i o ho]at how;cases how),fun k hk h=>absurd hk (Nat.not_le_of_lt h)⟩
   obtain⟨pl,hp,hok⟩:=t.heap.obj i o ho
   refine⟨pl,hp,?_⟩
   rcases hok with hok|⟨hn,cs,el,fz,h1,h2,h3,h4,h5⟩
   ·exact .inl hok
   ·exact .inr ⟨hn,cs,el,fz,h1,h2,h3,h4,fun ho2=>by rw[hno i o ho]at ho2;cases ho2⟩
  refine(h d x hx M1 (Base.fresh w'.heap.size) w' vs (z11 t.tmps) hH1).mono ?_
  rintro e w'' ⟨rs,rfl,hb',N,Fz,_,_,_,_,_,hav,_⟩
  obtain⟨e1,e2⟩:=zom (b:=0) ha (by simpa using hav [])
  refine⟨rs,rfl,?_,by rw[←e1];exact e2,hb'.below'⟩
  apply Array.toList_inj.1
  simpa using e1
 obtain⟨e,w',fr,⟨rs,_,_,hro,_⟩,_⟩:=hrun w (Below.refl _ _) []
 refine⟨retV (valO os x).toArray,_,hk,RelX.mono (fun b pl e=>(by simp at e)) _ _ (zcs (M:=[]) (by simpa using hro)),fun w' hb=>(hrun w' hb).mono ?_⟩
 rintro e w'' ⟨rs,rfl,rfl,_,hb'⟩
 exact⟨rfl,hb'⟩
end Go.AE
namespace Go.AE
open Go Go.RowKit
structure ToldF where
 f:FuncId
 n:Nat
 ins:List Item
 os:List Out
 F:D (tysI ins [])→Option (D (tysO os))
def ToldF.ok(P:Program)(t:ToldF):Prop:=zgs P t.f t.n t.ins t.os t.F
def zop:List ToldF→FuncId→Bool
 |[],_=>false
 |t::r,f=>if t.f=f then true else zop r f
def zoq{ρ:Type}:List ToldF→FuncId→List AV→Heap→(AV→Heap→Option ρ)→Option ρ
 |[],_,_,_,_=>none
 |t::r,f,args,H,K=>if t.f=f then
   match extA t.n t.ins args H with
   |some _=>smRun t.n t.ins t.os t.F args H K
   |none=>zoq r f args H K
  else zoq r f args H K
def zl0:List ToldF→FuncId→Bool
 |[],_=>false
 |t::r,f=>if t.f=f∧z58 t.os=true∧z56 t.ins=true then true else zl0 r f
def zgw{ρ:Type}:List ToldF→FuncId→List AV→Heap→(AV→Option ρ)→Option ρ
 |[],_,_,_,_=>none
 |t::r,f,args,H,K=>if t.f=f∧z58 t.os=true∧z56 t.ins=true then
   match extA t.n t.ins args H with
   |some _=>zon t.n t.ins t.os t.F args H K
   |none=>zgw r f args H K
  else zgw r f args H K
def zor(l:List ToldF)(ρ:Type):Env ρ:=
 ⟨fun f=>if zop l f=true then some (zoq l f)else none,fun f=>if zl0 l f=true then some (zgw l f)else none⟩
def qqt(f:FuncId)(n:Nat):ToldF:=⟨f,n,[],[],fun _=>none⟩
theorem qeh(P:Program)(f:FuncId)(n:Nat):(qqt f n).ok P:=fun d r h=>by cases h
def q03(P:Program):List ToldF→Prop
 |[]=>True
 |t::r=>t.ok P∧q03 P r
theorem zct{P:Program}{ρ:Type}:∀{l:List ToldF},q03 P l→∀f,qpt (ρ:=ρ) P f (zoq l f)
 |[],_,f=>fun args H K r h=>by cases h
 |t::l,hl,f=>by
  intro args H K r h
  unfold zoq at h
  split at h
  ·rename_i hf
   subst hf
   split at h
   ·exact smRun_ok hl.1 args H K r h
   ·exact zct hl.2 t.f args H K r h
  ·exact zct hl.2 f args H K r h
theorem z59{P:Program}{ρ:Type}:∀{l:List ToldF},q03 P l→∀f,qjh (ρ:=ρ) P f (zgw l f)
 |[],_,f=>fun args H K r h=>by cases h
 |t::l,hl,f=>by
  intro args H K r h
  unfold zgw at h
  split at h
  ·rename_i hf
   obtain⟨rfl,ha,hn⟩:=hf
   split at h
   ·exact zoo hl.1 hn ha args H K r h
   ·exact z59 hl.2 t.f args H K r h
  ·exact z59 hl.2 f args H K r h
theorem zl1{P:Program}{l:List ToldF}(h:q03 P l)(ρ:Type):EnvOk P (zor l ρ):=by
 refine⟨fun f s hs=> ?_,fun f s hs=> ?_⟩
 ·simp only[zor]at hs
  split at hs
  ·cases hs;exact zct h f
  ·cases hs
 ·simp only[zor]at hs
  split at hs
  ·cases hs;exact z59 h f
  ·cases hs
abbrev calT(P:Program)(l:List ToldF):Cals:=fun σ=>evFn P (zor l σ) 40
abbrev qcalT(l:List ToldF):QCals:=fun σ=>qof (zor l σ)
theorem zjb{P:Program}(hP:q1w P){l:List ToldF}(h:q03 P l)(σ:Type)(f:FuncId):qpt P f (calT P l σ f):=z52 hP (zl1 h σ) 40 f
theorem zcu{P:Program}{l:List ToldF}(h:q03 P l)(σ:Type)(f:FuncId):qjh P f (qcalT l σ f):=zkz (zl1 h σ) f
def z1u{ρ:Type}:List (Nat×Ann ρ)→Nat→Option (Ann ρ)
 |[],_=>none
 |(i,a)::r,id=>if id=i then some a else z1u r id
def qjj{ρ:Type}(P:Program)(c:Code)(l:List (Nat×Ann ρ)):Prop:=
 ∀(B:Base) (w:World) (id:Nat) (an:Ann ρ) (c' :Code),z1u l id=some an→(id,c')∈q8o c→qzc P false B w (.block id c') an
theorem zme{ρ:Type}(P:Program)(c:Code):qjj (ρ:=ρ) P c []:=fun _ _ _ _ _ h=>by cases h
def qto(c:Code)(id:Nat):List Code:=((q8o c).filter fun p=>p.1==id).map (·.2)
theorem z5a{ρ:Type}{P:Program}{c body:Code}{id:Nat}{an:Ann ρ}{l:List (Nat×Ann ρ)}(hb:qto c id=[.loop body])
  (h:∀B w,qzc P false B w (.block id (.loop body)) an) (hl:qjj P c l):qjj P c ((id,an)::l):=by
 intro B w id' an' c' ha hc
 unfold z1u at ha
 split at ha
 ·rename_i hid
  subst hid
  cases ha
  have:c' ∈qto c id' :=by
   unfold qto
   rw[List.mem_map]
   exact⟨(id',c'),by simp[hc],rfl⟩
  rw[hb,List.mem_singleton]at this
  subst this
  exact h B w
 ·exact hl B w id' an' c' ha hc
def z13(c:Code)(id:Nat):Code:=match qto c id with
 |[.loop b]=>b
 |_=> .skip
def qgk(fn:Func):Code:=match fn.body with
 |some c=>c
 |none=> .skip
theorem toldF_ok{P:Program}(hP:q1w P){l:List ToldF}(hl:q03 P l){fn:Func}{t:ToldF}{anns:List (Nat×Ann (D (tysO t.os)))}(hf:P.funcs[t.f]? =some fn)(ha:qjj P (qgk fn) anns)
  (h:∀d,zbr P (calT P l _) (qcalT l _) (z1u anns) t.f (bldS t.n t.ins d).tmps (bldS t.n t.ins d).heap (endO t.os)=t.F d):t.ok P:=by
 refine zol hP (zjb hP hl) (zcu hl) (ann:=z1u anns) (fun fn' c h1 h2 id an c' h3 h4 B w=> ?_) h
 rw[hf]at h1
 cases h1
 unfold qgk at ha
 rw[h2]at ha
 exact ha B w id an c' h3 h4
theorem toldS_ok{P:Program}(hP:q1w P){l:List ToldF}(hl:q03 P l){nt:Nat}{ins outs:List Item}{id:Nat}{body:Code}
  {L:Nat→D (tysI ins [])→Option (D (tysI outs []))} {anns:List (Nat×Ann (D (tysI outs [])))} (ha:qjj P body anns) (h0:∀d,L 0 d=none)
  (hs:∀k d,q6r P (calT P l _) (qcalT l _) (z1u anns) body (bldS nt ins d) (kS nt ins outs id (L k))=L (k+1) d) (F:Nat) {ρ:Type} (B:Base) (w:World):
  qzc (ρ:=ρ) P false B w (.block id (.loop body)) (annS nt ins outs (L F)):=
 annS_ok hP (zjb hP hl) (zcu hl) (ann:=z1u anns) (fun id an c' h1 h2=>ha B w id an c' h1 h2) h0 hs F
theorem toldX_ok{P:Program}(hP:q1w P){l:List ToldF}(hl:q03 P l){nt:Nat}{ins outX outs:List Item}{e2:Exit}{id:Nat}{body:Code}
  {L:Nat→D (tysI ins [])→Option (D (tysI outX [])⊕D (tysI outs []))} {anns:List (Nat×Ann (D (tysI outX [])⊕D (tysI outs [])))} (ha:qjj P body anns) (h0:∀d,L 0 d=none)
  (hs:∀k d,q6r P (calT P l _) (qcalT l _) (z1u anns) body (bldS nt ins d) (kX nt ins outX outs id e2 (L k))=L (k+1) d) (he:e2= .ret∨∃j,e2= .exit j∧j≠id) (F:Nat) {ρ:Type} (B:Base) (w:World):
  qzc (ρ:=ρ) P false B w (.block id (.loop body)) (annX nt ins outX outs e2 (L F)):=
 annX_ok hP (zjb hP hl) (zcu hl) (ann:=z1u anns) (fun id an c' h1 h2=>ha B w id an c' h1 h2) h0 hs he F
@[reducible] def u0 {R U:Type} (f:R) (_:U):R:=f
@[reducible] def u1 {R U A0:Type} (f:A0→R) (d:A0×U):R:=u0 (f d.1) d.2
@[reducible] def u2 {R U A0 A1:Type} (f:A0→A1→R) (d:A0×A1×U):R:=u1 (f d.1) d.2
@[reducible] def u3 {R U A0 A1 A2:Type} (f:A0→A1→A2→R) (d:A0×A1×A2×U):R:=u2 (f d.1) d.2
@[reducible] def u4 {R U A0 A1 A2 A3:Type} (f:A0→A1→A2→A3→R) (d:A0×A1×A2×A3×U):R:=u3 (f d.1) d.2
@[reducible] def u5 {R U A0 A1 A2 A3 A4:Type} (f:A0→A1→A2→A3→A4→R) (d:A0×A1×A2×A3×A4×U):R:=u4 (f d.1) d.2
@[reducible] def u6 {R U A0 A1 A2 A3 A4 A5:Type} (f:A0→A1→A2→A3→A4→A5→R) (d:A0×A1×A2×A3×A4×A5×U):R:=u5 (f d.1) d.2
@[reducible] def u7 {R U A0 A1 A2 A3 A4 A5 A6:Type} (f:A0→A1→A2→A3→A4→A5→A6→R) (d:A0×A1×A2×A3×A4×A5×A6×U):R:=u6 (f d.1) d.2
@[reducible] def u8 {R U A0 A1 A2 A3 A4 A5 A6 A7:Type} (f:A0→A1→A2→A3→A4→A5→A6→A7→R) (d:A0×A1×A2×A3×A4×A5×A6×A7×U):R:=u7 (f d.1) d.2
@[reducible] def u9 {R U A0 A1 A2 A3 A4 A5 A6 A7 A8:Type} (f:A0→A1→A2→A3→A4→A5→A6→A7→A8→R) (d:A0×A1×A2×A3×A4×A5×A6×A7×A8×U):R:=u8 (f d.1) d.2
@[reducible] def u10 {R U A0 A1 A2 A3 A4 A5 A6 A7 A8 A9:Type} (f:A0→A1→A2→A3→A4→A5→A6→A7→A8→A9→R) (d:A0×A1×A2×A3×A4×A5×A6×A7×A8×A9×U):R:=u9 (f d.1) d.2
@[reducible] def u11 {R U A0 A1 A2 A3 A4 A5 A6 A7 A8 A9 A10:Type} (f:A0→A1→A2→A3→A4→A5→A6→A7→A8→A9→A10→R) (d:A0×A1×A2×A3×A4×A5×A6×A7×A8×A9×A10×U):R:=u10 (f d.1) d.2
@[reducible] def u12 {R U A0 A1 A2 A3 A4 A5 A6 A7 A8 A9 A10 A11:Type} (f:A0→A1→A2→A3→A4→A5→A6→A7→A8→A9→A10→A11→R) (d:A0×A1×A2×A3×A4×A5×A6×A7×A8×A9×A10×A11×U):R:=u11 (f d.1) d.2
@[reducible] def u13 {R U A0 A1 A2 A3 A4 A5 A6 A7 A8 A9 A10 A11 A12:Type} (f:A0→A1→A2→A3→A4→A5→A6→A7→A8→A9→A10→A11→A12→R) (d:A0×A1×A2×A3×A4×A5×A6×A7×A8×A9×A10×A11×A12×U):R:=u12 (f d.1) d.2
@[reducible] def u14 {R U A0 A1 A2 A3 A4 A5 A6 A7 A8 A9 A10 A11 A12 A13:Type} (f:A0→A1→A2→A3→A4→A5→A6→A7→A8→A9→A10→A11→A12→A13→R) (d:A0×A1×A2×A3×A4×A5×A6×A7×A8×A9×A10×A11×A12×A13×U):R:=u13 (f d.1) d.2
@[reducible] def u15 {R U A0 A1 A2 A3 A4 A5 A6 A7 A8 A9 A10 A11 A12 A13 A14:Type} (f:A0→A1→A2→A3→A4→A5→A6→A7→A8→A9→A10→A11→A12→A13→A14→R) (d:A0×A1×A2×A3×A4×A5×A6×A7×A8×A9×A10×A11×A12×A13×A14×U):R:=u14 (f d.1) d.2
@[reducible] def u16 {R U A0 A1 A2 A3 A4 A5 A6 A7 A8 A9 A10 A11 A12 A13 A14 A15:Type} (f:A0→A1→A2→A3→A4→A5→A6→A7→A8→A9→A10→A11→A12→A13→A14→A15→R) (d:A0×A1×A2×A3×A4×A5×A6×A7×A8×A9×A10×A11×A12×A13×A14×A15×U):R:=u15 (f d.1) d.2
@[reducible] def u17 {R U A0 A1 A2 A3 A4 A5 A6 A7 A8 A9 A10 A11 A12 A13 A14 A15 A16:Type} (f:A0→A1→A2→A3→A4→A5→A6→A7→A8→A9→A10→A11→A12→A13→A14→A15→A16→R) (d:A0×A1×A2×A3×A4×A5×A6×A7×A8×A9×A10×A11×A12×A13×A14×A15×A16×U):R:=u16 (f d.1) d.2
@[reducible] def u18 {R U A0 A1 A2 A3 A4 A5 A6 A7 A8 A9 A10 A11 A12 A13 A14 A15 A16 A17:Type} (f:A0→A1→A2→A3→A4→A5→A6→A7→A8→A9→A10→A11→A12→A13→A14→A15→A16→A17→R) (d:A0×A1×A2×A3×A4×A5×A6×A7×A8×A9×A10×A11×A12×A13×A14×A15×A16×A17×U):R:=u17 (f d.1) d.2
@[reducible] def u19 {R U A0 A1 A2 A3 A4 A5 A6 A7 A8 A9 A10 A11 A12 A13 A14 A15 A16 A17 A18:Type} (f:A0→A1→A2→A3→A4→A5→A6→A7→A8→A9→A10→A11→A12→A13→A14→A15→A16→A17→A18→R) (d:A0×A1×A2×A3×A4×A5×A6×A7×A8×A9×A10×A11×A12×A13×A14×A15×A16×A17×A18×U):R:=u18 (f d.1) d.2
@[reducible] def u20 {R U A0 A1 A2 A3 A4 A5 A6 A7 A8 A9 A10 A11 A12 A13 A14 A15 A16 A17 A18 A19:Type} (f:A0→A1→A2→A3→A4→A5→A6→A7→A8→A9→A10→A11→A12→A13→A14→A15→A16→A17→A18→A19→R) (d:A0×A1×A2×A3×A4×A5×A6×A7×A8×A9×A10×A11×A12×A13×A14×A15×A16×A17×A18×A19×U):R:=u19 (f d.1) d.2
@[reducible] def u21 {R U A0 A1 A2 A3 A4 A5 A6 A7 A8 A9 A10 A11 A12 A13 A14 A15 A16 A17 A18 A19 A20:Type} (f:A0→A1→A2→A3→A4→A5→A6→A7→A8→A9→A10→A11→A12→A13→A14→A15→A16→A17→A18→A19→A20→R) (d:A0×A1×A2×A3×A4×A5×A6×A7×A8×A9×A10×A11×A12×A13×A14×A15×A16×A17×A18×A19×A20×U):R:=u20 (f d.1) d.2
@[reducible] def u22 {R U A0 A1 A2 A3 A4 A5 A6 A7 A8 A9 A10 A11 A12 A13 A14 A15 A16 A17 A18 A19 A20 A21:Type} (f:A0→A1→A2→A3→A4→A5→A6→A7→A8→A9→A10→A11→A12→A13→A14→A15→A16→A17→A18→A19→A20→A21→R) (d:A0×A1×A2×A3×A4×A5×A6×A7×A8×A9×A10×A11×A12×A13×A14×A15×A16×A17×A18×A19×A20×A21×U):R:=u21 (f d.1) d.2
@[reducible] def u23 {R U A0 A1 A2 A3 A4 A5 A6 A7 A8 A9 A10 A11 A12 A13 A14 A15 A16 A17 A18 A19 A20 A21 A22:Type} (f:A0→A1→A2→A3→A4→A5→A6→A7→A8→A9→A10→A11→A12→A13→A14→A15→A16→A17→A18→A19→A20→A21→A22→R) (d:A0×A1×A2×A3×A4×A5×A6×A7×A8×A9×A10×A11×A12×A13×A14×A15×A16×A17×A18×A19×A20×A21×A22×U):R:=u22 (f d.1) d.2
@[reducible] def u24 {R U A0 A1 A2 A3 A4 A5 A6 A7 A8 A9 A10 A11 A12 A13 A14 A15 A16 A17 A18 A19 A20 A21 A22 A23:Type} (f:A0→A1→A2→A3→A4→A5→A6→A7→A8→A9→A10→A11→A12→A13→A14→A15→A16→A17→A18→A19→A20→A21→A22→A23→R) (d:A0×A1×A2×A3×A4×A5×A6×A7×A8×A9×A10×A11×A12×A13×A14×A15×A16×A17×A18×A19×A20×A21×A22×A23×U):R:=u23 (f d.1) d.2
@[reducible] def u25 {R U A0 A1 A2 A3 A4 A5 A6 A7 A8 A9 A10 A11 A12 A13 A14 A15 A16 A17 A18 A19 A20 A21 A22 A23 A24:Type} (f:A0→A1→A2→A3→A4→A5→A6→A7→A8→A9→A10→A11→A12→A13→A14→A15→A16→A17→A18→A19→A20→A21→A22→A23→A24→R) (d:A0×A1×A2×A3×A4×A5×A6×A7×A8×A9×A10×A11×A12×A13×A14×A15×A16×A17×A18×A19×A20×A21×A22×A23×A24×U):R:=u24 (f d.1) d.2
@[reducible] def u26 {R U A0 A1 A2 A3 A4 A5 A6 A7 A8 A9 A10 A11 A12 A13 A14 A15 A16 A17 A18 A19 A20 A21 A22 A23 A24 A25:Type} (f:A0→A1→A2→A3→A4→A5→A6→A7→A8→A9→A10→A11→A12→A13→A14→A15→A16→A17→A18→A19→A20→A21→A22→A23→A24→A25→R) (d:A0×A1×A2×A3×A4×A5×A6×A7×A8×A9×A10×A11×A12×A13×A14×A15×A16×A17×A18×A19×A20×A21×A22×A23×A24×A25×U):R:=u25 (f d.1) d.2
@[reducible] def u27 {R U A0 A1 A2 A3 A4 A5 A6 A7 A8 A9 A10 A11 A12 A13 A14 A15 A16 A17 A18 A19 A20 A21 A22 A23 A24 A25 A26:Type} (f:A0→A1→A2→A3→A4→A5→A6→A7→A8→A9→A10→A11→A12→A13→A14→A15→A16→A17→A18→A19→A20→A21→A22→A23→A24→A25→A26→R) (d:A0×A1×A2×A3×A4×A5×A6×A7×A8×A9×A10×A11×A12×A13×A14×A15×A16×A17×A18×A19×A20×A21×A22×A23×A24×A25×A26×U):R:=u26 (f d.1) d.2
@[reducible] def u28 {R U A0 A1 A2 A3 A4 A5 A6 A7 A8 A9 A10 A11 A12 A13 A14 A15 A16 A17 A18 A19 A20 A21 A22 A23 A24 A25 A26 A27:Type} (f:A0→A1→A2→A3→A4→A5→A6→A7→A8→A9→A10→A11→A12→A13→A14→A15→A16→A17→A18→A19→A20→A21→A22→A23→A24→A25→A26→A27→R) (d:A0×A1×A2×A3×A4×A5×A6×A7×A8×A9×A10×A11×A12×A13×A14×A15×A16×A17×A18×A19×A20×A21×A22×A23×A24×A25×A26×A27×U):R:=u27 (f d.1) d.2
@[reducible] def u29 {R U A0 A1 A2 A3 A4 A5 A6 A7 A8 A9 A10 A11 A12 A13 A14 A15 A16 A17 A18 A19 A20 A21 A22 A23 A24 A25 A26 A27 A28:Type} (f:A0→A1→A2→A3→A4→A5→A6→A7→A8→A9→A10→A11→A12→A13→A14→A15→A16→A17→A18→A19→A20→A21→A22→A23→A24→A25→A26→A27→A28→R) (d:A0×A1×A2×A3×A4×A5×A6×A7×A8×A9×A10×A11×A12×A13×A14×A15×A16×A17×A18×A19×A20×A21×A22×A23×A24×A25×A26×A27×A28×U):R:=u28 (f d.1) d.2
@[reducible] def u30 {R U A0 A1 A2 A3 A4 A5 A6 A7 A8 A9 A10 A11 A12 A13 A14 A15 A16 A17 A18 A19 A20 A21 A22 A23 A24 A25 A26 A27 A28 A29:Type} (f:A0→A1→A2→A3→A4→A5→A6→A7→A8→A9→A10→A11→A12→A13→A14→A15→A16→A17→A18→A19→A20→A21→A22→A23→A24→A25→A26→A27→A28→A29→R) (d:A0×A1×A2×A3×A4×A5×A6×A7×A8×A9×A10×A11×A12×A13×A14×A15×A16×A17×A18×A19×A20×A21×A22×A23×A24×A25×A26×A27×A28×A29×U):R:=u29 (f d.1) d.2
@[reducible] def u31 {R U A0 A1 A2 A3 A4 A5 A6 A7 A8 A9 A10 A11 A12 A13 A14 A15 A16 A17 A18 A19 A20 A21 A22 A23 A24 A25 A26 A27 A28 A29 A30:Type} (f:A0→A1→A2→A3→A4→A5→A6→A7→A8→A9→A10→A11→A12→A13→A14→A15→A16→A17→A18→A19→A20→A21→A22→A23→A24→A25→A26→A27→A28→A29→A30→R) (d:A0×A1×A2×A3×A4×A5×A6×A7×A8×A9×A10×A11×A12×A13×A14×A15×A16×A17×A18×A19×A20×A21×A22×A23×A24×A25×A26×A27×A28×A29×A30×U):R:=u30 (f d.1) d.2
@[reducible] def u32 {R U A0 A1 A2 A3 A4 A5 A6 A7 A8 A9 A10 A11 A12 A13 A14 A15 A16 A17 A18 A19 A20 A21 A22 A23 A24 A25 A26 A27 A28 A29 A30 A31:Type} (f:A0→A1→A2→A3→A4→A5→A6→A7→A8→A9→A10→A11→A12→A13→A14→A15→A16→A17→A18→A19→A20→A21→A22→A23→A24→A25→A26→A27→A28→A29→A30→A31→R) (d:A0×A1×A2×A3×A4×A5×A6×A7×A8×A9×A10×A11×A12×A13×A14×A15×A16×A17×A18×A19×A20×A21×A22×A23×A24×A25×A26×A27×A28×A29×A30×A31×U):R:=u31 (f d.1) d.2
structure TL where
 nt:Nat
 ins:List Item
 outs:List Item
 id:Nat
 L:Nat→D (tysI ins [])→Option (D (tysI outs []))
 S:Nat→D (tysI ins [])→Option (D (tysI outs []))
def TL.ann(t:TL)(F:Nat){ρ:Type}:Ann ρ:=annS t.nt t.ins t.outs (t.L F)
def TL.ok(P:Program)(fn:Func)(t:TL)(F:Nat):Prop:=∀{ρ:Type} (B:Base) (w:World),qzc (ρ:=ρ) P false B w (.block t.id (.loop (z13 (qgk fn) t.id))) (t.ann F)
structure TX where
 nt:Nat
 ins:List Item
 outX:List Item
 outs:List Item
 e2:Exit
 id:Nat
 L:Nat→D (tysI ins [])→Option (D (tysI outX [])⊕D (tysI outs []))
 S:Nat→D (tysI ins [])→Option (D (tysI outX [])⊕D (tysI outs []))
def TX.ann(t:TX)(F:Nat){ρ:Type}:Ann ρ:=annX t.nt t.ins t.outX t.outs t.e2 (t.L F)
def TX.ok(P:Program)(fn:Func)(t:TX)(F:Nat):Prop:=∀{ρ:Type} (B:Base) (w:World),qzc (ρ:=ρ) P false B w (.block t.id (.loop (z13 (qgk fn) t.id))) (t.ann F)
theorem aN{ρ:Type}{P:Program}{c:Code}:qjj (ρ:=ρ) P c []:=zme P c
theorem aL{ρ:Type}{P:Program}{fn:Func}{c:Code}{t:TL}{F:Nat}{l:List (Nat×Ann ρ)}(hb:qto c t.id=[.loop (z13 (qgk fn) t.id)])(h:t.ok P fn F)(hl:qjj P c l):qjj P c ((t.id,t.ann F)::l):=
 z5a hb (fun B w=>h B w) hl
theorem aX{ρ:Type}{P:Program}{fn:Func}{c:Code}{t:TX}{F:Nat}{l:List (Nat×Ann ρ)}(hb:qto c t.id=[.loop (z13 (qgk fn) t.id)])(h:t.ok P fn F)(hl:qjj P c l):qjj P c ((t.id,t.ann F)::l):=
 z5a hb (fun B w=>h B w) hl
theorem okF{P:Program}(hP:q1w P){l:List ToldF}(hl:q03 P l){fn:Func}{t:ToldF}(anns:List (Nat×Ann (D (tysO t.os))))(hf:P.funcs[t.f]? =some fn)(ha:qjj P (qgk fn) anns)
  (h:∀d,zbr P (calT P l _) (qcalT l _) (z1u anns) t.f (bldS t.n t.ins d).tmps (bldS t.n t.ins d).heap (endO t.os)=t.F d):t.ok P:=
 toldF_ok hP hl hf ha h
theorem okL{P:Program}(hP:q1w P){l:List ToldF}(hl:q03 P l){fn:Func}{t:TL}{F:Nat}(anns:List (Nat×Ann (D (tysI t.outs []))))(ha:qjj P (z13 (qgk fn) t.id) anns)
  (h0:∀d,t.L 0 d=none) (h1:∀k d,t.S k d=t.L (k+1) d)
  (hs:∀k d,q6r P (calT P l _) (qcalT l _) (z1u anns) (z13 (qgk fn) t.id) (bldS t.nt t.ins d) (kS t.nt t.ins t.outs t.id (t.L k))=t.S k d):t.ok P fn F:=by
 intro ρ B w
 exact toldS_ok hP hl ha h0 (fun k d=>(hs k d).trans (h1 k d)) F B w
theorem okX{P:Program}(hP:q1w P){l:List ToldF}(hl:q03 P l){fn:Func}{t:TX}{F:Nat}(anns:List (Nat×Ann (D (tysI t.outX [])⊕D (tysI t.outs []))))(ha:qjj P (z13 (qgk fn) t.id) anns)
  (h0:∀d,t.L 0 d=none) (h1:∀k d,t.S k d=t.L (k+1) d) (he:t.e2= .ret∨∃j,t.e2= .exit j∧j≠t.id)
  (hs:∀k d,q6r P (calT P l _) (qcalT l _) (z1u anns) (z13 (qgk fn) t.id) (bldS t.nt t.ins d) (kX t.nt t.ins t.outX t.outs t.id t.e2 (t.L k))=t.S k d):t.ok P fn F:=by
 intro ρ B w
 exact toldX_ok hP hl ha h0 (fun k d=>(hs k d).trans (h1 k d)) he F B w
theorem eR{e:Exit}{id:Nat}(h:e= .ret):e= .ret∨∃j,e= .exit j∧j≠id:= .inl h
end Go.AE
namespace Go.AE
open Go Go.RowKit
theorem law_told{P:Program}{t:ToldF}(h:t.ok P)(ho:t.os=[.ty .bool]){d:D (tysI t.ins [])}(hd:t.F d=some (ho▸(true,()))){M:List Place}{w:World}{vs:Array Value}
  (hl:RelL M (bldS t.n t.ins d).tmps vs.toList) (hH:RelH M (bldS t.n t.ins d).heap (Base.at w.heap.size) w):Calls P t.f vs w fun e w' =>e= .returned (.bool true)∧Below w.heap.size w w' :=by
 obtain⟨f,n,ins,os,F⟩:=t
 dsimp only at ho hd hl hH
 subst ho
 refine(h d _ hd M _ w vs hl hH).mono ?_
 rintro e w' ⟨rs,rfl,hb,N,Fz,_,_,_,_,_,hav,_⟩
 have hr:=hav []
 obtain⟨v,vs',hv,hx,hn⟩:=RelL_cons.1 hr
 have hn:vs' =[]:=by simpa[avsO,RelL_nil]using hn
 subst hn
 refine⟨?_,hb.below⟩
 have e1:=(q3g (x:=true) (l:=none) hx).1
 have h1:rs= #[.bool true]:=by
  apply Array.toList_inj.1
  rw[hv,e1]
 subst h1
 rfl
end Go.AE
namespace Go.AE
open Go Go.RowKit
theorem zcv{P:Program}{ρ:Operand→Value}{o:Oper}{t t' :TypeId}{e:TypeId}{x:Operand}(ho:o.op= .binOp .eql t x (.const (.slice none 0 0)) t'){A:Option Addr}{len cap:Nat}(hx:ρ x= .slice A len cap)(hy:ρ (.const (.slice none 0 0))= .slice none 0 0)(hu:P.underlying t=some (.slice e))(w:World):
  (execOp ρ o).run P w= .ok (.value (.bool A.isNone)) w:=by
 have h:(Op.equalIn Op.maxDepth t (.slice A len cap) (.slice none 0 0)).run P w= .ok A.isNone w:=by
  rw[show Op.maxDepth=(Op.maxDepth-1)+1 from rfl]
  simp only[Op.equalIn,Sem.run_bind,run_underlying hu,Result.andThen_ok]
  cases A<;>rfl
 simp[execOp,ho,hx,hy,eqGuard,binOp,Op.equal,h]
theorem wp_to{P:Program}(hP:q1w P){cal:Cal St}(hcal:∀f,qpt P f (cal f)){qcal:QCal St}(hq:∀f,qjh P f (qcal f)){c:Code}{st st' :St}(h:q6r P cal qcal (fun _=>none) c st (fun e s=>match e with| .normal=>some s|_=>none)=some st')
  {M:List Place} {B:Base} {w0:World} {a:Go.Act} {w:World} (hr:Rel M st B w0 a w) {Q:Exit→Go.Act→World→Prop} (hn:∀M' a' w',Rel M' st' B w0 a' w' →Q .normal a' w'):c.wp P Q a w:=by
 refine qf0 hP hcal hq c (fun _ _ _ h=>by cases h) st _ h M a w Q hr fun e M' s a' w' (_:ExtO true M M') hk hr' => ?_
 cases e<;>simp only[reduceCtorEq]at hk
 cases hk
 exact hn M' a' w' hr'
def z5b(sz:Nat)(l:LI):Option (LI×Unit):=
 cond (decide (0+div1 l.length sz≤1099511627776)&&(if false=true then decide (0<div1 l.length sz)else true)) (some (l,())) none
abbrev k0:Exit→St→Option St:=fun e s=>match e with| .normal=>some s|_=>none
theorem zmf{P:Program}(hP:q1w P){f:FuncId}{fn:Func}(hf:P.funcs[f]? =some fn){k:IntKind}{sz:Nat}{R0 X REST:Code}{i1:Nat}{o3 o4:Oper}{t t' e:TypeId}
  (hb:fn.body=some (.seq R0 (.seq (.seq (.region i1 #[o3,o4] false) (.cond (.tmp 4) X .skip)) REST)))
  (ho4:o4.op= .binOp .eql t (.tmp 3) (.const (.slice none 0 0)) t') (hd4:o4.dst=some 4) (hg4:o4.guard=none) (hg3:o3.guard=none) (hu:P.underlying t=some (.slice e))
  (st1 st2:LI→St)
  (h0:∀l,q6r P (evFn P (qeg St) 1) (qof (qeg St)) (fun _=>none) R0 ⟨[.sl 1 0 (div1 (ya (α:=Int) l) sz) sz .whole]++yy (fn.ntmps-1) .undef,[none,some ⟨.row k l,false,none⟩]⟩ k0=some (st1 l))
  (h3:∀l,z4l P (evFn P (qeg St) 1) o3 (st1 l) some=some (st2 l))
  (hs3:∀l,(st2 l).tmps.getD 3 .undef= .sl 1 0 (div1 (ya (α:=Int) l) sz) sz .whole∧(st2 l).heap=[none,some ⟨.row k l,false,none⟩])
  (hlen:∀l,4<(st2 l).tmps.length)
  (hX:∀l,q6r P (evFn P (qeg (D (tysO [.row k sz]))) 1) (qof (qeg _)) (fun _=>none) X ((st2 l).put (some 4) (.bool (some true) true)) (fun e st=>match e with
   | .ret=>(match z1r P st fn.results.toList with|some l=>endO [.row k sz] l st.heap|none=>none)|_=>none)=some ([],()))
  (hR:∀l,q6r P (evFn P (qeg (D (tysO [.row k sz]))) 1) (qof (qeg _)) (fun _=>none) REST ((st2 l).put (some 4) (.bool (some false) false)) (fun e st=>match e with
   | .ret=>(match z1r P st fn.results.toList with|some l=>endO [.row k sz] l st.heap|none=>none)|_=>none)=z5b sz l):
  zgs P f 1 [.row k sz (.slot 0) false] [.row k sz] (fun d=>z5b sz d.1):=by
 rintro⟨l,⟨⟩⟩ r hF M B w vs hl hH
 have hF:z5b sz l=some r:=hF
 have hl:RelL M [.sl 1 0 (div1 l.length sz) sz .whole] vs.toList:=hl
 have hH:RelH M [none,some ⟨.row k l,false,none⟩] B w:=hH
 have hs:=qx5 hl
 simp at hs
 refine calls_of_wp hf hb ?_
 have e0:=z55 P St
 have e1:=z55 P (D (tysO [Out.row k sz]))
 have hr0:Rel M ⟨[.sl 1 0 (div1 l.length sz) sz .whole]++yy (fn.ntmps-1) .undef,[none,some ⟨.row k l,false,none⟩]⟩ B w {tmps:=vs++Array.replicate (fn.ntmps-vs.size) undef,defers:=[]} w:=
  ⟨by rw[←hs];exact z51 hl _,rfl,hH,Beneath.refl _ _⟩
 refine wp_seq (wp_to hP (z52 hP e0 1) (zkz e0) (h0 l) hr0 fun M1 a1 w1 hr1=> ?_)
 refine wp_seq (wp_seq (wp_region_list ?_))
 show wpList P #[o3,o4] _ [o3,o4] a1 w1
 unfold wpList
 rw[iP (by simp[Region.wanted,hg3])]
 refine .inl (z0s hP (z52 hP e0 1) (h3 l) hr1 fun M2 st a2 w2 hE hk hr2=> ?_)
 cases hk
 unfold wpList
 rw[iP (by simp[Region.wanted,hg4])]
 refine .inl ?_
 obtain⟨hs1,hs2⟩:=hs3 l
 have hv3:=hr2.tmps.2 3
 rw[hs1]at hv3
 have hv3' :=hv3
 simp only[RelV,RelX]at hv3
 obtain⟨pl,A,cap,hpl,hv,hn,hcap,hnil,hnn,_⟩:=hv3
 have hv:a2.tmps.getD 3 undef= .slice A (div1 l.length sz) cap:=by simpa using hv
 have hrun:=zcv (ρ:=a2.eval) ho4 (by simpa[Go.Act.eval]using hv) (by simp[Go.Act.eval]) hu w2
 unfold Oper.wp
 rw[hrun,Oper.upon_value,hd4]
 unfold wpList
 have hrb:∀b,A.isNone=b→Rel M2 ((st2 l).put (some 4) (.bool (some b) b)) B w (a2.put (some 4) (.bool A.isNone)) w2:=by
  intro b hb
  rw[hb]
  exact hr2.put (by simp[RelV,RelX]) (some 4)
 have fin:∀{c:Code} {b:Bool} {Q:Exit→Go.Act→World→Prop},A.isNone=b→q6r P (evFn P (qeg (D (tysO [.row k sz]))) 1) (qof (qeg _)) (fun _=>none) c ((st2 l).put (some 4) (.bool (some b) b)) (fun e st=>match e with
   | .ret=>(match z1r P st fn.results.toList with|some l=>endO [.row k sz] l st.heap|none=>none)|_=>none)=some r→
   (∀a' w',(a'.defers=[]∧∃v,(results fn a'.tmps).run P w' = .ok v w' ∧∃rs:Array Value,Ending.returned v= .returned (retV rs)∧Beneath B w w' ∧zoj B w' [.row k sz] r rs.toList)→Q .ret a' w')→
   c.wp P Q (a2.put (some 4) (.bool A.isNone)) w2:=by
  intro c b Q hb hev hQ
  refine qf0 hP (z52 hP e1 1) (zkz e1) c (fun _ _ _ h=>by cases h) _ _ hev M2 _ w2 _ (hrb b hb) fun e M3 st3 a3 w3 (_:ExtO true M2 M3) hk hr3=> ?_
  cases e<;>simp only[reduceCtorEq]at hk
  split at hk
  ·rename_i l3 hres
   obtain⟨rs,g1,g2⟩:=z50 hr3.tmps hr3.heap hres
   exact hQ _ _ ⟨hr3.defers,_,g2,rs,rfl,hr3.below,zgr hr3.heap hk g1⟩
  ·cases hk
 have ev4:(a2.put (some 4) (.bool A.isNone)).eval (.tmp 4)= .bool A.isNone:=by
  have h4:4<a2.tmps.size:=by rw[←hr2.tmps.1];exact hlen l
  simp[Go.Act.eval,Go.Act.put,h4]
 cases hA:A.isNone with
 |true=>
  rw[hA]at ev4 fin
  refine wp_cond_true ev4 (fin rfl ?_ fun a' w' h=>h)
  have hpn:pl.nil=true:=by
   cases hp:pl.nil with
   |true=>rfl
   |false=>exact absurd (Option.isNone_iff_eq_none.1 hA) (hnn hp).1
  have hl0:l=[]:=by
   obtain⟨p0,hp0,hok⟩:=hr2.heap.obj 1 ⟨.row k l,false,none⟩ (by rw[hs2];rfl)
   rw[hpl]at hp0
   cases hp0
   rcases hok with⟨_,hn0,hro⟩|⟨h,_⟩
   ·simp only[RelO]at hro
    have:=congrArg ya hro.1
    exact List.length_eq_zero_iff.1 (by simpa using this.symm)
   ·rw[hpn]at h;cases h
  subst hl0
  have:r=([],()):=by simpa[z5b,zj6]using hF.symm
  subst this
  exact hX []
 |false=>
  rw[hA]at ev4 fin
  refine wp_cond_false ev4 (wp_skip ?_)
  show Code.wp P REST _ _ _
  refine fin rfl ?_ fun a' w' h=>h
  rw[hR]
  exact hF
def cloneR0(c:Code):Code:=match c with| .seq a _=>a|_=> .skip
def cloneX(c:Code):Code:=match c with| .seq _ (.seq (.seq _ (.cond _ x _)) _)=>x|_=> .skip
def zos(c:Code):Code:=match c with| .seq _ (.seq _ y)=>y|_=> .skip
def zl2(c:Code):List Oper:=match c with| .seq _ (.seq (.seq (.region _ ops _) _) _)=>ops.toList|_=>[]
def zot : Oper := ⟨none, .assign (.tmp 0), 0, "", #[], none⟩
def cloneO3(c:Code):Oper:=match zl2 c with|[a,_]=>a|_=>zot
def cloneO4(c:Code):Oper:=match zl2 c with|[_,b]=>b|_=>zot
theorem zou{l:LI}(h:l.length≤1099511627776):z5b 1 l=some (l,()):=by
 simp[z5b,zj6,h]
def cloneS1(sz:Nat)(k:IntKind)(l:LI):St:=⟨[.sl 1 0 (div1 l.length sz) sz .whole,.undef,.nils,.undef,.undef,.undef,.undef,.undef],[none,some ⟨.row k l,false,none⟩]⟩
def zov(sz:Nat)(k:IntKind)(l:LI):St:=⟨[.sl 1 0 (div1 l.length sz) sz .whole,.undef,.nils,.sl 1 0 (div1 l.length sz) sz .whole,.undef,.undef,.undef,.undef],[none,some ⟨.row k l,false,none⟩]⟩
end Go.AE
namespace Go.AE
open Go Go.RowKit
open Go.MapKept (Stamped stamped_push stamped_empty stamped_iff)
open Go.ChangeMaps (setBlock)
def MapAt(w:World)(b:Nat)(T:List (Value×Value)):Prop:=
 ∃es clock,w.heap[b]? =some (.map es clock)∧Stamped es clock∧(es.toList.map fun e=>(e.key,e.val)).Perm T
theorem MapAt.made(w:World):MapAt (w.alloc (.map #[] 0)) w.heap.size []:=
 ⟨#[],0,(MapKept.heap_alloc w _).1,stamped_empty 0,.nil⟩
theorem zcw{w:World}{b:Nat}{o o' :Obj}(h:w.heap[b]? =some o):(setBlock w b o').heap[b]? =some o' :=by
 have:=(Array.getElem?_eq_some_iff.1 h).1
 simp[setBlock,this]
theorem z94{w:World}{b i:Nat}{o' :Obj}(h:i≠b):(setBlock w b o').heap[i]? =w.heap[i]? :=by
 simp[setBlock,Array.getElem?_setIfInBounds_ne (Ne.symm h)]
theorem MapAt.ins{P:Program}{k t e:TypeId}(K:Maps.Keyed P k)(ht:P.underlying t=some (.map k e)){w:World}{b:Nat}{T:List (Value×Value)}(h:MapAt w b T)(hT:∀p∈T,∃l,keyOf P k p.1=some l){key val:Value}
  (hkey:∃l,keyOf P k key=some l) (hne:∀p∈T,p.1≠key):∃w',(Instr.mapUpdate t (.map (some b)) key val).run P w= .ok () w' ∧MapAt w' b ((key,val)::T)∧w.grownBy w' (some b):=by
 obtain⟨es,clock,hb,hst,hp⟩:=h
 obtain⟨kl,hkey⟩:=hkey
 have mem:∀x∈es.toList,(x.key,x.val)∈T:=fun x hx=>hp.mem_iff.1 (List.mem_map.2 ⟨x,hx,rfl⟩)
 have hn:∀x∈es.toList,x.key≠key:=fun x hx=>hne _ (mem x hx)
 rcases K.find w hkey es.toList (fun x hx=>hT _ (mem x hx))with⟨h1,_⟩|⟨j,e0,_,h2,h3⟩
 ·refine⟨setBlock w b (.map (es.push ⟨key,val,clock⟩) (clock+1)),?_,⟨_,_,zcw hb,stamped_push hst hn,?_⟩,⟨rfl,rfl,rfl,by simp[setBlock],fun i _ hi=>z94 fun e=>hi (by rw[e])⟩⟩
  ·simp[Instr.mapUpdate,run_underlying ht,MapKept.run_getObj_map hb,K.check w false hkey,h1,MapKept.run_setObj_map _ hb,Result.andThen,setBlock]
  ·rw[Array.toList_push,List.map_append,List.map_singleton]
   exact(List.perm_append_singleton _ _).trans (hp.cons _)
 ·exact absurd h3 (hn e0 (List.mem_of_getElem? h2))
theorem MapAt.kept{w w' :World}{n b:Nat}{T:List (Value×Value)}(h:MapAt w b T)(hb:Below n w w')(hn:b<n):MapAt w' b T:=by
 obtain⟨es,clock,h1,h2,h3⟩:=h
 exact⟨es,clock,(hb.block b hn).trans h1,h2,h3⟩
theorem Below.alloc(w:World)(o:Obj){n:Nat}(hn:n≤w.heap.size):Below n w (w.alloc o):=
 ⟨rfl,rfl,rfl,by simp,fun k hk=>(MapKept.heap_alloc w o).2 k (Nat.lt_of_lt_of_le hk hn)⟩
def rest:Nat→Code→Code
 |0,c=>c
 |n+1,.seq _ y=>rest n y
 |_+1,c=>c
theorem Below.weak{n m:Nat}{w w' :World}(h:Below n w w')(hm:m≤n):Below m w w' :=⟨h.os,h.tape,h.output,h.size,fun k hk=>h.block k (Nat.lt_of_lt_of_le hk hm)⟩
end Go.AE
namespace Go.AE
open Go Go.RowKit
open Go.ChangeMaps (setBlock)
structure FLoop (n dr b r:Nat) (x y:Int) (w0:World) (k:Nat) (a:Go.Act) (w:World):Prop where
 size:a.tmps.size=n
 defers:a.defers=[]
 s0:RelV M0 (.int .i64 none x) (a.tmps.getD 0 undef)
 s1:RelV M0 (.int .i64 none y) (a.tmps.getD 1 undef)
 sr:a.tmps.getD dr undef= .pointer (some ⟨r,0,none⟩)
 mem:∃es clock seen,w.heap[b]? =some (.map es clock)∧MapKept.Stamped es clock∧(es.toList.map fun e=>(e.key,e.val)).Perm (mapT 0)∧w.heap[r]? =some (.mapIter (some b) clock seen clock)∧(leftOf es seen).size=k∧
  ∀e∈es.toList,seen.contains e.born=true→∀q∈codesT,(e.key,e.val)=(.agg #[.int .i64 q.1,.int .i64 q.2.1],.int .i64 q.2.2)→¬(q.2.1=y∧q.2.2=x)
 below:Below w0.heap.size w0 w
 hb:w0.heap.size≤b
 hr:w0.heap.size≤r
 ne:r≠b
def seqB:Code→Code
 | .seq _ y=>y
 |_=> .skip
end Go.AE
namespace Go.AE.Gn
open Go Go.AE
def z5c(F:Nat)(a0:LI)(a1:Int)(a2:Int):Option (Bool×Unit):=
 let v2:Int:=(y0 .i64 (8*(((ya a0):Nat):Int)))
 cond (decide (a1≤v2))
  (let v4:Int:=(y0 .i64 (v2-a1))
  some ((decide (a2≤v4)),()))
  (some (false,()))
def qld(F:Nat)(a0:LI)(a1:Int)(a2:Int):Option (Int×Unit):=
 cond (decide (a1<0))
  (some (1,()))
  (cond (decide (a2<0))
   (some (1,()))
   (cond (decide (64<a2))
    (some (1,()))
    ((z5c F a0 a1 a2).bind fun r10=>
    cond (!r10.1)
     (some (2,()))
     (some (0,())))))
def qx9:LI:=[0,0,0,0,0,0,0,0]
def qqu(F:Nat)(rec:Int→LI→LI→Int→Option (LI×LI×Unit))(x0:Int)(x1:LI)(x2:LI)(x3:Int):Option (LI×LI×Unit):=
 cond (decide (x3<8))
  (cond (decide (0≤x3))
   (cond ((decide (0≤x3))&&(decide (x3<8)))
    (rec x0 x1 (yx x2 (y6 x3) (iand .u8 (ishr .u8 x0 x3) 1)) (y0 .i64 (x3+1)))
     none)
    none)
  (some (x1,x2,()))
def qei(F:Nat):Nat→Int→LI→LI→Int→Option (LI×LI×Unit)
 |0,_,_,_,_=>none
 |k+1,x0,x1,x2,x3=>qqu F (qei F k) x0 x1 x2 x3
def qmw(F:Nat)(a0:Int):Option (LI×Unit):=
 (qei F F a0 qx9 qx9 0).bind fun r31=>
 let l32:LI:=(if((0=0)∧(8=8))then r31.2.1 else(y8 8 (y9 0 r31.2.1)))
 let l33:LI:=(if((0=0)∧(8=8))then l32 else(((y8 0 r31.1)++l32)++(y9 8 r31.1)))
 some ((if((0=0)∧(8=8))then l33 else(y8 8 (y9 0 l33))),())
def qxa(F:Nat)(a0:LI)(a1:Int):Option (Int×Unit):=
 let v73:Int:=(y0 .i64 (yw a1 8))
 cond ((decide (0≤v73))&&(decide (v73<(((ya a0):Nat):Int))))
  ((qmw F (y7 a0 (y6 v73) 0)).bind fun r77=>
  let v79:Int:=(y0 .i64 (7-(yv a1 8)))
  cond ((decide (0≤v79))&&(decide (v79<8)))
   (some ((y7 r77.1 (y6 v79) 0),()))
    none)
   none
def qgx(F:Nat)(rec:LI→Int→Int→Int→Int→Int→Option ((Int×Unit)⊕(Int×Int×Unit)))(x0:LI)(x1:Int)(x2:Int)(x3:Int)(x4:Int)(x5:Int):Option ((Int×Unit)⊕(Int×Int×Unit)):=
 cond (decide (x5<x4))
  (cond (x2 !=0)
   (some (.inl (x2,())))
   ((qxa F x0 (y0 .i64 (x1+x5))).bind fun r103=>
   rec x0 x1 x2 (ior .u64 (ishl .u64 x3 1) r103.1) x4 (y0 .i64 (x5+1))))
  (some (.inr (x2,x3,())))
def q8u(F:Nat):Nat→LI→Int→Int→Int→Int→Int→Option ((Int×Unit)⊕(Int×Int×Unit))
 |0,_,_,_,_,_,_=>none
 |k+1,x0,x1,x2,x3,x4,x5=>qgx F (q8u F k) x0 x1 x2 x3 x4 x5
def qc6(F:Nat)(a0:LI)(a1:Int)(a2:Int):Option (Int×Int×Unit):=
 (qld F a0 a1 a2).bind fun r83=>
 (q8u F F a0 a1 r83.1 0 a2 0).bind fun r106=>match r106 with
  | .inl r106=>(some (0,r106.1,()))
  | .inr r106=>(some (r106.2.1,r106.1,()))
def qxb(F:Nat)(a0:LI)(a1:Int)(a2:Int)(a3:Int):Option (Int×Unit):=
 (qld F a0 a1 a2).bind fun r108=>
 cond (r108.1 !=0)
  (some (r108.1,()))
  (cond (decide (a2<64))
   (cond (decide (0≤a2))
    (cond ((ishr .u64 a3 a2) !=0)
     (some (10,()))
     (some (0,())))
     none)
   (some (0,())))
def q8h(F:Nat)(a0:LI):Option (LI×Unit):=z5b 1 a0
def z41(F:Nat)(a0:Int)(a1:Int)(a2:Int):Option (Int×Unit):=
 let b114:Bool:=(decide (0≤a1))
 cond b114
  (cond b114
   (some ((ior .u8 (qwu .u8 a0 (ishl .u8 1 a1)) (ishl .u8 (y0 .u8 (iand .u64 a2 1)) a1)),()))
    none)
   none
def qfv(F:Nat)(rec:Int→Int→Int→LI→Int→Int→Option (LI×Unit))(x0:Int)(x1:Int)(x2:Int)(x3:LI)(x4:Int)(x5:Int):Option (LI×Unit):=
 cond (decide (x5<x4))
  (let v160:Int:=(y0 .i64 ((y0 .i64 ((y0 .i64 (x0+x1))-1))-x5))
  let v161:Int:=(y0 .i64 (yw v160 8))
  let b162:Bool:=((decide (0≤v161))&&(decide (v161<(((ya x3):Nat):Int))))
  cond b162
   (cond (decide (0≤x5))
    ((z41 F (y7 x3 (y6 v161) 0) (y0 .i64 (7-(yv v160 8))) (ishr .u64 x2 x5)).bind fun r169=>
    cond b162
     (rec x0 x1 x2 (yx x3 (y6 v161) r169.1) x4 (y0 .i64 (x5+1)))
      none)
     none)
    none)
  (some (x3,()))
def q6s(F:Nat):Nat→Int→Int→Int→LI→Int→Int→Option (LI×Unit)
 |0,_,_,_,_,_,_=>none
 |k+1,x0,x1,x2,x3,x4,x5=>qfv F (q6s F k) x0 x1 x2 x3 x4 x5
def q2p(F:Nat)(a0:LI)(a1:Int)(a2:Int)(a3:Int):Option (LI×Int×Unit):=
 (qxb F a0 a1 a2 a3).bind fun r122=>
 cond (r122.1 !=0)
  (some ([],r122.1,()))
  ((q8h F a0).bind fun r124=>
  (q6s F F a1 a2 a3 r124.1 a2 0).bind fun r172=>
  some (r172.1,0,()))
def qtp(F:Nat)(a0:LI)(a1:Int)(a2:Int):Option (Bool×Unit):=
 let v296:Int:=(y0 .i64 (8*(((ya a0):Nat):Int)))
 cond (decide (a1≤v296))
  (let v298:Int:=(y0 .i64 (v296-a1))
  some ((decide (a2≤v298)),()))
  (some (false,()))
def qmx(F:Nat)(rec:Int→Int→Int→Option (Int×Unit))(x0:Int)(x1:Int)(x2:Int):Option (Int×Unit):=
 cond (decide (x2<x0))
  (rec x0 (y0 .i64 (yw x1 2)) (y0 .i64 (x2+1)))
  (some (x1,()))
def q8v(F:Nat):Nat→Int→Int→Int→Option (Int×Unit)
 |0,_,_,_=>none
 |k+1,x0,x1,x2=>qmx F (q8v F k) x0 x1 x2
def qc7(F:Nat)(a0:LI)(a1:Int)(a2:Bool):Option (Int×Unit):=
 let v301:Int:=(yv a1 8)
 cond a2
  (let v303:Int:=(y0 .i64 (yw a1 8))
  cond ((decide (0≤v303))&&(decide (v303<(((ya a0):Nat):Int))))
   ((q8v F F (y0 .i64 (7-v301)) (y7 a0 (y6 v303) 0) 0).bind fun r315=>
   some ((yv r315.1 2),()))
    none)
  (let v317:Int:=(y0 .i64 (yw a1 8))
  cond ((decide (0≤v317))&&(decide (v317<(((ya a0):Nat):Int))))
   ((q8v F F v301 (y7 a0 (y6 v317) 0) 0).bind fun r324=>
   some ((yv r324.1 2),()))
    none)
def qmy(F:Nat)(rec:LI→Int→Int→Bool→Int→Int→Option (Int×Unit))(x0:LI)(x1:Int)(x2:Int)(x3:Bool)(x4:Int)(x5:Int):Option (Int×Unit):=
 cond (decide (x5<x2))
  (cond x3
   ((qc7 F x0 (y0 .i64 (x1+x5)) x3).bind fun r367=>
   rec x0 x1 x2 x3 (y0 .u64 ((y0 .u64 (2*x4))+(y0 .u64 r367.1))) (y0 .i64 (x5+1)))
   ((qc7 F x0 (y0 .i64 ((y0 .i64 ((y0 .i64 (x1+x2))-1))-x5)) x3).bind fun r372=>
   rec x0 x1 x2 x3 (y0 .u64 ((y0 .u64 (2*x4))+(y0 .u64 r372.1))) (y0 .i64 (x5+1))))
  (some (x4,()))
def q8w(F:Nat):Nat→LI→Int→Int→Bool→Int→Int→Option (Int×Unit)
 |0,_,_,_,_,_,_=>none
 |k+1,x0,x1,x2,x3,x4,x5=>qmy F (q8w F k) x0 x1 x2 x3 x4 x5
def qle(F:Nat)(a0:LI)(a1:Int)(a2:Int)(a3:Bool):Option (Int×Int×Unit):=
 cond (decide (a1<0))
  (some (0,1,()))
  (cond (decide (a2<0))
   (some (0,1,()))
   (cond (decide (64<a2))
    (some (0,1,()))
    ((qtp F a0 a1 a2).bind fun r330=>
    cond (!r330.1)
     (some (0,2,()))
     ((q8w F F a0 a1 a2 a3 0 0).bind fun r376=>
     some (r376.1,0,())))))
def qhy(F:Nat)(rec:Int→Int→Int→Option (Int×Unit))(x0:Int)(x1:Int)(x2:Int):Option (Int×Unit):=
 cond (decide (x2<x0))
  (rec x0 (y0 .u64 (2*x1)) (y0 .i64 (x2+1)))
  (some (x1,()))
def q84(F:Nat):Nat→Int→Int→Int→Option (Int×Unit)
 |0,_,_,_=>none
 |k+1,x0,x1,x2=>qhy F (q84 F k) x0 x1 x2
def q8x(F:Nat)(a0:Int):Option (Int×Unit):=
 (q84 F F a0 1 0).bind fun r384=>
 some (r384.1,())
def qmz(F:Nat)(rec:Int→Int→Bool→Int→LI→Int→Option (LI×Unit))(x0:Int)(x1:Int)(x2:Bool)(x3:Int)(x4:LI)(x5:Int):Option (LI×Unit):=
 cond (decide (x5<x1))
  (let v540:Int:=(y0 .i64 (x0+x5))
  cond x2
   (let v543:Int:=(y0 .i64 ((y0 .i64 ((y0 .i64 (x0+x1))-1))-x5))
   let v544:Int:=(yv v543 8)
   cond x2
    ((qc7 F x4 v543 x2).bind fun r549=>
    let v550:Int:=(y0 .i64 (yw v543 8))
    let b551:Bool:=((decide (0≤v550))&&(decide (v550<(((ya x4):Nat):Int))))
    cond b551
     ((q8x F (y0 .i64 (7-v544))).bind fun r555=>
     cond b551
      (rec x0 x1 x2 (y0 .u64 (yw x3 2)) (yx x4 (y6 v550) (y0 .u8 (y0 .i64 ((y7 x4 (y6 v550) 0)+(y0 .i64 ((y0 .i64 ((y0 .i64 (yv x3 2))-r549.1))*(y0 .i64 r555.1))))))) (y0 .i64 (x5+1)))
       none)
      none)
    ((qc7 F x4 v543 x2).bind fun r565=>
    let v566:Int:=(y0 .i64 (yw v543 8))
    let b567:Bool:=((decide (0≤v566))&&(decide (v566<(((ya x4):Nat):Int))))
    cond b567
     ((q8x F v544).bind fun r571=>
     cond b567
      (rec x0 x1 x2 (y0 .u64 (yw x3 2)) (yx x4 (y6 v566) (y0 .u8 (y0 .i64 ((y7 x4 (y6 v566) 0)+(y0 .i64 ((y0 .i64 ((y0 .i64 (yv x3 2))-r565.1))*(y0 .i64 r571.1))))))) (y0 .i64 (x5+1)))
       none)
      none))
   (let v578:Int:=(yv v540 8)
   cond x2
    ((qc7 F x4 v540 x2).bind fun r583=>
    let v584:Int:=(y0 .i64 (yw v540 8))
    let b585:Bool:=((decide (0≤v584))&&(decide (v584<(((ya x4):Nat):Int))))
    cond b585
     ((q8x F (y0 .i64 (7-v578))).bind fun r589=>
     cond b585
      (rec x0 x1 x2 (y0 .u64 (yw x3 2)) (yx x4 (y6 v584) (y0 .u8 (y0 .i64 ((y7 x4 (y6 v584) 0)+(y0 .i64 ((y0 .i64 ((y0 .i64 (yv x3 2))-r583.1))*(y0 .i64 r589.1))))))) (y0 .i64 (x5+1)))
       none)
      none)
    ((qc7 F x4 v540 x2).bind fun r599=>
    let v600:Int:=(y0 .i64 (yw v540 8))
    let b601:Bool:=((decide (0≤v600))&&(decide (v600<(((ya x4):Nat):Int))))
    cond b601
     ((q8x F v578).bind fun r605=>
     cond b601
      (rec x0 x1 x2 (y0 .u64 (yw x3 2)) (yx x4 (y6 v600) (y0 .u8 (y0 .i64 ((y7 x4 (y6 v600) 0)+(y0 .i64 ((y0 .i64 ((y0 .i64 (yv x3 2))-r599.1))*(y0 .i64 r605.1))))))) (y0 .i64 (x5+1)))
       none)
      none)))
  (some (x4,()))
def q8y(F:Nat):Nat→Int→Int→Bool→Int→LI→Int→Option (LI×Unit)
 |0,_,_,_,_,_,_=>none
 |k+1,x0,x1,x2,x3,x4,x5=>qmz F (q8y F k) x0 x1 x2 x3 x4 x5
def qf1(F:Nat)(a0:LI)(a1:Int)(a2:Int)(a3:Bool)(a4:Int):Option (LI×Int×Unit):=
 (qle F a0 a1 a2 a3).bind fun r386=>
 cond (r386.2.1 !=0)
  (some ([],r386.2.1,()))
  (let b388:Bool:=(decide (a2<64))
  cond b388
   ((q8x F a2).bind fun r389=>
   let b390:Bool:=(decide (r389.1≤a4))
   cond b390
    (some ([],10,()))
    (cond ((decide ((0+(ya a0))≤1099511627776))&&(if(false=true)then(decide (0<(ya a0)))else true))
     ((q8y F F a1 a2 a3 a4 ([]++a0) 0).bind fun r612=>
     some (r612.1,0,()))
      none))
   (cond ((decide ((0+(ya a0))≤1099511627776))&&(if(false=true)then(decide (0<(ya a0)))else true))
    ((q8y F F a1 a2 a3 a4 ([]++a0) 0).bind fun r691=>
    some (r691.1,0,()))
     none))
def q5u:LI:=[0,0,0,0,0,0,0,0]
def q1x:LI:=[0,0,0,0,0,0,0,0,0,0,0,0,0,0,0,0]
def zgx(F:Nat)(a0:Int)(a1:Int)(a2:Int)(a3:Int)(a4:Int):Option (Int×Unit):=
 cond (decide (a3<1))
  (some (0,()))
  (let v396:Int:=(y0 .i64 ((y0 .i64 ((y0 .i64 (a0*(y0 .i64 (a3-a2))))+(y0 .i64 (a1*a2))))+a4))
  let b397:Bool:=(!(a3==0))
  cond b397
   (let v398:Int:=(y0 .i64 (yw v396 a3))
   cond b397
    (cond (decide ((yv v396 a3)<0))
     (some ((y0 .i64 (v398-1)),()))
     (some (v398,())))
     none)
    none)
def qqv(F:Nat)(a0:Int):Option (Bool×Unit):=
 cond (decide (a0<1))
  (some (true,()))
  (some ((decide (8<a0)),()))
def qun(F:Nat)(rec:Int→Int→Int→Int→Option (Int×Int×Unit))(x0:Int)(x1:Int)(x2:Int)(x3:Int):Option (Int×Int×Unit):=
 cond (decide (x3<8))
  (cond (decide (0≤x1))
   (rec x0 x1 (ior .i64 (ishl .i64 x2 x1) x0) (y0 .i64 (x3+x1)))
    none)
  (some (x2,x3,()))
def qgy(F:Nat):Nat→Int→Int→Int→Int→Option (Int×Int×Unit)
 |0,_,_,_,_=>none
 |k+1,x0,x1,x2,x3=>qun F (qgy F k) x0 x1 x2 x3
def q0z(F:Nat)(a0:Int)(a1:Int):Option (Int×Unit):=
 (qqv F a1).bind fun r514=>
 cond r514.1
  (some (0,()))
  (cond (decide (0≤a1))
   ((qgy F F (iand .i64 a0 (y0 .i64 ((ishl .i64 1 a1)-1))) a1 0 0).bind fun r533=>
   let v534:Int:=(y0 .i64 (r533.2.1-8))
   cond (decide (0≤v534))
    (some ((ishr .i64 r533.1 v534),()))
     none)
    none)
def qn0(F:Nat)(a0:LI)(a1:Int)(a2:Int):Option (Int×Unit):=
 (qle F a0 a1 a2 false).bind fun r687=>
 some ((y0 .i64 r687.1),())
def q6t(F:Nat)(rec:LI→LI→LI→Int→Option (LI×LI×LI×Unit))(x0:LI)(x1:LI)(x2:LI)(x3:Int):Option (LI×LI×LI×Unit):=
 cond (decide (x3<16))
  ((qn0 F x0 (y0 .i64 (16+(y0 .i64 (3*x3)))) 3).bind fun r704=>
  cond ((decide (0≤x3))&&(decide (x3<16)))
   (rec x0 x1 (yx x2 (y6 x3) r704.1) (y0 .i64 (x3+1)))
    none)
  (some (x0,x1,x2,()))
def q4r(F:Nat):Nat→LI→LI→LI→Int→Option (LI×LI×LI×Unit)
 |0,_,_,_,_=>none
 |k+1,x0,x1,x2,x3=>q6t F (q4r F k) x0 x1 x2 x3
def qn1(F:Nat)(a0:LI):Option (Int×Int×LI×Int×Unit):=
 cond ((((ya a0):Nat):Int) !=8)
  (some (0,0,q1x,1,()))
  ((q4r F F a0 q1x q1x 0).bind fun r709=>
  let n710:Nat:=(ya r709.1)
  cond (decide (0<((n710:Nat):Int)))
   (cond (decide (1<((n710:Nat):Int)))
    (let l715:LI:=(if((0=0)∧(16=16))then r709.2.2.1 else(y8 16 (y9 0 r709.2.2.1)))
    let l716:LI:=(if((0=0)∧(16=16))then l715 else(((y8 0 r709.2.1)++l715)++(y9 16 r709.2.1)))
    some ((y7 r709.1 0 0),(y7 r709.1 1 0),(if((0=0)∧(16=16))then l716 else(y8 16 (y9 0 l716))),0,()))
     none)
    none)
def qqw(F:Nat)(a0:Int)(a1:Int):Option (Int×Unit):=
 cond (!(a1==0))
  (cond (decide ((yv a0 a1)<0))
   (some ((y0 .i64 ((yv a0 a1)+a1)),()))
   (some ((yv a0 a1),())))
   none
def qlf(F:Nat)(a0:Int)(a1:Int)(a2:Int)(a3:Int)(a4:Int):Option (Int×Unit):=
 cond (decide (a3<1))
  (some (0,()))
  (let v735:Int:=(y0 .i64 ((y0 .i64 ((y0 .i64 (a0*(y0 .i64 (a3-a2))))+(y0 .i64 (a1*a2))))+a4))
  (qqw F v735 a3).bind fun r740=>
  cond (!(a3==0))
   (some ((y0 .i64 (yw (y0 .i64 (v735-r740.1)) a3)),()))
    none)
def qkd(F:Nat)(rec:Int→Int→LI→LI→Int→Option (LI×LI×Unit))(x0:Int)(x1:Int)(x2:LI)(x3:LI)(x4:Int):Option (LI×LI×Unit):=
 cond (decide (x4≤6))
  (let v753:Int:=(y0 .i64 (x4+1))
  (qlf F x0 x1 x4 7 0).bind fun r754=>
  cond ((decide (0≤v753))&&(decide (v753<8)))
   (rec x0 x1 x2 (yx x3 (y6 v753) r754.1) v753)
    none)
  (some (x2,x3,()))
def q9j(F:Nat):Nat→Int→Int→LI→LI→Int→Option (LI×LI×Unit)
 |0,_,_,_,_,_=>none
 |k+1,x0,x1,x2,x3,x4=>qkd F (q9j F k) x0 x1 x2 x3 x4
def qke(F:Nat)(rec:Int→Int→LI→LI→Int→Option (LI×LI×Unit))(x0:Int)(x1:Int)(x2:LI)(x3:LI)(x4:Int):Option (LI×LI×Unit):=
 cond (decide (x4≤4))
  (let v771:Int:=(y0 .i64 (x4+1))
  (qlf F x0 x1 x4 5 0).bind fun r772=>
  cond ((decide (0≤v771))&&(decide (v771<8)))
   (rec x0 x1 x2 (yx x3 (y6 v771) r772.1) v771)
    none)
  (some (x2,x3,()))
def q9k(F:Nat):Nat→Int→Int→LI→LI→Int→Option (LI×LI×Unit)
 |0,_,_,_,_,_=>none
 |k+1,x0,x1,x2,x3,x4=>qke F (q9k F k) x0 x1 x2 x3 x4
def qtq(F:Nat)(a0:Int)(a1:Int):Option (LI×Unit):=
 cond (decide (a1<a0))
  ((q9j F F a0 a1 q5u [a0,a1,0,0,0,0,0,0] 1).bind fun r758=>
  let l759:LI:=(if((0=0)∧(8=8))then r758.2.1 else(y8 8 (y9 0 r758.2.1)))
  let l760:LI:=(if((0=0)∧(8=8))then l759 else(((y8 0 r758.1)++l759)++(y9 8 r758.1)))
  some ((if((0=0)∧(8=8))then l760 else(y8 8 (y9 0 l760))),()))
  ((q9k F F a0 a1 q5u [a0,a1,0,0,0,0,0,0] 1).bind fun r776=>
  let l777:LI:=(yx r776.2.1 7 255)
  let l778:LI:=(if((0=0)∧(8=8))then l777 else(y8 8 (y9 0 l777)))
  let l779:LI:=(if((0=0)∧(8=8))then l778 else(((y8 0 r776.1)++l778)++(y9 8 r776.1)))
  some ((if((0=0)∧(8=8))then l779 else(y8 8 (y9 0 l779))),()))
def q5v(F:Nat)(rec:LI→LI→LI→Int→Option (LI×LI×Unit))(x0:LI)(x1:LI)(x2:LI)(x3:Int):Option (LI×LI×Unit):=
 cond (decide (x3<16))
  (let b798:Bool:=((decide (0≤x3))&&(decide (x3<16)))
  cond b798
   (let v800:Int:=(y7 x1 (y6 x3) 0)
   cond ((decide (0≤v800))&&(decide (v800<8)))
    (cond b798
     (rec x0 (yx x1 (y6 x3) (y7 x2 (y6 v800) 0)) x2 (y0 .i64 (x3+1)))
      none)
     none)
    none)
  (some (x0,x1,()))
def q3t(F:Nat):Nat→LI→LI→LI→Int→Option (LI×LI×Unit)
 |0,_,_,_,_=>none
 |k+1,x0,x1,x2,x3=>q5v F (q3t F k) x0 x1 x2 x3
def qf2(F:Nat)(a0:LI):Option (LI×Int×Unit):=
 (qn1 F a0).bind fun r723=>
 let l724:LI:=(if((0=0)∧(16=16))then r723.2.2.1 else(((y8 0 q1x)++r723.2.2.1)++(y9 16 q1x)))
 cond (r723.2.2.2.1 !=0)
  (let l726:LI:=(if((0=0)∧(16=16))then l724 else(y8 16 (y9 0 l724)))
  let l727:LI:=(if((0=0)∧(16=16))then l726 else(((y8 0 q1x)++l726)++(y9 16 q1x)))
  some ((if((0=0)∧(16=16))then l727 else(y8 16 (y9 0 l727))),r723.2.2.2.1,()))
  ((qtq F r723.1 r723.2.1).bind fun r781=>
  (q3t F F q1x l724 (if((0=0)∧(8=8))then r781.1 else(((y8 0 q5u)++r781.1)++(y9 8 q5u))) 0).bind fun r806=>
  let l807:LI:=(if((0=0)∧(16=16))then r806.2.1 else(y8 16 (y9 0 r806.2.1)))
  let l808:LI:=(if((0=0)∧(16=16))then l807 else(((y8 0 r806.1)++l807)++(y9 16 r806.1)))
  some ((if((0=0)∧(16=16))then l808 else(y8 16 (y9 0 l808))),0,()))
def qqx(F:Nat)(rec:Int→Int→Int→Option (Int×Unit))(x0:Int)(x1:Int)(x2:Int):Option (Int×Unit):=
 cond (decide (x2<x0))
  (rec x0 (y0 .i64 (2*x1)) (y0 .i64 (x2+1)))
  (some (x1,()))
def qej(F:Nat):Nat→Int→Int→Int→Option (Int×Unit)
 |0,_,_,_=>none
 |k+1,x0,x1,x2=>qqx F (qej F k) x0 x1 x2
def qhz(F:Nat)(a0:Int):Option (Int×Unit):=
 (qej F F a0 1 0).bind fun r828=>
 some (r828.1,())
def qup(F:Nat)(rec:Int→Int→Int→Int→Option (Int×Unit))(x0:Int)(x1:Int)(x2:Int)(x3:Int):Option (Int×Unit):=
 cond (decide (x3<8))
  (cond (!(x1==0))
   ((qhz F (y0 .i64 ((y0 .i64 (x1-1))-(yv x3 x1)))).bind fun r858=>
   cond (!(r858.1==0))
    (rec x0 x1 (y0 .i64 ((y0 .i64 (2*x2))+(yv (y0 .i64 (yw x0 r858.1)) 2))) (y0 .i64 (x3+1)))
     none)
    none)
  (some (x2,()))
def qgz(F:Nat):Nat→Int→Int→Int→Int→Option (Int×Unit)
 |0,_,_,_,_=>none
 |k+1,x0,x1,x2,x3=>qup F (qgz F k) x0 x1 x2 x3
def q0l(F:Nat)(a0:Int)(a1:Int):Option (Int×Unit):=
 cond (decide (a1<1))
  (some (0,()))
  (cond (decide (8<a1))
   (some (0,()))
   ((qhz F a1).bind fun r829=>
   (qqw F a0 r829.1).bind fun r830=>
   (qgz F F r830.1 a1 0 0).bind fun r864=>
   some (r864.1,())))
def q4s(F:Nat)(a0:Int):Option (Int×Unit):=
 some ((y0 .i64 (a0*a0)),())
def q9l(F:Nat)(a0:Int)(a1:Int)(a2:Int):Option (Int×Unit):=
 (q0z F a0 a1).bind fun r2075=>
 (q4s F (y0 .i64 (r2075.1-a2))).bind fun r2077=>
 some (r2077.1,())
def q2z(F:Nat)(rec:Int→Int→Int→Int→Int→Int→Option (Int×Unit))(x0:Int)(x1:Int)(x2:Int)(x3:Int)(x4:Int)(x5:Int):Option (Int×Unit):=
 cond (decide (x5<x4))
  ((q9l F x5 x0 x1).bind fun r2118=>
  cond (x5==0)
   (rec x0 x1 x5 r2118.1 x4 (y0 .i64 (x5+1)))
   (cond (decide (r2118.1<x3))
    (rec x0 x1 x5 r2118.1 x4 (y0 .i64 (x5+1)))
    (rec x0 x1 x2 x3 x4 (y0 .i64 (x5+1)))))
  (some (x2,()))
def q0i(F:Nat):Nat→Int→Int→Int→Int→Int→Int→Option (Int×Unit)
 |0,_,_,_,_,_,_=>none
 |k+1,x0,x1,x2,x3,x4,x5=>q2z F (q0i F k) x0 x1 x2 x3 x4 x5
def qb4(F:Nat)(a0:Int)(a1:Int)(a2:Int):Option (Int×Unit):=
 (q0i F F a1 a2 0 0 a0 0).bind fun r2124=>
 some (r2124.1,())
def q9m(F:Nat)(a0:Int)(a1:Int):Option (Int×Unit):=
 (qqv F a1).bind fun r2067=>
 cond r2067.1
  (some (0,()))
  (cond (decide (0≤a1))
   ((qb4 F (ishl .i64 1 a1) a1 a0).bind fun r2125=>
   some (r2125.1,()))
    none)
def q30(F:Nat)(a0:Int)(a1:Int):Option (Int×Unit):=
 some ((max 0 (min a0 a1)),())
def q62:LI:=[0,0,0,0,0,0,0,0,0,0,0,0,0,0,0,0]
def qh0:LI:=[0,0,0,0,0,0,0,0]
def q06(F:Nat)(a0:Int)(a1:Int)(a2:Int)(a3:LI)(a4:Bool):Option (LI×Bool×Unit):=
 (q2p F a3 a0 a1 (y0 .u64 a2)).bind fun r157=>
 cond a4
  (let b159:Bool:=(r157.2.1==0)
  cond b159
   (some (r157.1,b159,()))
   (some (a3,b159,())))
  (some (a3,false,()))
def qbf(F:Nat)(a0:Bool):Option (Int×Unit):=
 cond a0
  (some (1,()))
  (some (0,()))
def q1i(F:Nat)(a0:Int):Option (Int×Unit):=
 some ((y0 .i64 ((y0 .i64 (4*(yv a0 4)))+(y0 .i64 (yw a0 4)))),())
def qc8(F:Nat)(rec:Bool→Bool→LI→LI→LI→LI→LI→Bool→Int→Option (Bool×Bool×LI×LI×LI×LI×LI×Bool×Unit))(x0:Bool)(x1:Bool)(x2:LI)(x3:LI)(x4:LI)(x5:LI)(x6:LI)(x7:Bool)(x8:Int):Option (Bool×Bool×LI×LI×LI×LI×LI×Bool×Unit):=
 cond (decide (x8<3))
  (let v470:Int:=(y0 .i64 (8*x8))
  cond (!x0)
   (let b472:Bool:=((decide (0≤x8))&&(decide (x8<3)))
   cond b472
    ((q06 F v470 4 (y7 x2 (y6 x8) 0) x6 x7).bind fun r475=>
    cond b472
     ((q06 F (y0 .i64 (v470+4)) 4 (y7 x3 (y6 x8) 0) r475.1 r475.2.1).bind fun r479=>
     rec x0 x1 x2 x3 x4 x5 r479.1 r479.2.1 (y0 .i64 (x8+1)))
      none)
     none)
   (let b482:Bool:=((decide (0≤x8))&&(decide (x8<3)))
   cond b482
    ((q06 F v470 5 (y7 x2 (y6 x8) 0) x6 x7).bind fun r485=>
    let v487:Int:=(y0 .i64 (v470+5))
    cond b482
     (cond b482
      (let v488:Int:=(y7 x3 (y6 x8) 0)
      cond (decide (v488<0))
       (cond b482
        ((qbf F (decide ((-4)≤v488))).bind fun r491=>
        (q06 F v487 3 (y0 .i64 (v488-(y0 .i64 ((-8)*r491.1)))) r485.1 r485.2.1).bind fun r494=>
        cond r494.2.1
         (cond b482
          (rec x0 x1 x2 x3 x4 x5 r494.1 (decide (v488<4)) (y0 .i64 (x8+1)))
           none)
         (rec x0 x1 x2 x3 x4 x5 r494.1 false (y0 .i64 (x8+1))))
         none)
       ((qbf F false).bind fun r499=>
       (q06 F v487 3 (y0 .i64 (v488-(y0 .i64 ((-8)*r499.1)))) r485.1 r485.2.1).bind fun r502=>
       cond r502.2.1
        (cond b482
         (rec x0 x1 x2 x3 x4 x5 r502.1 (decide (v488<4)) (y0 .i64 (x8+1)))
          none)
        (rec x0 x1 x2 x3 x4 x5 r502.1 false (y0 .i64 (x8+1)))))
       none)
      none)
     none))
  (some (x0,x1,x2,x3,x4,x5,x6,x7,()))
def q2y(F:Nat):Nat→Bool→Bool→LI→LI→LI→LI→LI→Bool→Int→Option (Bool×Bool×LI×LI×LI×LI×LI×Bool×Unit)
 |0,_,_,_,_,_,_,_,_,_=>none
 |k+1,x0,x1,x2,x3,x4,x5,x6,x7,x8=>qc8 F (q2y F k) x0 x1 x2 x3 x4 x5 x6 x7 x8
def qc9(F:Nat)(rec:LI→Bool→LI→Int→Option (LI×Bool×Unit))(x0:LI)(x1:Bool)(x2:LI)(x3:Int):Option (LI×Bool×Unit):=
 cond (decide (x3<16))
  (cond ((decide (0≤x3))&&(decide (x3<16)))
   (let v603:Int:=(y7 x2 (y6 x3) 0)
   cond x1
    (cond (decide (0≤v603))
     ((q1i F x3).bind fun r606=>
     (q06 F (y0 .i64 (47-r606.1)) 1 (iand .i64 (ishr .i64 v603 1) 1) x0 (decide (v603<4))).bind fun r610=>
     (q1i F x3).bind fun r612=>
     (q06 F (y0 .i64 (63-r612.1)) 1 (iand .i64 v603 1) r610.1 r610.2.1).bind fun r615=>
     rec r615.1 r615.2.1 x2 (y0 .i64 (x3+1)))
     ((q1i F x3).bind fun r618=>
     (q06 F (y0 .i64 (47-r618.1)) 1 (iand .i64 (ishr .i64 v603 1) 1) x0 false).bind fun r622=>
     (q1i F x3).bind fun r624=>
     (q06 F (y0 .i64 (63-r624.1)) 1 (iand .i64 v603 1) r622.1 r622.2.1).bind fun r627=>
     rec r627.1 r627.2.1 x2 (y0 .i64 (x3+1))))
    ((q1i F x3).bind fun r630=>
    (q06 F (y0 .i64 (47-r630.1)) 1 (iand .i64 (ishr .i64 v603 1) 1) x0 false).bind fun r634=>
    (q1i F x3).bind fun r636=>
    (q06 F (y0 .i64 (63-r636.1)) 1 (iand .i64 v603 1) r634.1 r634.2.1).bind fun r639=>
    rec r639.1 r639.2.1 x2 (y0 .i64 (x3+1))))
    none)
  (some (x0,x1,()))
def q3k(F:Nat):Nat→LI→Bool→LI→Int→Option (LI×Bool×Unit)
 |0,_,_,_,_=>none
 |k+1,x0,x1,x2,x3=>qc9 F (q3k F k) x0 x1 x2 x3
def qb5(F:Nat)(a0:(Bool×Bool×LI×LI×LI×LI×Unit)):Option (LI×Int×Unit):=
 (q2y F F a0.1 a0.2.1 a0.2.2.1 a0.2.2.2.1 a0.2.2.2.2.1 a0.2.2.2.2.2.1 qh0 true 0).bind fun r507=>
 (q06 F 24 3 (y7 r507.2.2.2.2.1 0 0) r507.2.2.2.2.2.2.1 r507.2.2.2.2.2.2.2.1).bind fun r510=>
 (q06 F 27 3 (y7 r507.2.2.2.2.1 1 0) r510.1 r510.2.1).bind fun r513=>
 (qbf F r507.1).bind fun r515=>
 (q06 F 30 1 r515.1 r513.1 r513.2.1).bind fun r516=>
 (qbf F r507.2.1).bind fun r518=>
 (q06 F 31 1 r518.1 r516.1 r516.2.1).bind fun r519=>
 (q3k F F r519.1 r519.2.1 r507.2.2.2.2.2.1 0).bind fun r642=>
 cond (!r642.2.1)
  (some ([],1,()))
  (some (r642.1,0,()))
def q4x:LI:=[0,0,0,0,0,0,0,0,0,0,0,0,0,0,0,0,0,0,0,0,0,0,0,0,0,0,0,0,0,0,0,0,0,0,0,0,0,0,0,0,0,0,0,0,0,0,0,0,0,0,0,0,0,0,0,0,0,0,0,0,0,0,0,0]
def q0u(F:Nat)(a0:Int)(a1:Int)(a2:LI):Option (Int×Unit):=
 (qc6 F a2 a0 a1).bind fun r711=>
 some ((y0 .i64 r711.1),())
def qam(F:Nat)(rec:LI→LI→LI→LI→Bool→Bool→LI→LI→LI→LI→LI→Int→Option (LI×LI×LI×LI×Bool×Bool×LI×LI×LI×LI×LI×Unit))(x0:LI)(x1:LI)(x2:LI)(x3:LI)(x4:Bool)(x5:Bool)(x6:LI)(x7:LI)(x8:LI)(x9:LI)(x10:LI)(x11:Int):Option (LI×LI×LI×LI×Bool×Bool×LI×LI×LI×LI×LI×Unit):=
 cond (decide (x11<3))
  (let v758:Int:=(y0 .i64 (8*x11))
  cond (!x4)
   ((q0u F v758 4 x10).bind fun r761=>
   let b762:Bool:=((decide (0≤x11))&&(decide (x11<3)))
   cond b762
    ((q0u F (y0 .i64 (v758+4)) 4 x10).bind fun r764=>
    cond b762
     (rec x0 x1 x2 x3 x4 x5 (yx x6 (y6 x11) r761.1) (yx x7 (y6 x11) r764.1) x8 x9 x10 (y0 .i64 (x11+1)))
      none)
     none)
   ((q0u F v758 5 x10).bind fun r769=>
   let b770:Bool:=((decide (0≤x11))&&(decide (x11<3)))
   cond b770
    ((q0u F (y0 .i64 (v758+5)) 3 x10).bind fun r772=>
    let l773:LI:=(yx x6 (y6 x11) r769.1)
    cond b770
     (let l774:LI:=(yx x7 (y6 x11) r772.1)
     cond b770
      (let v775:Int:=(y7 l774 (y6 x11) 0)
      cond (decide (4≤v775))
       (cond b770
        (cond b770
         (rec x0 x1 x2 x3 x4 x5 l773 (yx l774 (y6 x11) (y0 .i64 (v775+(-8)))) x8 x9 x10 (y0 .i64 (x11+1)))
          none)
         none)
       (rec x0 x1 x2 x3 x4 x5 l773 l774 x8 x9 x10 (y0 .i64 (x11+1))))
       none)
      none)
     none))
  (some (x0,x1,x2,x3,x4,x5,x6,x7,x8,x9,x10,()))
def q31(F:Nat):Nat→LI→LI→LI→LI→Bool→Bool→LI→LI→LI→LI→LI→Int→Option (LI×LI×LI×LI×Bool×Bool×LI×LI×LI×LI×LI×Unit)
 |0,_,_,_,_,_,_,_,_,_,_,_,_=>none
 |k+1,x0,x1,x2,x3,x4,x5,x6,x7,x8,x9,x10,x11=>qam F (q31 F k) x0 x1 x2 x3 x4 x5 x6 x7 x8 x9 x10 x11
def q5w(F:Nat)(rec:LI→LI→LI→LI→Bool→Bool→LI→LI→LI→LI→LI→Int→Option (LI×LI×LI×LI×Bool×Bool×LI×LI×LI×LI×Unit))(x0:LI)(x1:LI)(x2:LI)(x3:LI)(x4:Bool)(x5:Bool)(x6:LI)(x7:LI)(x8:LI)(x9:LI)(x10:LI)(x11:Int):Option (LI×LI×LI×LI×Bool×Bool×LI×LI×LI×LI×Unit):=
 cond (decide (x11<16))
  ((q1i F x11).bind fun r811=>
  (q0u F (y0 .i64 (47-r811.1)) 1 x10).bind fun r813=>
  (q1i F x11).bind fun r815=>
  (q0u F (y0 .i64 (63-r815.1)) 1 x10).bind fun r817=>
  cond ((decide (0≤x11))&&(decide (x11<16)))
   (rec x0 x1 x2 x3 x4 x5 x6 x7 x8 (yx x9 (y6 x11) (y0 .i64 ((y0 .i64 (2*r813.1))+r817.1))) x10 (y0 .i64 (x11+1)))
    none)
  (some (x0,x1,x2,x3,x4,x5,x6,x7,x8,x9,()))
def q3u(F:Nat):Nat→LI→LI→LI→LI→Bool→Bool→LI→LI→LI→LI→LI→Int→Option (LI×LI×LI×LI×Bool×Bool×LI×LI×LI×LI×Unit)
 |0,_,_,_,_,_,_,_,_,_,_,_,_=>none
 |k+1,x0,x1,x2,x3,x4,x5,x6,x7,x8,x9,x10,x11=>q5w F (q3u F k) x0 x1 x2 x3 x4 x5 x6 x7 x8 x9 x10 x11
def q3v(F:Nat)(a0:LI):Option ((Bool×Bool×LI×LI×LI×LI×Unit)×Int×Unit):=
 cond ((((ya a0):Nat):Int) !=8)
  (some ((false,false,[0,0,0],[0,0,0],[0,0],q62,()),1,()))
  ((q0u F 30 1 a0).bind fun r713=>
  (q0u F 31 1 a0).bind fun r715=>
  (q31 F F [0,0,0] [0,0,0] [0,0] q62 (r713.1==1) (r715.1==1) [0,0,0] [0,0,0] [0,0] q62 a0 0).bind fun r781=>
  (q0u F 24 3 r781.2.2.2.2.2.2.2.2.2.2.1).bind fun r783=>
  (q0u F 27 3 r781.2.2.2.2.2.2.2.2.2.2.1).bind fun r784=>
  (q3u F F r781.1 r781.2.1 r781.2.2.1 r781.2.2.2.1 r781.2.2.2.2.1 r781.2.2.2.2.2.1 r781.2.2.2.2.2.2.1 r781.2.2.2.2.2.2.2.1 [r783.1,r784.1] r781.2.2.2.2.2.2.2.2.2.1 r781.2.2.2.2.2.2.2.2.2.2.1 0).bind fun r823=>
  some ((r823.2.2.2.2.1,r823.2.2.2.2.2.1,r823.2.2.2.2.2.2.1,r823.2.2.2.2.2.2.2.1,r823.2.2.2.2.2.2.2.2.1,r823.2.2.2.2.2.2.2.2.2.1,()),0,()))
def qog:LI:=[0,0,0,255,0,0,0,255]
def qan(F:Nat)(rec:Bool→Bool→LI→LI→LI→LI→LI→LI→Int→Int→Option (LI×LI×Int×Unit))(x0:Bool)(x1:Bool)(x2:LI)(x3:LI)(x4:LI)(x5:LI)(x6:LI)(x7:LI)(x8:Int)(x9:Int):Option (LI×LI×Int×Unit):=
 cond (decide (x9<3))
  (let b918:Bool:=((decide (0≤x9))&&(decide (x9<3)))
  cond b918
   (let v920:Int:=(y7 x3 (y6 x9) 0)
   cond x0
    (cond b918
     (let v921:Int:=(y7 x2 (y6 x9) 0)
     cond b918
      (let v922:Int:=(y0 .i64 (v921+v920))
      cond (x8==3)
       (cond (decide (v922<0))
        (cond b918
         ((q0z F v921 5).bind fun r925=>
         let b926:Bool:=((decide (0≤x9))&&(decide (x9<4)))
         cond b926
          ((q0z F v922 5).bind fun r927=>
          cond b926
           (rec x0 x1 x2 x3 x4 x5 x6 (yx (yx x7 (y6 x9) r925.1) (4+(y6 x9)) r927.1) x9 (y0 .i64 (x9+1)))
            none)
           none)
          none)
        (cond ((ishr .i64 v922 5) !=0)
         (cond b918
          ((q0z F v921 5).bind fun r933=>
          let b934:Bool:=((decide (0≤x9))&&(decide (x9<4)))
          cond b934
           ((q0z F v922 5).bind fun r935=>
           cond b934
            (rec x0 x1 x2 x3 x4 x5 x6 (yx (yx x7 (y6 x9) r933.1) (4+(y6 x9)) r935.1) x9 (y0 .i64 (x9+1)))
             none)
            none)
           none)
         (cond b918
          ((q0z F v921 5).bind fun r939=>
          let b940:Bool:=((decide (0≤x9))&&(decide (x9<4)))
          cond b940
           ((q0z F v922 5).bind fun r941=>
           cond b940
            (rec x0 x1 x2 x3 x4 x5 x6 (yx (yx x7 (y6 x9) r939.1) (4+(y6 x9)) r941.1) x8 (y0 .i64 (x9+1)))
             none)
            none)
           none)))
       (cond b918
        ((q0z F v921 5).bind fun r945=>
        let b946:Bool:=((decide (0≤x9))&&(decide (x9<4)))
        cond b946
         ((q0z F v922 5).bind fun r947=>
         cond b946
          (rec x0 x1 x2 x3 x4 x5 x6 (yx (yx x7 (y6 x9) r945.1) (4+(y6 x9)) r947.1) x8 (y0 .i64 (x9+1)))
           none)
          none)
         none))
       none)
      none)
    (cond b918
     ((q0z F (y7 x2 (y6 x9) 0) 4).bind fun r952=>
     let b953:Bool:=((decide (0≤x9))&&(decide (x9<4)))
     cond b953
      ((q0z F v920 4).bind fun r954=>
      cond b953
       (rec x0 x1 x2 x3 x4 x5 x6 (yx (yx x7 (y6 x9) r952.1) (4+(y6 x9)) r954.1) x8 (y0 .i64 (x9+1)))
        none)
       none)
      none))
    none)
  (some (x6,x7,x8,()))
def q0v(F:Nat):Nat→Bool→Bool→LI→LI→LI→LI→LI→LI→Int→Int→Option (LI×LI×Int×Unit)
 |0,_,_,_,_,_,_,_,_,_,_=>none
 |k+1,x0,x1,x2,x3,x4,x5,x6,x7,x8,x9=>qan F (q0v F k) x0 x1 x2 x3 x4 x5 x6 x7 x8 x9
def q8z(F:Nat)(a0:(Bool×Bool×LI×LI×LI×LI×Unit)):Option (LI×Int×Unit):=
 (q0v F F a0.1 a0.2.1 a0.2.2.1 a0.2.2.2.1 a0.2.2.2.2.1 a0.2.2.2.2.2.1 qh0 qog 3 0).bind fun r958=>
 some (r958.2.1,r958.2.2.1,())
def q90(F:Nat)(a0:Bool)(a1:Int):Option (Int×Unit):=
 let v961:Int:=(iand .i64 a1 15)
 cond a0
  (some ((y0 .i64 (yw v961 8)),()))
  (some ((y0 .i64 (yw (yv v961 4) 2)),()))
def z1v:LI:=[2,8,5,17,9,29,13,42,18,60,24,80,33,106,47,183]
def qbg(F:Nat)(a0:Int):Option (LI×Unit):=
 let v975:Int:=(iand .i64 a0 7)
 cond ((decide (0≤v975))&&(decide (v975<8)))
  (let l978:LI:=(y8 2 (y9 ((y6 v975)*2) z1v))
  let v979:Int:=(y7 l978 0 0)
  let v980:Int:=(y7 l978 1 0)
  some ([v979,v980,(y0 .i64 (0-v979)),(y0 .i64 (0-v980))],()))
   none
def qao(F:Nat)(rec:Bool→Bool→LI→LI→LI→LI→LI→LI→LI→Int→Int→Int→LI→Int→Int→Option (Bool×Bool×LI×LI×LI×LI×LI×LI×LI×LI×Int×Unit))(x0:Bool)(x1:Bool)(x2:LI)(x3:LI)(x4:LI)(x5:LI)(x6:LI)(x7:LI)(x8:LI)(x9:Int)(x10:Int)(x11:Int)(x12:LI)(x13:Int)(x14:Int):Option (Bool×Bool×LI×LI×LI×LI×LI×LI×LI×LI×Int×Unit):=
 cond (decide (x14<3))
  (let b1095:Bool:=((decide (0≤x9))&&(decide (x9<16)))
  cond b1095
   (let b1097:Bool:=((decide (0≤x14))&&(decide (x14<4)))
   cond b1097
    (let n1098:Nat:=(((y6 x9)*4)+(y6 x14))
    cond ((decide (0≤x11))&&(decide (x11<2)))
     ((qbg F (y7 x4 (y6 x11) 0)).bind fun r1103=>
     let v1104:Int:=(iand .i64 x10 3)
     cond ((decide (0≤v1104))&&(decide (v1104<4)))
      ((q30 F (y0 .i64 ((y7 x8 n1098 0)+(y7 r1103.1 (y6 v1104) 0))) 255).bind fun r1108=>
      cond b1095
       (cond b1097
        (rec x0 x1 x2 x3 x4 x5 x6 x7 (yx x8 n1098 r1108.1) x9 x10 x11 x12 x13 (y0 .i64 (x14+1)))
         none)
        none)
       none)
      none)
     none)
    none)
  (some (x0,x1,x2,x3,x4,x5,x6,x7,x8,x12,x13,()))
def q2g(F:Nat):Nat→Bool→Bool→LI→LI→LI→LI→LI→LI→LI→Int→Int→Int→LI→Int→Int→Option (Bool×Bool×LI×LI×LI×LI×LI×LI×LI×LI×Int×Unit)
 |0,_,_,_,_,_,_,_,_,_,_,_,_,_,_,_=>none
 |k+1,x0,x1,x2,x3,x4,x5,x6,x7,x8,x9,x10,x11,x12,x13,x14=>qao F (q2g F k) x0 x1 x2 x3 x4 x5 x6 x7 x8 x9 x10 x11 x12 x13 x14
def q5x(F:Nat)(rec:Bool→Bool→LI→LI→LI→LI→LI→LI→LI→LI→Int→Option (LI×LI×Unit))(x0:Bool)(x1:Bool)(x2:LI)(x3:LI)(x4:LI)(x5:LI)(x6:LI)(x7:LI)(x8:LI)(x9:LI)(x10:Int):Option (LI×LI×Unit):=
 cond (decide (x10<16))
  (let b1069:Bool:=((decide (0≤x10))&&(decide (x10<16)))
  cond b1069
   ((q90 F x1 x10).bind fun r1071=>
   cond ((decide (0≤r1071.1))&&(decide (r1071.1<2)))
    (cond b1069
     (let n1075:Nat:=((y6 x10)*4)
     (q2g F F x0 x1 x2 x3 x4 x5 x6 x7 (((y8 n1075 x8)++(y8 4 (y9 ((y6 r1071.1)*4) x7)))++(y9 (n1075+4) x8)) x10 (y7 x9 (y6 x10) 0) r1071.1 x9 x10 0).bind fun r1111=>
     rec r1111.1 r1111.2.1 r1111.2.2.1 r1111.2.2.2.1 r1111.2.2.2.2.1 r1111.2.2.2.2.2.1 r1111.2.2.2.2.2.2.1 r1111.2.2.2.2.2.2.2.1 r1111.2.2.2.2.2.2.2.2.1 r1111.2.2.2.2.2.2.2.2.2.1 (y0 .i64 (r1111.2.2.2.2.2.2.2.2.2.2.1+1)))
      none)
     none)
    none)
  (some (x6,x8,()))
def q3w(F:Nat):Nat→Bool→Bool→LI→LI→LI→LI→LI→LI→LI→LI→Int→Option (LI×LI×Unit)
 |0,_,_,_,_,_,_,_,_,_,_,_=>none
 |k+1,x0,x1,x2,x3,x4,x5,x6,x7,x8,x9,x10=>q5x F (q3w F k) x0 x1 x2 x3 x4 x5 x6 x7 x8 x9 x10
def qf3(F:Nat)(a0:(Bool×Bool×LI×LI×LI×LI×Unit)):Option (LI×Unit):=
 (q8z F (a0.1,a0.2.1,a0.2.2.1,a0.2.2.2.1,a0.2.2.2.2.1,a0.2.2.2.2.2.1,())).bind fun r959=>
 (q3w F F a0.1 a0.2.1 a0.2.2.1 a0.2.2.2.1 a0.2.2.2.2.1 a0.2.2.2.2.2.1 q4x r959.1 q4x a0.2.2.2.2.2.1 0).bind fun r1113=>
 some (r1113.2.1,())
def qh1(F:Nat)(a0:LI):Option (LI×Int×Unit):=
 (q3v F a0).bind fun r824=>
 cond (r824.2.1 !=0)
  (some (q4x,r824.2.1,()))
  ((qf3 F (r824.1.1,r824.1.2.1,r824.1.2.2.1,r824.1.2.2.2.1,r824.1.2.2.2.2.1,r824.1.2.2.2.2.2.1,())).bind fun r1114=>
  some (r1114.1,0,()))
def q22(F:Nat)(a0:LI)(a1:Int)(a2:Int):Option (Int×Unit):=
 (qle F a0 a1 a2 true).bind fun r1225=>
 some ((y0 .i64 r1225.1),())
def q6u(F:Nat)(rec:LI→LI→LI→Int→Option (LI×LI×Unit))(x0:LI)(x1:LI)(x2:LI)(x3:Int):Option (LI×LI×Unit):=
 cond (decide (x3<16))
  (let v1326:Int:=(y0 .i64 ((y0 .i64 (4*(yv x3 4)))+(y0 .i64 (yw x3 4))))
  (q22 F x0 (y0 .i64 (47-v1326)) 1).bind fun r1328=>
  (q22 F x0 (y0 .i64 (63-v1326)) 1).bind fun r1331=>
  cond ((decide (0≤x3))&&(decide (x3<16)))
   (rec x0 x1 (yx x2 (y6 x3) (y0 .i64 ((y0 .i64 (2*r1328.1))+r1331.1))) (y0 .i64 (x3+1)))
    none)
  (some (x1,x2,()))
def q4t(F:Nat):Nat→LI→LI→LI→Int→Option (LI×LI×Unit)
 |0,_,_,_,_=>none
 |k+1,x0,x1,x2,x3=>q6u F (q4t F k) x0 x1 x2 x3
def qn2(F:Nat)(a0:LI):Option (LI×Unit):=
 (q4t F F a0 q62 q62 0).bind fun r1337=>
 some (r1337.2.1,())
def qca(F:Nat)(rec:LI→LI→LI→LI→LI→Bool→Bool→LI→LI→LI→LI→Int→Option (LI×LI×LI×LI×LI×Bool×Bool×LI×LI×LI×LI×Unit))(x0:LI)(x1:LI)(x2:LI)(x3:LI)(x4:LI)(x5:Bool)(x6:Bool)(x7:LI)(x8:LI)(x9:LI)(x10:LI)(x11:Int):Option (LI×LI×LI×LI×LI×Bool×Bool×LI×LI×LI×LI×Unit):=
 cond (decide (x11<3))
  (cond x5
   (let v1271:Int:=(y0 .i64 (8*x11))
   (q22 F x0 v1271 5).bind fun r1272=>
   let b1273:Bool:=((decide (0≤x11))&&(decide (x11<3)))
   cond b1273
    (let l1275:LI:=(yx x7 (y6 x11) r1272.1)
    (q22 F x0 (y0 .i64 (v1271+5)) 3).bind fun r1277=>
    cond b1273
     (let l1278:LI:=(yx x8 (y6 x11) r1277.1)
     cond b1273
      (let v1279:Int:=(y7 l1278 (y6 x11) 0)
      cond (decide (3<v1279))
       (cond b1273
        (cond b1273
         (rec x0 x1 x2 x3 x4 x5 x6 l1275 (yx l1278 (y6 x11) (y0 .i64 (v1279-8))) x9 x10 (y0 .i64 (x11+1)))
          none)
         none)
       (rec x0 x1 x2 x3 x4 x5 x6 l1275 l1278 x9 x10 (y0 .i64 (x11+1))))
       none)
      none)
     none)
   (let v1285:Int:=(y0 .i64 (8*x11))
   (q22 F x0 v1285 4).bind fun r1286=>
   let b1287:Bool:=((decide (0≤x11))&&(decide (x11<3)))
   cond b1287
    ((q22 F x0 (y0 .i64 (v1285+4)) 4).bind fun r1291=>
    cond b1287
     (rec x0 x1 x2 x3 x4 x5 x6 (yx x7 (y6 x11) r1286.1) (yx x8 (y6 x11) r1291.1) x9 x10 (y0 .i64 (x11+1)))
      none)
     none))
  (some (x0,x1,x2,x3,x4,x5,x6,x7,x8,x9,x10,()))
def q3l(F:Nat):Nat→LI→LI→LI→LI→LI→Bool→Bool→LI→LI→LI→LI→Int→Option (LI×LI×LI×LI×LI×Bool×Bool×LI×LI×LI×LI×Unit)
 |0,_,_,_,_,_,_,_,_,_,_,_,_=>none
 |k+1,x0,x1,x2,x3,x4,x5,x6,x7,x8,x9,x10,x11=>qca F (q3l F k) x0 x1 x2 x3 x4 x5 x6 x7 x8 x9 x10 x11
def q6b(F:Nat)(a0:LI):Option ((Bool×Bool×LI×LI×LI×LI×Unit)×Int×Unit):=
 cond ((((ya a0):Nat):Int) !=8)
  (some ((false,false,[0,0,0],[0,0,0],[0,0],q62,()),1,()))
  ((q22 F a0 30 1).bind fun r1227=>
  (q22 F a0 31 1).bind fun r1229=>
  (q3l F F a0 [0,0,0] [0,0,0] [0,0] q62 (r1227.1==1) (r1229.1==1) [0,0,0] [0,0,0] [0,0] q62 0).bind fun r1294=>
  (q22 F r1294.1 24 3).bind fun r1296=>
  (q22 F r1294.1 27 3).bind fun r1297=>
  (qn2 F r1294.1).bind fun r1338=>
  some ((r1294.2.2.2.2.2.1,r1294.2.2.2.2.2.2.1,r1294.2.2.2.2.2.2.2.1,r1294.2.2.2.2.2.2.2.2.1,[r1296.1,r1297.1],r1338.1,()),0,()))
def q6o(F:Nat)(a0:Int)(a1:Int)(a2:Int):Option (Bool×Unit):=
 cond (decide (a1≤a0))
  (some ((decide (a0≤a2)),()))
  (some (false,()))
def qi0(F:Nat)(a0:Int)(a1:Int):Option (Int×Unit):=
 cond (!(a1==0))
  (cond (decide ((yv a0 a1)<0))
   (some ((y0 .i64 ((yv a0 a1)+a1)),()))
   (some ((yv a0 a1),())))
   none
def qcb(F:Nat)(rec:Bool→Bool→LI→LI→LI→LI→LI→LI→Int→Int→Option (LI×LI×Int×Unit))(x0:Bool)(x1:Bool)(x2:LI)(x3:LI)(x4:LI)(x5:LI)(x6:LI)(x7:LI)(x8:Int)(x9:Int):Option (LI×LI×Int×Unit):=
 cond (decide (0≤x9))
  (cond x0
   (let b1454:Bool:=((decide (0≤x9))&&(decide (x9<3)))
   cond b1454
    (let v1456:Int:=(y7 x2 (y6 x9) 0)
    cond b1454
     (let v1458:Int:=(y0 .i64 (v1456+(y7 x3 (y6 x9) 0)))
     (q6o F v1458 0 31).bind fun r1459=>
     cond (!r1459.1)
      (cond b1454
       ((q0l F v1456 5).bind fun r1461=>
       let b1462:Bool:=((decide (0≤x9))&&(decide (x9<4)))
       cond b1462
        ((qi0 F v1458 32).bind fun r1464=>
        (q0l F r1464.1 5).bind fun r1465=>
        cond b1462
         (rec x0 x1 x2 x3 x4 x5 x6 (yx (yx x7 (y6 x9) r1461.1) (4+(y6 x9)) r1465.1) x9 (y0 .i64 (x9-1)))
          none)
         none)
        none)
      (cond b1454
       ((q0l F v1456 5).bind fun r1468=>
       let b1469:Bool:=((decide (0≤x9))&&(decide (x9<4)))
       cond b1469
        ((qi0 F v1458 32).bind fun r1471=>
        (q0l F r1471.1 5).bind fun r1472=>
        cond b1469
         (rec x0 x1 x2 x3 x4 x5 x6 (yx (yx x7 (y6 x9) r1468.1) (4+(y6 x9)) r1472.1) x8 (y0 .i64 (x9-1)))
          none)
         none)
        none))
      none)
     none)
   (let b1475:Bool:=((decide (0≤x9))&&(decide (x9<3)))
   cond b1475
    ((q0l F (y7 x2 (y6 x9) 0) 4).bind fun r1478=>
    let b1479:Bool:=((decide (0≤x9))&&(decide (x9<4)))
    cond b1479
     (cond b1475
      ((q0l F (y7 x3 (y6 x9) 0) 4).bind fun r1482=>
      cond b1479
       (rec x0 x1 x2 x3 x4 x5 x6 (yx (yx x7 (y6 x9) r1478.1) (4+(y6 x9)) r1482.1) x8 (y0 .i64 (x9-1)))
        none)
       none)
      none)
     none))
  (some (x6,x7,x8,()))
def q12(F:Nat):Nat→Bool→Bool→LI→LI→LI→LI→LI→LI→Int→Int→Option (LI×LI×Int×Unit)
 |0,_,_,_,_,_,_,_,_,_,_=>none
 |k+1,x0,x1,x2,x3,x4,x5,x6,x7,x8,x9=>qcb F (q12 F k) x0 x1 x2 x3 x4 x5 x6 x7 x8 x9
def q91(F:Nat)(a0:(Bool×Bool×LI×LI×LI×LI×Unit)):Option (LI×Int×Unit):=
 (q12 F F a0.1 a0.2.1 a0.2.2.1 a0.2.2.2.1 a0.2.2.2.2.1 a0.2.2.2.2.2.1 qh0 qog 3 2).bind fun r1485=>
 some (r1485.2.1,r1485.2.2.1,())
def qlg(F:Nat)(a0:Bool)(a1:Int):Option (Int×Unit):=
 (qi0 F a1 16).bind fun r1487=>
 cond a0
  (some ((y0 .i64 (yw r1487.1 8)),()))
  (some ((y0 .i64 (yw (yv r1487.1 4) 2)),()))
def qn3(F:Nat)(a0:Int):Option (LI×Unit):=
 (qi0 F a0 8).bind fun r1497=>
 cond (r1497.1==0)
  (some ([2,8,(-2),(-8)],()))
  (cond (r1497.1==1)
   (some ([5,17,(-5),(-17)],()))
   (cond (r1497.1==2)
    (some ([9,29,(-9),(-29)],()))
    (cond (r1497.1==3)
     (some ([13,42,(-13),(-42)],()))
     (cond (r1497.1==4)
      (some ([18,60,(-18),(-60)],()))
      (cond (r1497.1==5)
       (some ([24,80,(-24),(-80)],()))
       (cond (r1497.1==6)
        (some ([33,106,(-33),(-106)],()))
        (cond (r1497.1==7)
         (some ([47,183,(-47),(-183)],()))
          none)))))))
def q6c(F:Nat)(a0:Int)(a1:Int):Option (Int×Unit):=
 cond (decide (a1<a0))
  (cond (decide (a1<0))
   (some (0,()))
   (some (a1,())))
  (cond (decide (a0<0))
   (some (0,()))
   (some (a0,())))
def qh2(F:Nat)(rec:Int→LI→LI→Int→Option (LI×LI×Unit))(x0:Int)(x1:LI)(x2:LI)(x3:Int):Option (LI×LI×Unit):=
 cond (decide (x3<3))
  (let b1526:Bool:=((decide (0≤x3))&&(decide (x3<4)))
  cond b1526
   ((q6c F (y0 .i64 ((y7 x1 (y6 x3) 0)+x0)) 255).bind fun r1530=>
   cond b1526
    (rec x0 (yx x1 (y6 x3) r1530.1) x2 (y0 .i64 (x3+1)))
     none)
    none)
  (some (x1,x2,()))
def q63(F:Nat):Nat→Int→LI→LI→Int→Option (LI×LI×Unit)
 |0,_,_,_,_=>none
 |k+1,x0,x1,x2,x3=>qh2 F (q63 F k) x0 x1 x2 x3
def q1q(F:Nat)(a0:LI)(a1:Int):Option (LI×Unit):=
 (q63 F F a1 a0 [0,0,0,0] 0).bind fun r1533=>
 some (r1533.1,())
def q6v(F:Nat)(rec:Bool→Bool→LI→LI→LI→LI→LI→LI→LI→Int→Option (LI×LI×Unit))(x0:Bool)(x1:Bool)(x2:LI)(x3:LI)(x4:LI)(x5:LI)(x6:LI)(x7:LI)(x8:LI)(x9:Int):Option (LI×LI×Unit):=
 cond (decide (x9<16))
  ((qlg F x1 x9).bind fun r1554=>
  let b1555:Bool:=((decide (0≤r1554.1))&&(decide (r1554.1<2)))
  cond b1555
   (cond b1555
    ((qn3 F (y7 x4 (y6 r1554.1) 0)).bind fun r1560=>
    let b1561:Bool:=((decide (0≤x9))&&(decide (x9<16)))
    cond b1561
     (let v1563:Int:=(y7 x5 (y6 x9) 0)
     cond ((decide (0≤v1563))&&(decide (v1563<4)))
      ((q1q F (y8 4 (y9 ((y6 r1554.1)*4) x7)) (y7 r1560.1 (y6 v1563) 0)).bind fun r1566=>
      cond b1561
       (let n1567:Nat:=((y6 x9)*4)
       rec x0 x1 x2 x3 x4 x5 x6 x7 (((y8 n1567 x8)++r1566.1)++(y9 (n1567+4) x8)) (y0 .i64 (x9+1)))
        none)
       none)
      none)
     none)
    none)
  (some (x6,x8,()))
def q4u(F:Nat):Nat→Bool→Bool→LI→LI→LI→LI→LI→LI→LI→Int→Option (LI×LI×Unit)
 |0,_,_,_,_,_,_,_,_,_,_=>none
 |k+1,x0,x1,x2,x3,x4,x5,x6,x7,x8,x9=>q6v F (q4u F k) x0 x1 x2 x3 x4 x5 x6 x7 x8 x9
def q92(F:Nat)(a0:(Bool×Bool×LI×LI×LI×LI×Unit)):Option (LI×Unit):=
 (q91 F (a0.1,a0.2.1,a0.2.2.1,a0.2.2.2.1,a0.2.2.2.2.1,a0.2.2.2.2.2.1,())).bind fun r1486=>
 (q4u F F a0.1 a0.2.1 a0.2.2.1 a0.2.2.2.1 a0.2.2.2.2.1 a0.2.2.2.2.2.1 q4x r1486.1 q4x 0).bind fun r1570=>
 some (r1570.2.1,())
def qf4(F:Nat)(a0:LI):Option (LI×Int×Unit):=
 (q6b F a0).bind fun r1342=>
 cond (r1342.2.1 !=0)
  (some (q4x,r1342.2.1,()))
  ((q92 F (r1342.1.1,r1342.1.2.1,r1342.1.2.2.1,r1342.1.2.2.2.1,r1342.1.2.2.2.2.1,r1342.1.2.2.2.2.2.1,())).bind fun r1571=>
  some (r1571.1,0,()))
def qh3(F:Nat)(rec:Bool→Bool→LI→LI→LI→LI→Int→Option (Unit⊕(Bool×Bool×LI×LI×LI×LI×Unit)))(x0:Bool)(x1:Bool)(x2:LI)(x3:LI)(x4:LI)(x5:LI)(x6:Int):Option (Unit⊕(Bool×Bool×LI×LI×LI×LI×Unit)):=
 cond (decide (x6<3))
  (cond x0
   (let b1634:Bool:=((decide (0≤x6))&&(decide (x6<3)))
   cond b1634
    (let v1636:Int:=(y7 x2 (y6 x6) 0)
    (q6o F v1636 0 31).bind fun r1637=>
    cond (!r1637.1)
     (some (.inl ()))
     (cond b1634
      (let v1639:Int:=(y7 x3 (y6 x6) 0)
      (q6o F v1639 (-4) 3).bind fun r1640=>
      cond (!r1640.1)
       (some (.inl ()))
       (cond (!x0)
        (cond b1634
         ((q6o F v1636 0 15).bind fun r1643=>
         cond (!r1643.1)
          (some (.inl ()))
          (cond b1634
           ((q6o F v1639 0 15).bind fun r1645=>
           cond (!r1645.1)
            (some (.inl ()))
            (rec x0 x1 x2 x3 x4 x5 (y0 .i64 (x6+1))))
            none))
          none)
        (rec x0 x1 x2 x3 x4 x5 (y0 .i64 (x6+1)))))
       none))
     none)
   (cond (!x0)
    (let b1650:Bool:=((decide (0≤x6))&&(decide (x6<3)))
    cond b1650
     ((q6o F (y7 x2 (y6 x6) 0) 0 15).bind fun r1653=>
     cond (!r1653.1)
      (some (.inl ()))
      (cond b1650
       ((q6o F (y7 x3 (y6 x6) 0) 0 15).bind fun r1656=>
       cond (!r1656.1)
        (some (.inl ()))
        (rec x0 x1 x2 x3 x4 x5 (y0 .i64 (x6+1))))
        none))
      none)
    (rec x0 x1 x2 x3 x4 x5 (y0 .i64 (x6+1)))))
  (some (.inr (x0,x1,x2,x3,x4,x5,())))
def q3x(F:Nat):Nat→Bool→Bool→LI→LI→LI→LI→Int→Option (Unit⊕(Bool×Bool×LI×LI×LI×LI×Unit))
 |0,_,_,_,_,_,_,_=>none
 |k+1,x0,x1,x2,x3,x4,x5,x6=>qh3 F (q3x F k) x0 x1 x2 x3 x4 x5 x6
def qh4(F:Nat)(rec:Bool→Bool→LI→LI→LI→LI→Int→Option (Unit⊕(Bool×Bool×LI×LI×LI×LI×Unit)))(x0:Bool)(x1:Bool)(x2:LI)(x3:LI)(x4:LI)(x5:LI)(x6:Int):Option (Unit⊕(Bool×Bool×LI×LI×LI×LI×Unit)):=
 cond (decide (x6<16))
  (cond ((decide (0≤x6))&&(decide (x6<16)))
   ((q6o F (y7 x5 (y6 x6) 0) 0 3).bind fun r1675=>
   cond (!r1675.1)
    (some (.inl ()))
    (rec x0 x1 x2 x3 x4 x5 (y0 .i64 (x6+1))))
    none)
  (some (.inr (x0,x1,x2,x3,x4,x5,())))
def q7a(F:Nat):Nat→Bool→Bool→LI→LI→LI→LI→Int→Option (Unit⊕(Bool×Bool×LI×LI×LI×LI×Unit))
 |0,_,_,_,_,_,_,_=>none
 |k+1,x0,x1,x2,x3,x4,x5,x6=>qh4 F (q7a F k) x0 x1 x2 x3 x4 x5 x6
def qxc(F:Nat)(a0:(Bool×Bool×LI×LI×LI×LI×Unit)):Option (Bool×Unit):=
 (q3x F F a0.1 a0.2.1 a0.2.2.1 a0.2.2.2.1 a0.2.2.2.2.1 a0.2.2.2.2.2.1 0).bind fun r1660=>match r1660 with
  | .inl r1660=>(some (false,()))
  | .inr r1660=>((q7a F F r1660.1 r1660.2.1 r1660.2.2.1 r1660.2.2.2.1 r1660.2.2.2.2.1 r1660.2.2.2.2.2.1 0).bind fun r1678=>match r1678 with
    | .inl r1678=>(some (false,()))
    | .inr r1678=>((q6o F (y7 r1678.2.2.2.2.1 0 0) 0 7).bind fun r1680=>
     cond r1680.1
      ((q6o F (y7 r1678.2.2.2.2.1 1 0) 0 7).bind fun r1682=>
      some (r1682.1,()))
      (some (false,()))))
def qn4:LI:=[0,0,0,0,0,0,0,0]
def q3m(F:Nat)(a0:Int)(a1:Int)(a2:Int)(a3:LI):Option (LI×Unit):=
 (q2p F a3 a1 (y0 .i64 ((y0 .i64 (a2-a1))+1)) (y0 .u64 a0)).bind fun r187=>
 some (r187.1,())
def q85:LI:=[7,9,10,11,12,13,14]
def q9n(F:Nat)(rec:Int→LI→LI→Int→Int→Option (LI×Unit))(x0:Int)(x1:LI)(x2:LI)(x3:Int)(x4:Int):Option (LI×Unit):=
 cond (decide (x4<x3))
  (cond ((decide (0≤x4))&&(decide (x4<(((ya x1):Nat):Int))))
   (let v302:Int:=(y0 .i64 ((y0 .i64 ((((ya x1):Nat):Int)-1))-x4))
   cond (decide (0≤v302))
    ((q2p F x2 (y7 x1 (y6 x4) 0) 1 (y0 .u64 (iand .i64 (ishr .i64 x0 v302) 1))).bind fun r307=>
    rec x0 x1 r307.1 x3 (y0 .i64 (x4+1)))
     none)
    none)
  (some (x2,()))
def q3b(F:Nat):Nat→Int→LI→LI→Int→Int→Option (LI×Unit)
 |0,_,_,_,_,_=>none
 |k+1,x0,x1,x2,x3,x4=>q9n F (q3b F k) x0 x1 x2 x3 x4
def q3n(F:Nat)(a0:Int)(a1:LI)(a2:LI):Option (LI×Unit):=
 (q3b F F a0 a1 a2 (((ya a1):Nat):Int) 0).bind fun r310=>
 some (r310.1,())
def q86:LI:=[15,19,20,22,23,24]
def q87:LI:=[25,26,27,28,29,31]
def q6d:LI:=[0,0,0,0,0,0,0,0,0,0,0,0,0,0,0,0]
def q04(F:Nat)(a0:LI)(a1:Bool)(a2:Bool)(a3:LI)(a4:LI)(a5:LI)(a6:LI)(a7:Bool)(a8:Int)(a9:Int):Option (Int×Unit):=
 (qc6 F a0 a8 (y0 .i64 ((y0 .i64 (a9-a8))+1))).bind fun r577=>
 some ((y0 .i64 r577.1),())
def qek(F:Nat)(rec:LI→LI→LI→LI→Int→Option (Unit⊕(LI×LI×LI×Unit)))(x0:LI)(x1:LI)(x2:LI)(x3:LI)(x4:Int):Option (Unit⊕(LI×LI×LI×Unit)):=
 cond (decide (x4<3))
  (cond ((decide (0≤x4))&&(decide (x4<3)))
   (let l611:LI:=(y8 3 (y9 ((y6 x4)*3) x3))
   cond ((qwu .i64 (ior .i64 (y7 l611 0 0) (y7 l611 2 0)) 63) !=0)
    (some (.inl ()))
    (cond ((qwu .i64 (y7 l611 1 0) 127) !=0)
     (some (.inl ()))
     (rec x0 x1 x2 x3 (y0 .i64 (x4+1)))))
    none)
  (some (.inr (x0,x1,x2,())))
def q3o(F:Nat):Nat→LI→LI→LI→LI→Int→Option (Unit⊕(LI×LI×LI×Unit))
 |0,_,_,_,_,_=>none
 |k+1,x0,x1,x2,x3,x4=>qek F (q3o F k) x0 x1 x2 x3 x4
def qel(F:Nat)(rec:LI→Bool→Bool→LI→LI→LI→LI→Int→Option (LI×Unit))(x0:LI)(x1:Bool)(x2:Bool)(x3:LI)(x4:LI)(x5:LI)(x6:LI)(x7:Int):Option (LI×Unit):=
 cond (decide (x7<2))
  (let b682:Bool:=((decide (0≤x7))&&(decide (x7<3)))
  cond b682
   (cond b682
    (let v686:Int:=(y0 .i64 ((y7 x3 (y6 x7) 0)+(y7 x4 (y6 x7) 0)))
    cond (decide (v686<0))
     ((q3n F 1 [(y0 .i64 (8*x7))] x0).bind fun r689=>
     rec r689.1 x1 x2 x3 x4 x5 x6 (y0 .i64 (x7+1)))
     (cond (decide (31<v686))
      ((q3n F 1 [(y0 .i64 (8*x7))] x0).bind fun r694=>
      rec r694.1 x1 x2 x3 x4 x5 x6 (y0 .i64 (x7+1)))
      (rec x0 x1 x2 x3 x4 x5 x6 (y0 .i64 (x7+1)))))
     none)
    none)
  (some (x0,()))
def q4g(F:Nat):Nat→LI→Bool→Bool→LI→LI→LI→LI→Int→Option (LI×Unit)
 |0,_,_,_,_,_,_,_,_=>none
 |k+1,x0,x1,x2,x3,x4,x5,x6,x7=>qel F (q4g F k) x0 x1 x2 x3 x4 x5 x6 x7
def qhm(F:Nat)(a0:LI)(a1:LI)(a2:LI):Option (LI×Int×Unit):=
 (q3o F F a0 a1 a2 (a0++(a1++a2)) 0).bind fun r621=>match r621 with
  | .inl r621=>(some ([],1,()))
  | .inr r621=>((q3m F (y7 r621.1 0 0) 1 6 qn4).bind fun r623=>
   (q3n F (y7 r621.1 1 0) q85 r623.1).bind fun r626=>
   (q3n F (y7 r621.1 2 0) q86 r626.1).bind fun r629=>
   (q3n F (y7 r621.2.1 0 0) q87 r629.1).bind fun r632=>
   (q3m F (y7 r621.2.1 1 0) 32 38 r632.1).bind fun r635=>
   (q3m F (y7 r621.2.1 2 0) 39 44 r635.1).bind fun r638=>
   (q3m F (y7 r621.2.2.1 0 0) 45 50 r638.1).bind fun r641=>
   (q3m F (y7 r621.2.2.1 1 0) 51 57 r641.1).bind fun r644=>
   (q3m F (y7 r621.2.2.1 2 0) 58 63 r644.1).bind fun r647=>
   (q3n F 1 [30] r647.1).bind fun r649=>
   (q3v F r649.1).bind fun r651=>
   (q4g F F r649.1 r651.1.1 r651.1.2.1 r651.1.2.2.1 r651.1.2.2.2.1 r651.1.2.2.2.2.1 r651.1.2.2.2.2.2.1 0).bind fun r698=>
   (q04 F r698.1 false false [0,0,0] [0,0,0] [0,0] q6d false 19 20).bind fun r700=>
   (q04 F r698.1 false false [0,0,0] [0,0,0] [0,0] q6d false 22 23).bind fun r701=>
   let v702:Int:=(y0 .i64 (r700.1+r701.1))
   cond (decide (4≤v702))
    ((q3m F 7 16 18 r698.1).bind fun r704=>
    some (r704.1,0,()))
    ((q3n F 1 [21] r698.1).bind fun r706=>
    some (r706.1,0,())))
def q02:LI:=[0,0,0,0,0,0,0,0,0,0,0,0,0,0,0,0,0,0,0,0,0,0,0,0,0,0,0,0,0,0,0,0,0,0,0,0,0,0,0,0,0,0,0,0,0,0,0,0,0,0,0,0,0,0,0,0,0,0,0,0,0,0,0,0]
def q6p(F:Nat)(rec:LI→Bool→Bool→LI→LI→LI→LI→Bool→Int→LI→Int→Int→Option (Int×Unit))(x0:LI)(x1:Bool)(x2:Bool)(x3:LI)(x4:LI)(x5:LI)(x6:LI)(x7:Bool)(x8:Int)(x9:LI)(x10:Int)(x11:Int):Option (Int×Unit):=
 cond (decide (x11<x10))
  (cond ((decide (0≤x11))&&(decide (x11<(((ya x9):Nat):Int))))
   ((qc6 F x0 (y7 x9 (y6 x11) 0) 1).bind fun r782=>
   rec x0 x1 x2 x3 x4 x5 x6 x7 (ior .i64 (ishl .i64 x8 1) (y0 .i64 r782.1)) x9 x10 (y0 .i64 (x11+1)))
    none)
  (some (x8,()))
def q2n(F:Nat):Nat→LI→Bool→Bool→LI→LI→LI→LI→Bool→Int→LI→Int→Int→Option (Int×Unit)
 |0,_,_,_,_,_,_,_,_,_,_,_,_=>none
 |k+1,x0,x1,x2,x3,x4,x5,x6,x7,x8,x9,x10,x11=>q6p F (q2n F k) x0 x1 x2 x3 x4 x5 x6 x7 x8 x9 x10 x11
def q05(F:Nat)(a0:LI)(a1:Bool)(a2:Bool)(a3:LI)(a4:LI)(a5:LI)(a6:LI)(a7:Bool)(a8:LI):Option (Int×Unit):=
 (q2n F F a0 a1 a2 a3 a4 a5 a6 a7 0 a8 (((ya a8):Nat):Int) 0).bind fun r787=>
 some (r787.1,())
def qi1(F:Nat)(a0:LI)(a1:Bool):Option (LI×Bool×Bool×LI×LI×LI×LI×Bool×Unit):=
 cond (!a1)
  (cond a1
   ((q2p F a0 30 1 1).bind fun r796=>
   (q3v F r796.1).bind fun r798=>
   some (a0,r798.1.1,r798.1.2.1,r798.1.2.2.1,r798.1.2.2.2.1,r798.1.2.2.2.2.1,r798.1.2.2.2.2.2.1,true,()))
   ((q3v F a0).bind fun r799=>
   some (a0,r799.1.1,r799.1.2.1,r799.1.2.2.1,r799.1.2.2.2.1,r799.1.2.2.2.2.1,r799.1.2.2.2.2.2.1,true,())))
  ((q05 F a0 false false [0,0,0] [0,0,0] [0,0] q6d false [30]).bind fun r800=>
  let b801:Bool:=(r800.1==1)
  cond a1
   ((q2p F a0 30 1 1).bind fun r802=>
   (q3v F r802.1).bind fun r804=>
   some (a0,r804.1.1,r804.1.2.1,r804.1.2.2.1,r804.1.2.2.2.1,r804.1.2.2.2.2.1,r804.1.2.2.2.2.2.1,b801,()))
   ((q3v F a0).bind fun r805=>
   some (a0,r805.1.1,r805.1.2.1,r805.1.2.2.1,r805.1.2.2.2.1,r805.1.2.2.2.2.1,r805.1.2.2.2.2.2.1,b801,())))
def q6w(F:Nat)(a0:LI)(a1:Bool)(a2:Bool)(a3:LI)(a4:LI)(a5:LI)(a6:LI)(a7:Bool):Option (Int×Unit):=
 (q8z F (a1,a2,a3,a4,a5,a6,())).bind fun r946=>
 cond (r946.2.1==3)
  (some (0,()))
  (some ((y0 .i64 (1+r946.2.1)),()))
def q4h(F:Nat)(rec:LI→Bool→Bool→LI→LI→LI→LI→Bool→LI→LI→LI→LI→Int→Option (LI×LI×Unit))(x0:LI)(x1:Bool)(x2:Bool)(x3:LI)(x4:LI)(x5:LI)(x6:LI)(x7:Bool)(x8:LI)(x9:LI)(x10:LI)(x11:LI)(x12:Int):Option (LI×LI×Unit):=
 cond (decide (x12<16))
  (let b1178:Bool:=((decide (0≤x12))&&(decide (x12<16)))
  cond b1178
   (cond (!x7)
    (cond ((y7 x11 (y6 x12) 0)==0)
     ((q90 F x2 x12).bind fun r1182=>
     cond ((decide (0≤r1182.1))&&(decide (r1182.1<2)))
      (cond b1178
       (let n1186:Nat:=((y6 x12)*4)
       rec x0 x1 x2 x3 x4 x5 x6 x7 x8 (((y8 n1186 x9)++(y8 4 (y9 ((y6 r1182.1)*4) x10)))++(y9 (n1186+4) x9)) x10 x11 (y0 .i64 (x12+1)))
        none)
       none)
     (rec x0 x1 x2 x3 x4 x5 x6 x7 x8 x9 x10 x11 (y0 .i64 (x12+1))))
    (rec x0 x1 x2 x3 x4 x5 x6 x7 x8 x9 x10 x11 (y0 .i64 (x12+1))))
    none)
  (some (x8,x9,()))
def q1a(F:Nat):Nat→LI→Bool→Bool→LI→LI→LI→LI→Bool→LI→LI→LI→LI→Int→Option (LI×LI×Unit)
 |0,_,_,_,_,_,_,_,_,_,_,_,_,_=>none
 |k+1,x0,x1,x2,x3,x4,x5,x6,x7,x8,x9,x10,x11,x12=>q4h F (q1a F k) x0 x1 x2 x3 x4 x5 x6 x7 x8 x9 x10 x11 x12
def q7g(F:Nat)(a0:LI)(a1:Bool)(a2:Bool)(a3:LI)(a4:LI)(a5:LI)(a6:LI)(a7:Bool):Option (LI×Unit):=
 (qf3 F (a1,a2,a3,a4,a5,a6,())).bind fun r1150=>
 (q8z F (a1,a2,a3,a4,a5,a6,())).bind fun r1151=>
 (q1a F F a0 a1 a2 a3 a4 a5 a6 a7 q02 r1150.1 r1151.1 a6 0).bind fun r1191=>
 some (r1191.2.1,())
def q6x(F:Nat)(rec:LI→LI→LI→LI→Int→Option (LI×LI×Unit))(x0:LI)(x1:LI)(x2:LI)(x3:LI)(x4:Int):Option (LI×LI×Unit):=
 cond (decide (x4<3))
  (let b1245:Bool:=((decide (0≤x4))&&(decide (x4<3)))
  cond b1245
   (cond b1245
    ((q0z F (y7 x3 (y6 x4) 0) (y7 x0 (y6 x4) 0)).bind fun r1249=>
    cond ((decide (0≤x4))&&(decide (x4<4)))
     (rec x0 x1 (yx x2 (y6 x4) r1249.1) x3 (y0 .i64 (x4+1)))
      none)
     none)
    none)
  (some (x1,x2,()))
def q3p(F:Nat):Nat→LI→LI→LI→LI→Int→Option (LI×LI×Unit)
 |0,_,_,_,_,_=>none
 |k+1,x0,x1,x2,x3,x4=>q6x F (q3p F k) x0 x1 x2 x3 x4
def qi2(F:Nat)(a0:LI)(a1:LI):Option (LI×Unit):=
 (q3p F F a1 [0,0,0,0] [0,0,0,255] a0 0).bind fun r1253=>
 some (r1253.2.1,())
def q64(F:Nat)(a0:LI):Option (LI×Unit):=
 (qi2 F a0 [4,4,4]).bind fun r1254=>
 some (r1254.1,())
def etctwo_DistanceT1261:LI:=[3,6,11,16,23,32,41,64]
def q6y(F:Nat)(a0:Int):Option (Int×Unit):=
 let v1262:Int:=(iand .i64 a0 7)
 cond ((decide (0≤v1262))&&(decide (v1262<8)))
  (some ((y7 etctwo_DistanceT1261 (y6 v1262) 0),()))
   none
def q5y(F:Nat)(rec:Int→LI→LI→Int→Option (LI×LI×Unit))(x0:Int)(x1:LI)(x2:LI)(x3:Int):Option (LI×LI×Unit):=
 cond (decide (x3<3))
  (let b1279:Bool:=((decide (0≤x3))&&(decide (x3<4)))
  cond b1279
   ((q30 F (y0 .i64 ((y7 x1 (y6 x3) 0)+x0)) 255).bind fun r1283=>
   cond b1279
    (rec x0 (yx x1 (y6 x3) r1283.1) x2 (y0 .i64 (x3+1)))
     none)
    none)
  (some (x1,x2,()))
def q32(F:Nat):Nat→Int→LI→LI→Int→Option (LI×LI×Unit)
 |0,_,_,_,_=>none
 |k+1,x0,x1,x2,x3=>q5y F (q32 F k) x0 x1 x2 x3
def q0g(F:Nat)(a0:LI)(a1:Int):Option (LI×Unit):=
 (q32 F F a1 a0 [0,0,0,0] 0).bind fun r1286=>
 some (r1286.1,())
def q65(F:Nat)(rec:LI→LI→LI→LI→Int→Option (LI×LI×Unit))(x0:LI)(x1:LI)(x2:LI)(x3:LI)(x4:Int):Option (LI×LI×Unit):=
 cond (decide (x4<16))
  (let b1332:Bool:=((decide (0≤x4))&&(decide (x4<16)))
  cond b1332
   (let v1333:Int:=(y7 x3 (y6 x4) 0)
   cond ((decide (0≤v1333))&&(decide (v1333<4)))
    (cond b1332
     (let n1337:Nat:=((y6 x4)*4)
     rec x0 x1 (((y8 n1337 x2)++(y8 4 (y9 ((y6 v1333)*4) x0)))++(y9 (n1337+4) x2)) x3 (y0 .i64 (x4+1)))
      none)
     none)
    none)
  (some (x1,x2,()))
def q23(F:Nat):Nat→LI→LI→LI→LI→Int→Option (LI×LI×Unit)
 |0,_,_,_,_,_=>none
 |k+1,x0,x1,x2,x3,x4=>q65 F (q23 F k) x0 x1 x2 x3 x4
def q4y(F:Nat)(a0:LI)(a1:Bool)(a2:Bool)(a3:LI)(a4:LI)(a5:LI)(a6:LI)(a7:Bool)(a8:LI):Option (LI×Unit):=
 (q23 F F a8 q02 q02 a6 0).bind fun r1340=>
 some (r1340.2.1,())
def qap(F:Nat)(a0:LI)(a1:Bool)(a2:Bool)(a3:LI)(a4:LI)(a5:LI)(a6:LI)(a7:Bool):Option (LI×Unit):=
 (q05 F a0 a1 a2 a3 a4 a5 a6 a7 [3,4,6,7]).bind fun r1343=>
 (q04 F a0 a1 a2 a3 a4 a5 a6 a7 8 11).bind fun r1344=>
 (q04 F a0 a1 a2 a3 a4 a5 a6 a7 12 15).bind fun r1345=>
 (q64 F [r1343.1,r1344.1,r1345.1]).bind fun r1346=>
 (q04 F a0 a1 a2 a3 a4 a5 a6 a7 16 19).bind fun r1347=>
 (q04 F a0 a1 a2 a3 a4 a5 a6 a7 20 23).bind fun r1348=>
 (q04 F a0 a1 a2 a3 a4 a5 a6 a7 24 27).bind fun r1349=>
 (q64 F [r1347.1,r1348.1,r1349.1]).bind fun r1350=>
 (q05 F a0 a1 a2 a3 a4 a5 a6 a7 [28,29,31]).bind fun r1351=>
 (q6y F r1351.1).bind fun r1352=>
 (q0g F r1350.1 r1352.1).bind fun r1353=>
 (q0g F r1350.1 (y0 .i64 (0-r1352.1))).bind fun r1355=>
 (q4y F a0 a1 a2 a3 a4 a5 a6 a7 (r1346.1++(r1353.1++(r1350.1++r1355.1)))).bind fun r1357=>
 some (r1357.1,())
def qf5:LI:=[1,2,3,4,5,6,7,11,12,14,15,16]
def qaq(F:Nat)(a0:LI)(a1:Bool)(a2:Bool)(a3:LI)(a4:LI)(a5:LI)(a6:LI)(a7:Bool):Option (LI×Unit):=
 (q04 F a0 a1 a2 a3 a4 a5 a6 a7 1 4).bind fun r1409=>
 (q05 F a0 a1 a2 a3 a4 a5 a6 a7 [5,6,7,11]).bind fun r1410=>
 (q05 F a0 a1 a2 a3 a4 a5 a6 a7 [12,14,15,16]).bind fun r1411=>
 (q04 F a0 a1 a2 a3 a4 a5 a6 a7 17 20).bind fun r1412=>
 (q04 F a0 a1 a2 a3 a4 a5 a6 a7 21 24).bind fun r1413=>
 (q04 F a0 a1 a2 a3 a4 a5 a6 a7 25 28).bind fun r1414=>
 (q05 F a0 a1 a2 a3 a4 a5 a6 a7 [29,31]).bind fun r1415=>
 let v1416:Int:=(ishl .i64 r1415.1 1)
 (q05 F a0 a1 a2 a3 a4 a5 a6 a7 qf5).bind fun r1417=>
 (q04 F a0 a1 a2 a3 a4 a5 a6 a7 17 28).bind fun r1418=>
 cond (decide (r1418.1≤r1417.1))
  ((q64 F [r1409.1,r1410.1,r1411.1]).bind fun r1421=>
  (q64 F [r1412.1,r1413.1,r1414.1]).bind fun r1422=>
  (q6y F (y0 .i64 (v1416+1))).bind fun r1423=>
  (q0g F r1421.1 r1423.1).bind fun r1424=>
  let v1425:Int:=(y0 .i64 (0-r1423.1))
  (q0g F r1421.1 v1425).bind fun r1426=>
  (q0g F r1422.1 r1423.1).bind fun r1427=>
  (q0g F r1422.1 v1425).bind fun r1428=>
  (q4y F a0 a1 a2 a3 a4 a5 a6 a7 (r1424.1++(r1426.1++(r1427.1++r1428.1)))).bind fun r1430=>
  some (r1430.1,()))
  ((q64 F [r1409.1,r1410.1,r1411.1]).bind fun r1431=>
  (q64 F [r1412.1,r1413.1,r1414.1]).bind fun r1432=>
  (q6y F v1416).bind fun r1433=>
  (q0g F r1431.1 r1433.1).bind fun r1434=>
  let v1435:Int:=(y0 .i64 (0-r1433.1))
  (q0g F r1431.1 v1435).bind fun r1436=>
  (q0g F r1432.1 r1433.1).bind fun r1437=>
  (q0g F r1432.1 v1435).bind fun r1438=>
  (q4y F a0 a1 a2 a3 a4 a5 a6 a7 (r1434.1++(r1436.1++(r1437.1++r1438.1)))).bind fun r1440=>
  some (r1440.1,()))
def qbh(F:Nat)(a0:LI):Option (LI×Unit):=
 (qi2 F a0 [6,7,6]).bind fun r1467=>
 some (r1467.1,())
def qar(F:Nat)(rec:LI→LI→LI→LI→LI→Int→Int→Int→Option (LI×LI×LI×LI×LI×Int×Unit))(x0:LI)(x1:LI)(x2:LI)(x3:LI)(x4:LI)(x5:Int)(x6:Int)(x7:Int):Option (LI×LI×LI×LI×LI×Int×Unit):=
 cond (decide (x7<3))
  (let b1606:Bool:=((decide (0≤x7))&&(decide (x7<4)))
  cond b1606
   (cond b1606
    (let v1609:Int:=(y7 x0 (y6 x7) 0)
    cond b1606
     (cond b1606
      (cond b1606
       ((q30 F (ishr .i64 (y0 .i64 ((y0 .i64 ((y0 .i64 ((y0 .i64 ((yv x5 4)*(y0 .i64 ((y7 x1 (y6 x7) 0)-v1609))))+(y0 .i64 ((y0 .i64 (yw x5 4))*(y0 .i64 ((y7 x2 (y6 x7) 0)-v1609))))))+(y0 .i64 (4*v1609))))+2)) 2) 255).bind fun r1621=>
       cond ((decide (0≤x5))&&(decide (x5<16)))
        (cond b1606
         (rec x0 x1 x2 x3 (yx x4 (((y6 x5)*4)+(y6 x7)) r1621.1) x5 x6 (y0 .i64 (x7+1)))
          none)
         none)
        none)
       none)
      none)
     none)
    none)
  (some (x0,x1,x2,x3,x4,x6,()))
def q52(F:Nat):Nat→LI→LI→LI→LI→LI→Int→Int→Int→Option (LI×LI×LI×LI×LI×Int×Unit)
 |0,_,_,_,_,_,_,_,_=>none
 |k+1,x0,x1,x2,x3,x4,x5,x6,x7=>qar F (q52 F k) x0 x1 x2 x3 x4 x5 x6 x7
def qas(F:Nat)(rec:LI→LI→LI→LI→LI→Int→Option (LI×LI×Unit))(x0:LI)(x1:LI)(x2:LI)(x3:LI)(x4:LI)(x5:Int):Option (LI×LI×Unit):=
 cond (decide (x5<16))
  (cond ((decide (0≤x5))&&(decide (x5<16)))
   ((q52 F F x0 x1 x2 x3 (yx x4 (3+((y6 x5)*4)) 255) x5 x5 0).bind fun r1627=>
   rec r1627.1 r1627.2.1 r1627.2.2.1 r1627.2.2.2.1 r1627.2.2.2.2.1 (y0 .i64 (r1627.2.2.2.2.2.1+1)))
    none)
  (some (x3,x4,()))
def q53(F:Nat):Nat→LI→LI→LI→LI→LI→Int→Option (LI×LI×Unit)
 |0,_,_,_,_,_,_=>none
 |k+1,x0,x1,x2,x3,x4,x5=>qas F (q53 F k) x0 x1 x2 x3 x4 x5
def qjk(F:Nat)(a0:LI)(a1:LI)(a2:LI):Option (LI×Unit):=
 (q53 F F a0 a1 a2 q02 q02 0).bind fun r1629=>
 some (r1629.2.1,())
def q7h(F:Nat)(a0:LI)(a1:Bool)(a2:Bool)(a3:LI)(a4:LI)(a5:LI)(a6:LI)(a7:Bool):Option (LI×Unit):=
 (q04 F a0 a1 a2 a3 a4 a5 a6 a7 1 6).bind fun r1632=>
 (q05 F a0 a1 a2 a3 a4 a5 a6 a7 q85).bind fun r1633=>
 (q05 F a0 a1 a2 a3 a4 a5 a6 a7 q86).bind fun r1634=>
 (q05 F a0 a1 a2 a3 a4 a5 a6 a7 q87).bind fun r1635=>
 (q04 F a0 a1 a2 a3 a4 a5 a6 a7 32 38).bind fun r1636=>
 (q04 F a0 a1 a2 a3 a4 a5 a6 a7 39 44).bind fun r1637=>
 (q04 F a0 a1 a2 a3 a4 a5 a6 a7 45 50).bind fun r1638=>
 (q04 F a0 a1 a2 a3 a4 a5 a6 a7 51 57).bind fun r1639=>
 (q04 F a0 a1 a2 a3 a4 a5 a6 a7 58 63).bind fun r1640=>
 (qbh F [r1632.1,r1633.1,r1634.1]).bind fun r1641=>
 (qbh F [r1635.1,r1636.1,r1637.1]).bind fun r1642=>
 (qbh F [r1638.1,r1639.1,r1640.1]).bind fun r1643=>
 (qjk F r1641.1 r1642.1 r1643.1).bind fun r1644=>
 some (r1644.1,())
def q9o(F:Nat)(rec:LI→LI→Bool→Bool→LI→LI→LI→LI→Bool→Int→LI→LI→Int→Option (LI×LI×Unit))(x0:LI)(x1:LI)(x2:Bool)(x3:Bool)(x4:LI)(x5:LI)(x6:LI)(x7:LI)(x8:Bool)(x9:Int)(x10:LI)(x11:LI)(x12:Int):Option (LI×LI×Unit):=
 cond (decide (x12<16))
  (let b1214:Bool:=((decide (0≤x12))&&(decide (x12<16)))
  cond b1214
   (cond (!x8)
    (cond (x9 !=3)
     (cond ((y7 x11 (y6 x12) 0)==2)
      (cond b1214
       (let n1219:Nat:=((y6 x12)*4)
       rec x0 x1 x2 x3 x4 x5 x6 x7 x8 x9 (((y8 n1219 x10)++[0,0,0,0])++(y9 (n1219+4) x10)) x11 (y0 .i64 (x12+1)))
        none)
      (rec x0 x1 x2 x3 x4 x5 x6 x7 x8 x9 x10 x11 (y0 .i64 (x12+1))))
     (rec x0 x1 x2 x3 x4 x5 x6 x7 x8 x9 x10 x11 (y0 .i64 (x12+1))))
    (rec x0 x1 x2 x3 x4 x5 x6 x7 x8 x9 x10 x11 (y0 .i64 (x12+1))))
    none)
  (some (x0,x10,()))
def q1v(F:Nat):Nat→LI→LI→Bool→Bool→LI→LI→LI→LI→Bool→Int→LI→LI→Int→Option (LI×LI×Unit)
 |0,_,_,_,_,_,_,_,_,_,_,_,_,_=>none
 |k+1,x0,x1,x2,x3,x4,x5,x6,x7,x8,x9,x10,x11,x12=>q9o F (q1v F k) x0 x1 x2 x3 x4 x5 x6 x7 x8 x9 x10 x11 x12
def q9p(F:Nat)(a0:LI)(a1:Bool):Option (LI×Int×Unit):=
 cond ((((ya a0):Nat):Int) !=8)
  (some (q02,1,()))
  ((qi1 F a0 a1).bind fun r806=>
  (q6w F r806.1 r806.2.1 r806.2.2.1 r806.2.2.2.1 r806.2.2.2.2.1 r806.2.2.2.2.2.1 r806.2.2.2.2.2.2.1 r806.2.2.2.2.2.2.2.1).bind fun r949=>
  cond (r949.1==0)
   ((q7g F r806.1 r806.2.1 r806.2.2.1 r806.2.2.2.1 r806.2.2.2.2.1 r806.2.2.2.2.2.1 r806.2.2.2.2.2.2.1 r806.2.2.2.2.2.2.2.1).bind fun r1192=>
   (q1v F F q02 r806.1 r806.2.1 r806.2.2.1 r806.2.2.2.1 r806.2.2.2.2.1 r806.2.2.2.2.2.1 r806.2.2.2.2.2.2.1 r806.2.2.2.2.2.2.2.1 r949.1 r1192.1 r806.2.2.2.2.2.2.1 0).bind fun r1225=>
   some (r1225.2.1,0,()))
   (cond (r949.1==1)
    ((qap F r806.1 r806.2.1 r806.2.2.1 r806.2.2.2.1 r806.2.2.2.2.1 r806.2.2.2.2.2.1 r806.2.2.2.2.2.2.1 r806.2.2.2.2.2.2.2.1).bind fun r1358=>
    (q1v F F q02 r806.1 r806.2.1 r806.2.2.1 r806.2.2.2.1 r806.2.2.2.2.1 r806.2.2.2.2.2.1 r806.2.2.2.2.2.2.1 r806.2.2.2.2.2.2.2.1 r949.1 r1358.1 r806.2.2.2.2.2.2.1 0).bind fun r1372=>
    some (r1372.2.1,0,()))
    (cond (r949.1==2)
     ((qaq F r806.1 r806.2.1 r806.2.2.1 r806.2.2.2.1 r806.2.2.2.2.1 r806.2.2.2.2.2.1 r806.2.2.2.2.2.2.1 r806.2.2.2.2.2.2.2.1).bind fun r1441=>
     (q1v F F q02 r806.1 r806.2.1 r806.2.2.1 r806.2.2.2.1 r806.2.2.2.2.1 r806.2.2.2.2.2.1 r806.2.2.2.2.2.2.1 r806.2.2.2.2.2.2.2.1 r949.1 r1441.1 r806.2.2.2.2.2.2.1 0).bind fun r1455=>
     some (r1455.2.1,0,()))
     (cond (r949.1==3)
      ((q7h F r806.1 r806.2.1 r806.2.2.1 r806.2.2.2.1 r806.2.2.2.2.1 r806.2.2.2.2.2.1 r806.2.2.2.2.2.2.1 r806.2.2.2.2.2.2.2.1).bind fun r1645=>
      (q1v F F q02 r806.1 r806.2.1 r806.2.2.1 r806.2.2.2.1 r806.2.2.2.2.1 r806.2.2.2.2.2.1 r806.2.2.2.2.2.2.1 r806.2.2.2.2.2.2.2.1 r949.1 r1645.1 r806.2.2.2.2.2.2.1 0).bind fun r1659=>
      some (r1659.2.1,0,()))
       none))))
def z5d(F:Nat)(a0:LI)(a1:Bool):Option (Int×Unit):=
 cond ((((ya a0):Nat):Int) !=8)
  (some (0,()))
  ((qi1 F a0 a1).bind fun r1669=>
  (q6w F r1669.1 r1669.2.1 r1669.2.2.1 r1669.2.2.2.1 r1669.2.2.2.2.1 r1669.2.2.2.2.2.1 r1669.2.2.2.2.2.2.1 r1669.2.2.2.2.2.2.2.1).bind fun r1671=>
  some (r1671.1,()))
def qe1(F:Nat)(a0:LI)(a1:Bool):Option ((Bool×Bool×LI×LI×LI×LI×Unit)×Unit):=
 cond a1
  ((qf1 F a0 30 1 true 1).bind fun r2404=>
  (q6b F r2404.1).bind fun r2524=>
  some ((r2524.1.1,r2524.1.2.1,r2524.1.2.2.1,r2524.1.2.2.2.1,r2524.1.2.2.2.2.1,r2524.1.2.2.2.2.2.1,()),()))
  ((q6b F a0).bind fun r2525=>
  some ((r2525.1.1,r2525.1.2.1,r2525.1.2.2.1,r2525.1.2.2.2.1,r2525.1.2.2.2.2.1,r2525.1.2.2.2.2.2.1,()),()))
def qtr(F:Nat)(a0:LI)(a1:Bool):Option (Int×Unit):=
 cond ((((ya a0):Nat):Int) !=8)
  (some (0,()))
  ((qe1 F a0 a1).bind fun r2526=>
  (q91 F (r2526.1.1,r2526.1.2.1,r2526.1.2.2.1,r2526.1.2.2.2.1,r2526.1.2.2.2.2.1,r2526.1.2.2.2.2.2.1,())).bind fun r2670=>
  cond (r2670.2.1==3)
   (some (0,()))
   (some ((y0 .i64 (r2670.2.1+1)),())))
def q2q(F:Nat)(a0:LI)(a1:Int)(a2:Int):Option (Int×Unit):=
 (q22 F a0 a1 (y0 .i64 ((y0 .i64 (a2-a1))+1))).bind fun r2679=>
 some (r2679.1,())
def qem(F:Nat)(rec:LI→LI→Int→Int→Option (Int×Unit))(x0:LI)(x1:LI)(x2:Int)(x3:Int):Option (Int×Unit):=
 let v2704:Int:=(((ya x1):Nat):Int)
 cond (decide (x3<v2704))
  (cond ((decide (0≤x3))&&(decide (x3<(((ya x1):Nat):Int))))
   ((q22 F x0 (y7 x1 (y6 x3) 0) 1).bind fun r2710=>
   rec x0 x1 (y0 .i64 ((y0 .i64 (2*x2))+r2710.1)) (y0 .i64 (x3+1)))
    none)
  (some (x2,()))
def q7i(F:Nat):Nat→LI→LI→Int→Int→Option (Int×Unit)
 |0,_,_,_,_=>none
 |k+1,x0,x1,x2,x3=>qem F (q7i F k) x0 x1 x2 x3
def q36(F:Nat)(a0:LI)(a1:LI):Option (Int×Unit):=
 (q7i F F a0 a1 0 0).bind fun r2713=>
 some (r2713.1,())
def qe2(F:Nat)(a0:LI):Option (LI×Unit):=
 (q0l F (y7 a0 0 0) 6).bind fun r2723=>
 (q0l F (y7 a0 1 0) 7).bind fun r2725=>
 (q0l F (y7 a0 2 0) 6).bind fun r2727=>
 some ([r2723.1,r2725.1,r2727.1,255],())
def qcc(F:Nat)(rec:LI→LI→LI→LI→LI→Int→Int→Option (LI×LI×LI×LI×LI×Int×Unit))(x0:LI)(x1:LI)(x2:LI)(x3:LI)(x4:LI)(x5:Int)(x6:Int):Option (LI×LI×LI×LI×LI×Int×Unit):=
 cond (decide (x6<3))
  (let b2879:Bool:=((decide (0≤x6))&&(decide (x6<4)))
  cond b2879
   (cond b2879
    (let v2882:Int:=(y7 x0 (y6 x6) 0)
    cond b2879
     (cond b2879
      (cond b2879
       ((qlf F 0 (y0 .i64 ((y0 .i64 ((y0 .i64 ((y0 .i64 ((yv x5 4)*(y0 .i64 ((y7 x1 (y6 x6) 0)-v2882))))+(y0 .i64 ((y0 .i64 (yw x5 4))*(y0 .i64 ((y7 x2 (y6 x6) 0)-v2882))))))+(y0 .i64 (4*v2882))))+2)) 1 4 0).bind fun r2893=>
       (q6c F r2893.1 255).bind fun r2894=>
       cond ((decide (0≤x5))&&(decide (x5<16)))
        (cond b2879
         (rec x0 x1 x2 x3 (yx x4 (((y6 x5)*4)+(y6 x6)) r2894.1) x5 (y0 .i64 (x6+1)))
          none)
         none)
        none)
       none)
      none)
     none)
    none)
  (some (x0,x1,x2,x3,x4,x5,()))
def q6e(F:Nat):Nat→LI→LI→LI→LI→LI→Int→Int→Option (LI×LI×LI×LI×LI×Int×Unit)
 |0,_,_,_,_,_,_,_=>none
 |k+1,x0,x1,x2,x3,x4,x5,x6=>qcc F (q6e F k) x0 x1 x2 x3 x4 x5 x6
def qcd(F:Nat)(rec:LI→LI→LI→LI→LI→Int→Option (LI×LI×Unit))(x0:LI)(x1:LI)(x2:LI)(x3:LI)(x4:LI)(x5:Int):Option (LI×LI×Unit):=
 cond (decide (x5<16))
  (cond ((decide (0≤x5))&&(decide (x5<16)))
   ((q6e F F x0 x1 x2 x3 (yx x4 (3+((y6 x5)*4)) 255) x5 0).bind fun r2900=>
   rec r2900.1 r2900.2.1 r2900.2.2.1 r2900.2.2.2.1 r2900.2.2.2.2.1 (y0 .i64 (r2900.2.2.2.2.2.1+1)))
    none)
  (some (x3,x4,()))
def q6f(F:Nat):Nat→LI→LI→LI→LI→LI→Int→Option (LI×LI×Unit)
 |0,_,_,_,_,_,_=>none
 |k+1,x0,x1,x2,x3,x4,x5=>qcd F (q6f F k) x0 x1 x2 x3 x4 x5
def qn5(F:Nat)(a0:LI)(a1:LI)(a2:LI):Option (LI×Unit):=
 (q6f F F a0 a1 a2 q02 q02 0).bind fun r2902=>
 some (r2902.2.1,())
def qjl(F:Nat)(a0:LI):Option (LI×Unit):=
 (q2q F a0 1 6).bind fun r2680=>
 (q36 F a0 q85).bind fun r2714=>
 (q36 F a0 q86).bind fun r2715=>
 (q36 F a0 q87).bind fun r2716=>
 (q2q F a0 32 38).bind fun r2717=>
 (q2q F a0 39 44).bind fun r2718=>
 (q2q F a0 45 50).bind fun r2719=>
 (q2q F a0 51 57).bind fun r2720=>
 (q2q F a0 58 63).bind fun r2721=>
 (qe2 F [r2680.1,r2714.1,r2715.1]).bind fun r2728=>
 (qe2 F [r2716.1,r2717.1,r2718.1]).bind fun r2729=>
 (qe2 F [r2719.1,r2720.1,r2721.1]).bind fun r2730=>
 (qn5 F r2728.1 r2729.1 r2730.1).bind fun r2903=>
 some (r2903.1,())
def q2r(F:Nat)(a0:LI):Option (LI×Unit):=
 (q0l F (y7 a0 0 0) 4).bind fun r2999=>
 (q0l F (y7 a0 1 0) 4).bind fun r3001=>
 (q0l F (y7 a0 2 0) 4).bind fun r3003=>
 some ([r2999.1,r3001.1,r3003.1,255],())
def q88(F:Nat)(a0:Int):Option (Int×Unit):=
 let v3010:Int:=(yv a0 8)
 cond (decide (v3010<0))
  (let v3012:Int:=(y0 .i64 (v3010+8))
  cond ((decide (0≤v3012))&&(decide (v3012<8)))
   (some ((y7 etctwo_DistanceT1261 (y6 v3012) 0),()))
    none)
  (cond ((decide (0≤v3010))&&(decide (v3010<8)))
   (some ((y7 etctwo_DistanceT1261 (y6 v3010) 0),()))
    none)
def qf6(F:Nat)(a0:LI):Option (Int×Unit):=
 some ((y0 .i64 ((y0 .i64 ((y0 .i64 (256*(y7 a0 0 0)))+(y0 .i64 (16*(y7 a0 1 0)))))+(y7 a0 2 0))),())
def qe3(F:Nat)(a0:LI)(a1:Int):Option (LI×Unit):=
 cond (a1==1)
  ((q36 F a0 [3,4,6,7]).bind fun r2995=>
  (q2q F a0 8 11).bind fun r2996=>
  (q2q F a0 12 15).bind fun r2997=>
  (q2r F [r2995.1,r2996.1,r2997.1]).bind fun r3004=>
  (q2q F a0 16 19).bind fun r3005=>
  (q2q F a0 20 23).bind fun r3006=>
  (q2q F a0 24 27).bind fun r3007=>
  (q2r F [r3005.1,r3006.1,r3007.1]).bind fun r3008=>
  (q36 F a0 [28,29,31]).bind fun r3009=>
  (q88 F r3009.1).bind fun r3019=>
  (q1q F r3008.1 r3019.1).bind fun r3020=>
  (q1q F r3008.1 (y0 .i64 (0-r3019.1))).bind fun r3022=>
  some ((r3004.1++(r3020.1++(r3008.1++r3022.1))),()))
  ((q2q F a0 1 4).bind fun r3024=>
  (q36 F a0 [5,6,7,11]).bind fun r3025=>
  (q36 F a0 [12,14,15,16]).bind fun r3026=>
  (q2q F a0 17 20).bind fun r3027=>
  (q2q F a0 21 24).bind fun r3028=>
  (q2q F a0 25 28).bind fun r3029=>
  (q36 F a0 [29,31]).bind fun r3030=>
  let v3031:Int:=(y0 .i64 (2*r3030.1))
  (qf6 F [r3024.1,r3025.1,r3026.1]).bind fun r3039=>
  (qf6 F [r3027.1,r3028.1,r3029.1]).bind fun r3040=>
  cond (decide (r3040.1≤r3039.1))
   ((q88 F (y0 .i64 (v3031+1))).bind fun r3043=>
   (q2r F [r3024.1,r3025.1,r3026.1]).bind fun r3044=>
   (q1q F r3044.1 r3043.1).bind fun r3045=>
   (q2r F [r3024.1,r3025.1,r3026.1]).bind fun r3046=>
   let v3047:Int:=(y0 .i64 (0-r3043.1))
   (q1q F r3046.1 v3047).bind fun r3048=>
   (q2r F [r3027.1,r3028.1,r3029.1]).bind fun r3049=>
   (q1q F r3049.1 r3043.1).bind fun r3050=>
   (q2r F [r3027.1,r3028.1,r3029.1]).bind fun r3051=>
   (q1q F r3051.1 v3047).bind fun r3052=>
   some ((r3045.1++(r3048.1++(r3050.1++r3052.1))),()))
   ((q88 F v3031).bind fun r3054=>
   (q2r F [r3024.1,r3025.1,r3026.1]).bind fun r3055=>
   (q1q F r3055.1 r3054.1).bind fun r3056=>
   (q2r F [r3024.1,r3025.1,r3026.1]).bind fun r3057=>
   let v3058:Int:=(y0 .i64 (0-r3054.1))
   (q1q F r3057.1 v3058).bind fun r3059=>
   (q2r F [r3027.1,r3028.1,r3029.1]).bind fun r3060=>
   (q1q F r3060.1 r3054.1).bind fun r3061=>
   (q2r F [r3027.1,r3028.1,r3029.1]).bind fun r3062=>
   (q1q F r3062.1 v3058).bind fun r3063=>
   some ((r3056.1++(r3059.1++(r3061.1++r3063.1))),())))
def q3c(F:Nat)(rec:LI→LI→Int→Bool→Bool→Bool→LI→LI→LI→LI→LI→LI→Int→Option (LI×LI×Unit))(x0:LI)(x1:LI)(x2:Int)(x3:Bool)(x4:Bool)(x5:Bool)(x6:LI)(x7:LI)(x8:LI)(x9:LI)(x10:LI)(x11:LI)(x12:Int):Option (LI×LI×Unit):=
 cond (decide (x12<16))
  (cond (x2==1)
   ((qe3 F x0 x2).bind fun r3268=>
   let b3269:Bool:=((decide (0≤x12))&&(decide (x12<16)))
   cond b3269
    (let v3271:Int:=(y7 x9 (y6 x12) 0)
    cond ((decide (0≤v3271))&&(decide (v3271<4)))
     (cond b3269
      (let n3274:Nat:=((y6 x12)*4)
      let l3275:LI:=(((y8 n3274 x10)++(y8 4 (y9 ((y6 v3271)*4) r3268.1)))++(y9 (n3274+4) x10))
      cond (!x3)
       (cond b3269
        (cond (v3271==2)
         (cond b3269
          (rec x0 x1 x2 x3 x4 x5 x6 x7 x8 x9 (((y8 n3274 l3275)++[0,0,0,0])++(y9 (n3274+4) l3275)) x11 (y0 .i64 (x12+1)))
           none)
         (rec x0 x1 x2 x3 x4 x5 x6 x7 x8 x9 l3275 x11 (y0 .i64 (x12+1))))
         none)
       (rec x0 x1 x2 x3 x4 x5 x6 x7 x8 x9 l3275 x11 (y0 .i64 (x12+1))))
       none)
      none)
     none)
   (cond (x2==2)
    ((qe3 F x0 x2).bind fun r3283=>
    let b3284:Bool:=((decide (0≤x12))&&(decide (x12<16)))
    cond b3284
     (let v3286:Int:=(y7 x9 (y6 x12) 0)
     cond ((decide (0≤v3286))&&(decide (v3286<4)))
      (cond b3284
       (let n3289:Nat:=((y6 x12)*4)
       let l3290:LI:=(((y8 n3289 x10)++(y8 4 (y9 ((y6 v3286)*4) r3283.1)))++(y9 (n3289+4) x10))
       cond (!x3)
        (cond b3284
         (cond (v3286==2)
          (cond b3284
           (rec x0 x1 x2 x3 x4 x5 x6 x7 x8 x9 (((y8 n3289 l3290)++[0,0,0,0])++(y9 (n3289+4) l3290)) x11 (y0 .i64 (x12+1)))
            none)
          (rec x0 x1 x2 x3 x4 x5 x6 x7 x8 x9 l3290 x11 (y0 .i64 (x12+1))))
          none)
        (rec x0 x1 x2 x3 x4 x5 x6 x7 x8 x9 l3290 x11 (y0 .i64 (x12+1))))
        none)
       none)
      none)
    (cond (!x3)
     (let b3298:Bool:=((decide (0≤x12))&&(decide (x12<16)))
     cond b3298
      (let v3300:Int:=(y7 x9 (y6 x12) 0)
      cond (v3300==0)
       ((qlg F x5 x12).bind fun r3302=>
       cond ((decide (0≤r3302.1))&&(decide (r3302.1<2)))
        (cond b3298
         (let n3306:Nat:=((y6 x12)*4)
         let l3307:LI:=(((y8 n3306 x10)++(y8 4 (y9 ((y6 r3302.1)*4) x11)))++(y9 (n3306+4) x10))
         cond (!x3)
          (cond b3298
           (cond (v3300==2)
            (cond b3298
             (rec x0 x1 x2 x3 x4 x5 x6 x7 x8 x9 (((y8 n3306 l3307)++[0,0,0,0])++(y9 (n3306+4) l3307)) x11 (y0 .i64 (x12+1)))
              none)
            (rec x0 x1 x2 x3 x4 x5 x6 x7 x8 x9 l3307 x11 (y0 .i64 (x12+1))))
            none)
          (rec x0 x1 x2 x3 x4 x5 x6 x7 x8 x9 l3307 x11 (y0 .i64 (x12+1))))
          none)
         none)
       (cond (!x3)
        (cond b3298
         (cond (v3300==2)
          (cond b3298
           (let n3314:Nat:=((y6 x12)*4)
           rec x0 x1 x2 x3 x4 x5 x6 x7 x8 x9 (((y8 n3314 x10)++[0,0,0,0])++(y9 (n3314+4) x10)) x11 (y0 .i64 (x12+1)))
            none)
          (rec x0 x1 x2 x3 x4 x5 x6 x7 x8 x9 x10 x11 (y0 .i64 (x12+1))))
          none)
        (rec x0 x1 x2 x3 x4 x5 x6 x7 x8 x9 x10 x11 (y0 .i64 (x12+1)))))
       none)
     (cond (!x3)
      (let b3319:Bool:=((decide (0≤x12))&&(decide (x12<16)))
      cond b3319
       (cond ((y7 x9 (y6 x12) 0)==2)
        (cond b3319
         (let n3323:Nat:=((y6 x12)*4)
         rec x0 x1 x2 x3 x4 x5 x6 x7 x8 x9 (((y8 n3323 x10)++[0,0,0,0])++(y9 (n3323+4) x10)) x11 (y0 .i64 (x12+1)))
          none)
        (rec x0 x1 x2 x3 x4 x5 x6 x7 x8 x9 x10 x11 (y0 .i64 (x12+1))))
        none)
      (rec x0 x1 x2 x3 x4 x5 x6 x7 x8 x9 x10 x11 (y0 .i64 (x12+1)))))))
  (some (x1,x10,()))
def q0c(F:Nat):Nat→LI→LI→Int→Bool→Bool→Bool→LI→LI→LI→LI→LI→LI→Int→Option (LI×LI×Unit)
 |0,_,_,_,_,_,_,_,_,_,_,_,_,_=>none
 |k+1,x0,x1,x2,x3,x4,x5,x6,x7,x8,x9,x10,x11,x12=>q3c F (q0c F k) x0 x1 x2 x3 x4 x5 x6 x7 x8 x9 x10 x11 x12
def q66(F:Nat)(a0:LI)(a1:Bool):Option (LI×Int×Unit):=
 cond ((((ya a0):Nat):Int) !=8)
  (some (q02,1,()))
  ((qtr F a0 a1).bind fun r3195=>
  cond (r3195.1==3)
   ((qjl F a0).bind fun r3197=>
   some (r3197.1,0,()))
   (cond (!a1)
    ((qe1 F a0 a1).bind fun r3199=>
    (q92 F (r3199.1.1,r3199.1.2.1,r3199.1.2.2.1,r3199.1.2.2.2.1,r3199.1.2.2.2.2.1,r3199.1.2.2.2.2.2.1,())).bind fun r3200=>
    (q91 F (r3199.1.1,r3199.1.2.1,r3199.1.2.2.1,r3199.1.2.2.2.1,r3199.1.2.2.2.2.1,r3199.1.2.2.2.2.2.1,())).bind fun r3201=>
    (q0c F F a0 q02 r3195.1 true r3199.1.1 r3199.1.2.1 r3199.1.2.2.1 r3199.1.2.2.2.1 r3199.1.2.2.2.2.1 r3199.1.2.2.2.2.2.1 r3200.1 r3201.1 0).bind fun r3328=>
    some (r3328.2.1,0,()))
    ((q22 F a0 30 1).bind fun r3329=>
    (qe1 F a0 a1).bind fun r3331=>
    (q92 F (r3331.1.1,r3331.1.2.1,r3331.1.2.2.1,r3331.1.2.2.2.1,r3331.1.2.2.2.2.1,r3331.1.2.2.2.2.2.1,())).bind fun r3332=>
    (q91 F (r3331.1.1,r3331.1.2.1,r3331.1.2.2.1,r3331.1.2.2.2.1,r3331.1.2.2.2.2.1,r3331.1.2.2.2.2.2.1,())).bind fun r3333=>
    (q0c F F a0 q02 r3195.1 (r3329.1==1) r3331.1.1 r3331.1.2.1 r3331.1.2.2.1 r3331.1.2.2.2.1 r3331.1.2.2.2.2.1 r3331.1.2.2.2.2.2.1 r3332.1 r3333.1 0).bind fun r3397=>
    some (r3397.2.1,0,()))))
def z95(F:Nat)(rec:Int→LI→Int→Option (LI×Unit))(x0:Int)(x1:LI)(x2:Int):Option (LI×Unit):=
 cond (decide (x2≤x0))
  (cond ((decide (((ya x1)+1)≤1099511627776))&&true)
   (rec x0 (x1++[x2]) (y0 .i64 (x2+1)))
    none)
  (some (x1,()))
def qxd(F:Nat):Nat→Int→LI→Int→Option (LI×Unit)
 |0,_,_,_=>none
 |k+1,x0,x1,x2=>z95 F (qxd F k) x0 x1 x2
def q5z(F:Nat)(a0:Int)(a1:Int):Option (LI×Unit):=
 (qxd F F a1 [] a0).bind fun r3491=>
 some (r3491.1,())
def qn6(F:Nat)(rec:LI→LI→Int→Int→Option (LI×Unit))(x0:LI)(x1:LI)(x2:Int)(x3:Int):Option (LI×Unit):=
 cond (decide (0≤x3))
  (cond ((decide (0≤x3))&&(decide (x3<(((ya x1):Nat):Int))))
   ((qf1 F x0 (y7 x1 (y6 x3) 0) 1 true (y0 .u64 (yv x2 2))).bind fun r3561=>
   rec r3561.1 x1 (y0 .i64 (yw x2 2)) (y0 .i64 (x3-1)))
    none)
  (some (x0,()))
def qbi(F:Nat):Nat→LI→LI→Int→Int→Option (LI×Unit)
 |0,_,_,_,_=>none
 |k+1,x0,x1,x2,x3=>qn6 F (qbi F k) x0 x1 x2 x3
def q4b(F:Nat)(a0:LI)(a1:LI)(a2:Int):Option (LI×Unit):=
 (qbi F F a0 a1 a2 (y0 .i64 ((((ya a1):Nat):Int)-1))).bind fun r3565=>
 some (r3565.1,())
def qn7(F:Nat)(rec:LI→LI→LI→LI→Int→Option (Unit⊕(LI×LI×LI×Unit)))(x0:LI)(x1:LI)(x2:LI)(x3:LI)(x4:Int):Option (Unit⊕(LI×LI×LI×Unit)):=
 let n3692:Nat:=((ya x3)/3)
 cond (decide (x4<3))
  (let b3694:Bool:=((decide (0≤x4))&&(decide (x4<((n3692:Nat):Int))))
  cond b3694
   (let n3695:Nat:=((y6 x4)*3)
   (q6o F (y7 x3 n3695 0) 0 63).bind fun r3697=>
   cond (!r3697.1)
    (some (.inl ()))
    (cond b3694
     ((q6o F (y7 x3 (1+n3695) 0) 0 127).bind fun r3701=>
     cond (!r3701.1)
      (some (.inl ()))
      (cond b3694
       ((q6o F (y7 x3 (2+n3695) 0) 0 63).bind fun r3705=>
       cond (!r3705.1)
        (some (.inl ()))
        (rec x0 x1 x2 x3 (y0 .i64 (x4+1))))
        none))
      none))
    none)
  (some (.inr (x0,x1,x2,())))
def q7b(F:Nat):Nat→LI→LI→LI→LI→Int→Option (Unit⊕(LI×LI×LI×Unit))
 |0,_,_,_,_,_=>none
 |k+1,x0,x1,x2,x3,x4=>qn7 F (q7b F k) x0 x1 x2 x3 x4
def qn8(F:Nat)(rec:LI→Int→Option (LI×Unit))(x0:LI)(x1:Int):Option (LI×Unit):=
 cond (decide (x1<2))
  ((q6b F x0).bind fun r3782=>
  let b3783:Bool:=((decide (0≤x1))&&(decide (x1<3)))
  cond b3783
   (cond b3783
    (let v3787:Int:=(y0 .i64 ((y7 r3782.1.2.2.1 (y6 x1) 0)+(y7 r3782.1.2.2.2.1 (y6 x1) 0)))
    cond (decide (v3787<0))
     ((q4b F x0 [(y0 .i64 (8*x1))] 1).bind fun r3790=>
     rec r3790.1 (y0 .i64 (x1+1)))
     (cond (decide (31<v3787))
      ((q4b F x0 [(y0 .i64 (8*x1))] 1).bind fun r3795=>
      rec r3795.1 (y0 .i64 (x1+1)))
      (rec x0 (y0 .i64 (x1+1)))))
     none)
    none)
  (some (x0,()))
def q93(F:Nat):Nat→LI→Int→Option (LI×Unit)
 |0,_,_=>none
 |k+1,x0,x1=>qn8 F (q93 F k) x0 x1
def zgy(F:Nat)(a0:LI)(a1:LI)(a2:LI):Option (LI×Int×Unit):=
 (q7b F F a0 a1 a2 (a0++(a1++a2)) 0).bind fun r3708=>match r3708 with
  | .inl r3708=>(some ([],1,()))
  | .inr r3708=>((q5z F 1 6).bind fun r3710=>
   (q4b F qn4 r3710.1 (y7 r3708.1 0 0)).bind fun r3712=>
   (q4b F r3712.1 q85 (y7 r3708.1 1 0)).bind fun r3715=>
   (q4b F r3715.1 q86 (y7 r3708.1 2 0)).bind fun r3718=>
   (q4b F r3718.1 q87 (y7 r3708.2.1 0 0)).bind fun r3721=>
   (q5z F 32 38).bind fun r3724=>
   (q4b F r3721.1 r3724.1 (y7 r3708.2.1 1 0)).bind fun r3726=>
   (q5z F 39 44).bind fun r3729=>
   (q4b F r3726.1 r3729.1 (y7 r3708.2.1 2 0)).bind fun r3731=>
   (q5z F 45 50).bind fun r3734=>
   (q4b F r3731.1 r3734.1 (y7 r3708.2.2.1 0 0)).bind fun r3736=>
   (q5z F 51 57).bind fun r3739=>
   (q4b F r3736.1 r3739.1 (y7 r3708.2.2.1 1 0)).bind fun r3741=>
   (q5z F 58 63).bind fun r3744=>
   (q4b F r3741.1 r3744.1 (y7 r3708.2.2.1 2 0)).bind fun r3746=>
   (q4b F r3746.1 [30] 1).bind fun r3748=>
   (q93 F F r3748.1 0).bind fun r3799=>
   (q2q F r3799.1 19 20).bind fun r3801=>
   (q2q F r3799.1 22 23).bind fun r3802=>
   let v3803:Int:=(y0 .i64 (r3801.1+r3802.1))
   cond (decide (4≤v3803))
    ((q4b F r3799.1 [16,17,18] 7).bind fun r3805=>
    some (r3805.1,0,()))
    ((q4b F r3799.1 [21] 1).bind fun r3807=>
    some (r3807.1,0,())))
end Go.AE.Gn

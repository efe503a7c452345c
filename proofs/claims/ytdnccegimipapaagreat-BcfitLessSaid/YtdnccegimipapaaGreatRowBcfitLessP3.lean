/- A part of the proof, put together of my texts: Fw16, Fw17, Fw18, Fw19, Fw20, Fw21, Fw22, Fw23, Fw24, Fw25, Fw26, Fw27, Fw28, Fw29, Fw30, Fw31, Fw32, Fw33. -/
import Derived.OpenShut
import GoSem.ClaimWide
import Derived.Maps.Range
import Derived.DeepKeys5
import Derived.OrdersIn
import Derived.TacticsIn
import Derived.RangeFuncCalls
import Derived.RangeFuncNested
import Derived.Test.YtdnccegimipapaaGreatRowBcfitLessP2
set_option linter.unusedVariables false
set_option linter.unusedSimpArgs false
open List renaming replicate → yx, getD_eq_getElem?_getD → ye, getElem?_append_left → yg, getElem?_eq_getElem → yj, getElem?_append_right → yz, mem_cons → yr, mem_append → yk, length → ya, length_append → yo, getElem?_eq_none → w9, range → yy
open Option.some renaming injEq → yf
open Nat renaming le_refl → wa, add_assoc → we
open Prod.mk renaming injEq → ym
open Bool renaming and_eq_true → yl
open Option renaming map_eq_some_iff → yi
namespace Go.AE
open Go Go.RowKit
variable {ρ:Type}
def st0(n:Nat):St:=⟨yx n .undef,[none]⟩
def zoq:Act:=⟨none,false,false,false⟩
noncomputable def fzOf(M:List Place)(k:Nat):Option Obj:=by
 classical exact if h:∃ob,FzAt M k ob then some h.choose else none
noncomputable def z3l(M:List Place):Place:=⟨true,0,0,0,0,fzOf M⟩
theorem jbg{M:List Place}{k:Nat}{ob:Obj}(h:fzOf M k=some ob):FzAt M k ob:=by
 unfold fzOf at h
 split at h
 ·rename_i hx
  cases h
  exact hx.choose_spec
 ·cases h
theorem z3m{M:List Place}:FzSub [z3l M] M:=fun k ob ⟨i,pl,h1,h2⟩=>by
 have:pl=z3l M:=by simpa using List.mem_of_getElem? h1
 subst this
 exact jbg h2
theorem zhq{M:List Place}{H:Heap}{B:Base}{w:World}(r:RelH M H B w):FzSub M [z3l M]:=fun k ob h=>by
 refine⟨0,z3l M,rfl,?_⟩
 show fzOf M k=some ob
 have hx:∃ob,FzAt M k ob:=⟨ob,h⟩
 have e:fzOf M k=some hx.choose:=by
  unfold fzOf
  rw[dif_pos hx]
 have h1:=(r.fz k ob h).1
 have h2:=(r.fz k _ hx.choose_spec).1
 rw[h1]at h2
 rw[e,Option.some.inj h2]
theorem told0{M:List Place}{st:St}{B:Base}{w:World}{a:Array Value}(hH:RelH M st.heap B w)(n:Nat)(hn:n=a.size):Told M st B w a [zoq] [z3l M] (st0 n):=by
 refine⟨⟨by simp[st0,hn],fun t=> ?_⟩,⟨rfl,hH.base,fun i o h=> ?_,fun i j oi oj pi pj h=> ?_,fun i o pl k h=> ?_,fun i o pl h=> ?_,fun k ob h=>hH.fz k ob (z3m k ob h),fun i o pl h=> ?_,hH.bf⟩,rfl,fun i ac h=> ?_,zhq hH,z3m⟩
 ·have:(yx n AV.undef).getD t .undef= .undef:=by
   rw[ye,List.getElem?_replicate]
   split<;>rfl
  show RelV _ ((yx n AV.undef).getD t .undef) _
  rw[this]
  exact q43 _ _
 all_goals try (cases i<;>simp[st0]at h)
 subst h
 refine⟨z3l M,rfl,fun b h=>(by cases h),⟨fun _=>⟨fun h=>(by cases h),fun h=>(by cases h)⟩,fun k ob h=>jbg h⟩,fun oi h=>(by simp[st0]at h),fun h=>(by cases h)⟩
theorem ext_rel{M:List Place}{st:St}{B:Base}{w0:World}{a:Go.Act}{w:World}(r:Rel M st B w0 a w){its:List Item}{d:D (tysI its [])}(h:extI st true its [] () [zoq]=some d){n:Nat}(hn:st.tmps.length=n):∃M',Rel M' (bldI its [] d (st0 n)).1 B w0 a w:=by
 obtain⟨⟨M2,t⟩,_⟩:=q5u r.tmps r.heap (fun h=>by cases h) (told0 (a:=a.tmps) r.heap n (by rw[←hn];exact r.tmps.1)) h
 exact⟨M2,t.tmps,r.defers,t.heap,r.below⟩
def qwl(P:Program)(st:St):List ResultVar→Option (List AV)
 |[]=>some []
 | .tmp t::r=>match qwl P st r with
  |some l=>some (st.tmps.getD t .undef::l)
  |none=>none
 | .cell t ty::r=>match j8v P st.heap ty (st.tmps.getD t .undef),qwl P st r with
  |some x,some l=>some (x::l)
  |_,_=>none
def retV(rs:Array Value):Value:=if h:rs.size=1 then rs[0]else .tuple rs
def retA:List AV→AV
 |[x]=>x
 |l=> .tup l
def zhr(a:Array Value)(x:ResultVar):Sem Value:=
 match x with
 | .tmp t=>pure (a.getD t undef)
 | .cell c t=>(do loadVar t (←asAddr (a.getD c undef)):Sem Value)
theorem z3n{P:Program}{M:List Place}{st:St}{B:Base}{w:World}{a:Array Value}(ht:RelT M st.tmps a)(hH:RelH M st.heap B w):∀{rs:List ResultVar} {l:List AV},qwl P st rs=some l→
  ∃vs:List Value,RelL M l vs∧(rs.mapM (zhr a)).run P w= .ok vs w
 |[],l,h=>by
  simp only[qwl,yf]at h
  subst h
  exact⟨[],RelL_nil.2 rfl,by simp⟩
 | .tmp t::r,l,h=>by
  simp only[qwl]at h
  split at h
  ·rename_i l' hl
   cases h
   obtain⟨vs,h1,h2⟩:=z3n ht hH hl
   have h3:(zhr a (.tmp t)).run P w= .ok (a.getD t undef) w:=rfl
   exact⟨a.getD t undef::vs,RelL_cons.2 ⟨_,_,rfl,ht.2 t,h1⟩,by rw[List.mapM_cons];simp only[Sem.run_bind,Sem.run_pure,Result.andThen_ok,h2,h3]⟩
  ·cases h
 | .cell c t::r,l,h=>by
  simp only[qwl]at h
  split at h
  ·rename_i x l' hx hl
   cases h
   obtain⟨vs,h1,h2⟩:=z3n ht hH hl
   obtain⟨A,u,e,hu,hrun⟩:=zh7 hH (ht.2 c) hx
   have h3:(zhr a (.cell c t)).run P w= .ok u w:=by
    show((do loadVar t (←asAddr (a.getD c undef)):Sem Value)).run P w=_
    rw[Sem.run_bind,e]
    simp only[asAddr,Sem.run_pure,Result.andThen_ok]
    exact hrun w (Below.refl _ _)
   exact⟨u::vs,RelL_cons.2 ⟨_,_,rfl,hu,h1⟩,by rw[List.mapM_cons];simp only[Sem.run_bind,Sem.run_pure,Result.andThen_ok,h2,h3]⟩
  ·cases h
theorem qkl{P:Program}{M:List Place}{st:St}{B:Base}{w:World}{a:Array Value}(ht:RelT M st.tmps a)(hH:RelH M st.heap B w){fn:Func}{l:List AV}(h:qwl P st fn.results.toList=some l):
  ∃vs:Array Value,RelL M l vs.toList∧(results fn a).run P w= .ok (retV vs) w:=by
 obtain⟨vs,h1,h2⟩:=z3n ht hH h
 refine⟨vs.toArray,by simpa using h1,?_⟩
 have h3:(fn.results.mapM (zhr a)).run P w= .ok vs.toArray w:=by
  rw[Array.mapM_eq_mapM_toList]
  show((List.toArray<$>fn.results.toList.mapM (zhr a):Sem (Array Value))).run P w=_
  rw[map_eq_pure_bind,Sem.run_bind,h2]
  rfl
 have h4:results fn a=(do
   let vs←fn.results.mapM (zhr a)
   pure (if h:vs.size=1 then vs[0]else .tuple vs)):=by
  unfold results
  have:(fun(x:ResultVar)=>(match x with| .tmp t=>pure (a.getD t undef)| .cell c t=>(do loadVar t (←asAddr (a.getD c undef)):Sem Value):Sem Value))=zhr a:=by
   funext x
   cases x<;>rfl
  rw[←this]
  rfl
 rw[h4,Sem.run_bind,h3]
 rfl
theorem zuh{M:List Place}{l:List AV}{vs:Array Value}(h:RelL M l vs.toList):RelV M (retA l) (retV vs):=by
 have hlen:∀{l:List AV} {vs:List Value},RelL M l vs→l.length=vs.length:=by
  intro l
  induction l with
  |nil=>intro vs h;rw[RelL_nil]at h;subst h;rfl
  |cons x l ih=>intro vs h;obtain⟨v,r,rfl,_,hr⟩:=RelL_cons.1 h;simp[ih hr]
 have hl:=hlen h
 simp at hl
 unfold retA retV
 split
 ·rename_i x
  simp at hl
  rw[dif_pos hl.symm]
  obtain⟨v,r,e,hx,hr⟩:=RelL_cons.1 h
  rw[RelL_nil]at hr
  subst hr
  have:vs[0]'(by omega)=v:=by
   have:=congrArg (fun l:List Value=>l[0]?) e
   simpa[hl.symm]using this
  rw[this]
  exact hx
 ·rename_i hne
  rw[dif_neg]
  ·simp only[RelV,RelX]
   exact⟨vs,rfl,h⟩
  ·intro h1
   rw[h1]at hl
   obtain⟨x,rfl⟩:=List.length_eq_one_iff.1 hl
   exact hne x rfl
def zhs(P:Program)(cal:Cal ρ)(qcal:QCal ρ)(ann:Nat→Option (Ann ρ))(f:FuncId)(args:List AV)(H:Heap)(K:List AV→Heap→Option ρ):Option ρ:=
 match P.funcs[f]? with
 |some fn=>match fn.body with
  |some c=>q2t P cal qcal ann c ⟨args++yx (fn.ntmps-args.length) .undef,H⟩ fun e st=>match e with
   | .normal| .ret=>match qwl P st fn.results.toList with
    |some l=>K l st.heap
    |none=>none
   |_=>none
  |none=>none
 |none=>none
theorem qp5{M:List Place}:∀{l:List AV} {vs:List Value},RelL M l vs→l.length=vs.length
 |[],vs,h=>by rw[RelL_nil]at h;subst h;rfl
 |x::l,vs,h=>by obtain⟨v,r,rfl,_,hr⟩:=RelL_cons.1 h;simp[qp5 hr]
theorem qwm{M:List Place}{args:List AV}{vs:Array Value}(h:RelL M args vs.toList)(n:Nat):RelT M (args++yx n .undef) (vs++Array.replicate n undef):=by
 have hs:=qp5 h
 simp at hs
 refine⟨by simp[hs],fun t=> ?_⟩
 by_cases ht:t<args.length
 ·have e1:(args++yx n AV.undef).getD t .undef=args[t]:=by simp[ye,yg ht,ht]
  rw[e1]
  obtain⟨v,hv,hr⟩:=zu3 h (yj ht)
  have e2:(vs++Array.replicate n undef).getD t undef=v:=by
   have hv' :vs[t]? =some v:=by simpa using hv
   simp[Array.getElem?_append_left (show t<vs.size by omega),hv']
  rw[e2]
  exact hr
 ·have e1:(args++yx n AV.undef).getD t .undef= .undef:=by
   rw[ye,yz (by omega),List.getElem?_replicate]
   split<;>rfl
  rw[e1]
  exact q43 _ _
def Base.clean(B:Base):Base:=⟨B.w,B.vis,B.pin,B.f,[]⟩
theorem RelH.clean{M:List Place}{H:Heap}{B:Base}{w:World}(r:RelH M H B w):RelH M H B.clean w:=r.rebase (fun _ h=>h) (fun _ h=>h) (fun _ _ h=>h) (fun _ _ _ h=>h) (fun _ h=>h)
theorem RelH.unclean{M:List Place}{H:Heap}{B:Base}{w:World}(r:RelH M H B.clean w):RelH M H B w:=r.rebase (fun _ h=>h) (fun _ h=>h) (fun _ _ h=>h) (fun _ _ _ h=>h) (fun _ h=>h)
theorem Beneath.unclean{B:Base}{w w' :World}(h:Beneath B.clean w w'):Beneath B w w' :=⟨h.os,h.tape,h.output,h.size,h.block⟩
theorem zbp{P:Program}(hP:q0u P){cal:Cal ρ}(hcal:∀f,qex P f (cal f)){qcal:QCal ρ}(hq:∀f,qb3 P f (qcal f)){ann:Nat→Option (Ann ρ)}{x:Bool}{f:FuncId}{args:List AV}{H:Heap}{K:List AV→Heap→Option ρ}{r:ρ}
  (h:zhs P cal qcal ann f args H K=some r) {M:List Place} {B:Base} {w:World} {vs:Array Value}
  (hann:∀fn c,P.funcs[f]? =some fn→fn.body=some c→∀id an c',ann id=some an→(id,c')∈q97 c→z89 P x B.clean w (.block id c') an)
  (hl:RelL M args vs.toList) (hH:RelH M H B w):
  Calls P f vs w fun e w' =>∃rs l H' M',e= .returned (retV rs)∧K l H' =some r∧ExtO x M M' ∧RelL M' l rs.toList∧RelH M' H' B w' ∧Beneath B w w' :=by
 unfold zhs at h
 split at h
 ·rename_i fn hf
  split at h
  ·rename_i c hb
   have hs:=qp5 hl
   simp at hs
   refine calls_of_wp hf hb ?_
   have hr0:Rel M ⟨args++yx (fn.ntmps-args.length) .undef,H⟩ B.clean w {tmps:=vs++Array.replicate (fn.ntmps-vs.size) undef,defers:=[]} w:=
    ⟨by rw[hs];exact qwm hl _,rfl,hH.clean,Beneath.refl _ _⟩
   refine qcm hP hcal hq c (hann fn c hf hb) _ _ h M _ w _ hr0 fun e M' st' a' w' hE hk hr=> ?_
   have fin:(match qwl P st' fn.results.toList with|some l=>K l st'.heap|none=>none)=some r→
     a'.defers=[]∧∃v,(results fn a'.tmps).run P w' = .ok v w' ∧∃rs l H' M',Ending.returned v= .returned (retV rs)∧K l H' =some r∧ExtO x M M' ∧RelL M' l rs.toList∧RelH M' H' B w' ∧Beneath B w w' :=by
    intro hk
    split at hk
    ·rename_i l hres
     obtain⟨rs,h1,h2⟩:=qkl hr.tmps hr.heap hres
     exact⟨hr.defers,_,h2,rs,l,_,M',rfl,hk,hE,h1,hr.heap.unclean,hr.below.unclean⟩
    ·cases hk
   cases e<;>simp only[reduceCtorEq]at hk
   case normal=>exact fin hk
   case ret=>exact fin hk
  ·cases h
 ·cases h
structure Env (ρ:Type) where
 sum:FuncId→Option (List AV→Heap→(AV→Heap→Option ρ)→Option ρ)
 qsum:FuncId→Option (List AV→Heap→(AV→Option ρ)→Option ρ)
structure EnvOk (P:Program) (E:Env ρ):Prop where
 sum:∀f s,E.sum f=some s→qex P f s
 qsum:∀f s,E.qsum f=some s→qb3 P f s
def qof(E:Env ρ):QCal ρ:=fun f args H K=>match E.qsum f with
 |some s=>s args H K
 |none=>none
def evFn(P:Program)(E:Env ρ):Nat→Cal ρ
 |0=>fun _ _ _ _=>none
 |n+1=>fun f args H K=>match E.sum f with
  |some s=>s args H K
  |none=>zhs P (evFn P E n) (qof E) (fun _=>none) f args H fun l H' =>K (retA l) H'
theorem j7c{P:Program}{E:Env ρ}(hE:EnvOk P E)(f:FuncId):qb3 P f (qof E f):=by
 intro args H K r h M B w vs hl hH
 unfold qof at h
 split at h
 ·rename_i s hs
  exact hE.qsum f s hs args H K r h M B w vs hl hH
 ·cases h
theorem zht{P:Program}(hP:q0u P){E:Env ρ}(hE:EnvOk P E):∀(n:Nat) (f:FuncId),qex P f (evFn P E n f)
 |0,f=>fun args H K r h=>by cases h
 |n+1,f=>by
  intro args H K r h M B w vs hl hH
  unfold evFn at h
  split at h
  ·rename_i s hs
   exact hE.sum f s hs args H K r h M B w vs hl hH
  ·refine(zbp hP (zht hP hE n) (j7c hE) (x:=true) h (fun _ _ _ _ id an c' h1=>(by cases h1)) hl hH).mono ?_
   rintro e w' ⟨rs,l,H',M',h1,h2,h3,h4,h5,h6⟩
   exact⟨retV rs,retA l,H',M',h1,h2,h3 rfl,h5,h6,zuh h4⟩
inductive CO where
 |hole (t:Ty)
 |const (a:AV)
 |row (k:IntKind) (sz:Nat) (own:Bool)
inductive Out where
 |ty (t:Ty)
 |row (k:IntKind) (sz:Nat) (own:Bool:=true)
 |agg (cs:List CO)
 |prow (pin:Nat) (k:IntKind)
 |psegs (pin:Nat) (cs:List CO)
@[reducible] def z8d:List CO→List Ty→List Ty
 |[],acc=>acc
 | .hole t::r,acc=>t::z8d r acc
 | .const _::r,acc=>z8d r acc
 | .row k _ _::r,acc=> .row k::z8d r acc
@[reducible] def tysO:List Out→List Ty
 |[]=>[]
 | .ty t::r=>t::tysO r
 | .row k _ _::r=> .row k::tysO r
 | .agg cs::r=>z8d cs (tysO r)
 | .prow _ k::r=> .row k::tysO r
 | .psegs _ cs::r=>z8d cs (tysO r)
def zor:List CO→Nat
 |[]=>0
 | .row _ _ _::r=>zor r+1
 |_::r=>zor r
def slO(b sz:Nat)(l:LI)(own:Bool):AV:= .sl b 0 (div1 l.length sz) sz (if own then .own else .whole)
def z3o:(cs:List CO)→(acc:List Ty)→D (z8d cs acc)→Nat→List AV
 |[],_,_,_=>[]
 | .hole t::r,acc,d,b=>mkC t d.1::z3o r acc d.2 b
 | .const a::r,acc,d,b=>a::z3o r acc d b
 | .row _ sz own::r,acc,d,b=>slO b sz d.1 own::z3o r acc d.2 (b+1)
def qir:(cs:List CO)→(acc:List Ty)→D (z8d cs acc)→Heap
 |[],_,_=>[]
 | .hole _::r,acc,d=>qir r acc d.2
 | .const _::r,acc,d=>qir r acc d
 | .row k _ own::r,acc,d=>some ⟨.row k d.1,own,none⟩::qir r acc d.2
def qth:(cs:List CO)→(acc:List Ty)→D (z8d cs acc)→D acc
 |[],_,d=>d
 | .hole _::r,acc,d=>qth r acc d.2
 | .const _::r,acc,d=>qth r acc d
 | .row _ _ _::r,acc,d=>qth r acc d.2
def avsO:(os:List Out)→D (tysO os)→Nat→List AV
 |[],_,_=>[]
 | .ty t::r,d,b=>mkT t d.1::avsO r d.2 b
 | .row _ sz own::r,d,b=>slO b sz d.1 own::avsO r d.2 (b+1)
 | .agg cs::r,d,b=> .agg (z3o cs (tysO r) d b)::avsO r (qth cs (tysO r) d) (b+zor cs)
 | .prow _ _::r,d,b=>avsO r d.2 b
 | .psegs _ cs::r,d,b=>avsO r (qth cs (tysO r) d) (b+zor cs)
def qd4:(os:List Out)→D (tysO os)→Heap
 |[],_=>[]
 | .ty _::r,d=>qd4 r d.2
 | .row k _ own::r,d=>some ⟨.row k d.1,own,none⟩::qd4 r d.2
 | .agg cs::r,d=>qir cs (tysO r) d++qd4 r (qth cs (tysO r) d)
 | .prow _ _::r,d=>qd4 r d.2
 | .psegs _ cs::r,d=>qir cs (tysO r) d++qd4 r (qth cs (tysO r) d)
def upsO:(os:List Out)→D (tysO os)→Nat→List (Nat×Cont)
 |[],_,_=>[]
 | .ty _::r,d,b=>upsO r d.2 b
 | .row _ _ _::r,d,b=>upsO r d.2 (b+1)
 | .agg cs::r,d,b=>upsO r (qth cs (tysO r) d) (b+zor cs)
 | .prow pin k::r,d,b=>(pin,.row k d.1)::upsO r d.2 b
 | .psegs pin cs::r,d,b=>(pin,.segs (z3o cs (tysO r) d b))::upsO r (qth cs (tysO r) d) (b+zor cs)
theorem qp6:∀{cs:List CO} {acc:List Ty} {d:D (z8d cs acc)},(qir cs acc d).length=zor cs
 |[],_,_=>rfl
 | .hole _::r,acc,d=>qp6 (cs:=r) (d:=d.2)
 | .const _::r,acc,d=>qp6 (cs:=r) (d:=d)
 | .row _ _ _::r,acc,d=>by simp[qir,zor,qp6 (cs:=r) (d:=d.2)]
theorem qkm:∀{cs:List CO} {acc:List Ty} {d:D (z8d cs acc)},∀x∈qir cs acc d,x≠none
 |[],_,_=>by simp[qir]
 | .hole _::r,acc,d=>qkm (cs:=r) (d:=d.2)
 | .const _::r,acc,d=>qkm (cs:=r) (d:=d)
 | .row _ _ _::r,acc,d=>by
  intro x hx
  simp only[qir,yr]at hx
  rcases hx with rfl|hx
  ·simp
  ·exact qkm (cs:=r) (d:=d.2) x hx
theorem qp7:∀{os:List Out} {d:D (tysO os)},∀x∈qd4 os d,x≠none
 |[],_=>by simp[qd4]
 | .ty _::r,d=>qp7 (os:=r) (d:=d.2)
 | .row _ _ _::r,d=>by
  intro x hx
  simp only[qd4,yr]at hx
  rcases hx with rfl|hx
  ·simp
  ·exact qp7 (os:=r) (d:=d.2) x hx
 | .agg cs::r,d=>by
  intro x hx
  simp only[qd4,yk]at hx
  rcases hx with hx|hx
  ·exact qkm x hx
  ·exact qp7 x hx
 | .prow _ _::r,d=>qp7 (os:=r) (d:=d.2)
 | .psegs _ cs::r,d=>by
  intro x hx
  simp only[qd4,yk]at hx
  rcases hx with hx|hx
  ·exact qkm x hx
  ·exact qp7 x hx
theorem j99{os:List Out}{d:D (tysO os)}(i:Nat)(hi:i<(qd4 os d).length):(qd4 os d)[i]≠none:=qp7 _ (List.getElem_mem hi)
def zch:Heap→Nat→Nat→Option Nat
 |[],_,_=>none
 |o::r,k,i=>match o with
  |some ob=>if ob.pin=some k then some i else zch r k (i+1)
  |none=>zch r k (i+1)
theorem z8e:∀{H:Heap} {k i b:Nat},zch H k i=some b→i≤b∧∃o,H[b-i]? =some (some o)∧o.pin=some k
 |[],k,i,b,h=>by cases h
 |o::r,k,i,b,h=>by
  have next:zch r k (i+1)=some b→i≤b∧∃o',(o::r)[b-i]? =some (some o')∧o'.pin=some k:=by
   intro h
   obtain⟨h1,o',h2,h3⟩:=z8e h
   refine⟨by omega,o',?_,h3⟩
   rw[show b-i=(b-(i+1))+1 by omega]
   simpa using h2
  unfold zch at h
  split at h
  ·rename_i ob
   split at h
   ·rename_i hk
    cases h
    exact⟨wa _,ob,by simp,hk⟩
   ·exact next h
  ·exact next h
def jbh(H:Heap)(k:IntKind)(sz:Nat)(own:Bool)(x:AV)(used:List Nat):Option (LI×List Nat):=
 match x with
 | .nils=>if 1≤sz then some ([],used)else none
 | .sl b off len s c=>if s=sz∧1≤sz∧used.contains b=false∧(own=true→c= .own)then
   match H[b]? with
   |some (some ⟨_,o,_⟩)=>if own=true→o=true then
     match zbh H (.sl b off len s c)with
     |some (.row k' l)=>if k' =k then some (l,b::used)else none
     |_=>none
    else none
   |_=>none
  else none
 |_=>none
def exCO(H:Heap):(cs:List CO)→(acc:List Ty)→(List Nat→Option (D acc))→List AV→List Nat→Option (D (z8d cs acc))
 |[],_,rest,[],used=>rest used
 | .hole t::r,acc,rest,xs,used=>match popC t xs with
  |some (v,ys)=>match exCO H r acc rest ys used with
   |some d=>some (v,d)
   |none=>none
  |none=>none
 | .const a::r,acc,rest,x::xs,used=>if zuf a x then exCO H r acc rest xs used else none
 | .row k sz own::r,acc,rest,x::xs,used=>match jbh H k sz own x used with
  |some (l,used')=>match exCO H r acc rest xs used' with
   |some d=>some (l,d)
   |none=>none
  |none=>none
 |_,_,_,_,_=>none
def exO(H:Heap)(kept:List Nat):(os:List Out)→List AV→List Nat→Option (D (tysO os))
 |[],[],_=>some ()
 | .ty t::r,x::xs,used=>match getT t x,exO H kept r xs used with
  |some v,some d=>some (v,d)
  |_,_=>none
 | .row k sz own::r,x::xs,used=>match jbh H k sz own x used with
  |some (l,used')=>match exO H kept r xs used' with
   |some d=>some (l,d)
   |none=>none
  |none=>none
 | .agg cs::r,x::xs,used=>match x with
  | .agg ys=>exCO H cs (tysO r) (exO H kept r xs) ys used
  |_=>none
 | .prow pin k::r,xs,used=>match zch H pin 0 with
  |some b=>match H[b]? with
   |some (some ⟨.row k' l,true,_⟩)=>if k' =k∧kept.contains b=true then(match exO H kept r xs used with|some d=>some (l,d)|none=>none)else none
   |_=>none
  |none=>none
 | .psegs pin cs::r,xs,used=>match zch H pin 0 with
  |some b=>match H[b]? with
   |some (some ⟨.segs ys,true,_⟩)=>if kept.contains b=true then exCO H cs (tysO r) (exO H kept r xs) ys used else none
   |_=>none
  |none=>none
 |_,_,_=>none
def zhu(H:Heap):List Out→List Nat
 |[]=>[]
 | .prow pin _::r=>(match zch H pin 0 with|some b=>[b]|none=>[])++zhu H r
 | .psegs pin _::r=>(match zch H pin 0 with|some b=>[b]|none=>[])++zhu H r
 |_::r=>zhu H r
structure News (B:Base) (w:World) (N:List Place) (H:Heap):Prop where
 len:N.length=H.length
 obj:∀(i:Nat) (o:AObj),H[i]? =some (some o)→o.pin=none∧(∃k l,o.c= .row k l)∧∃pl,N[i]? =some pl∧qm8 [] o pl B w∧(pl.nil=false→B.vis pl.blk)
 sep:∀(i j:Nat) (oi oj:AObj) (pi pj:Place),H[i]? =some (some oi)→H[j]? =some (some oj)→N[i]? =some pi→N[j]? =some pj→i≠j→oi.own=true→pi.nil=false→pj.nil=false→pi.blk≠pj.blk
def z4v:List CO→Bool
 |[]=>false
 | .hole t::r=>t.deep||z4v r
 |_::r=>z4v r
def qwn:List Out→Bool
 |[]=>false
 | .ty t::r=>t.deep||qwn r
 | .agg cs::r=>z4v cs||qwn r
 | .psegs _ cs::r=>z4v cs||qwn r
 |_::r=>qwn r
def fzH(os:List Out):Heap:=if qwn os then[none]else[]
def jbi(B:Base)(w:World)(os:List Out)(d:D (tysO os))(vs:List Value):Prop:=
 ∃N F:List Place,News B w N (qd4 os d)∧F.length=(fzH os).length∧(∀k ob,¬FzAt N k ob)∧
  (∀k ob,FzAt F k ob→w.heap[k]? =some ob∧B.vis k∧(B.w k∨B.f k))∧
  (∀(i:Nat) (pi:Place) (oi:AObj),N[i]? =some pi→(qd4 os d)[i]? =some (some oi)→oi.own=true→pi.nil=false→¬B.f pi.blk∧∀ob,¬FzAt F pi.blk ob)∧
  (∀M:List Place,RelL (M++(N++F)) (avsO os d M.length) vs)∧
  ∀(M:List Place) (pin:Nat) (c:Cont),(pin,c)∈upsO os d M.length→∃pl,B.pin pin pl∧qm8 (M++(N++F)) ⟨c,true,none⟩ pl B w∧
   (∀(i:Nat) (pi:Place),N[i]? =some pi→pi.nil=false→pl.nil=false→pi.blk≠pl.blk)∧(pl.nil=false→∀ob,¬FzAt F pl.blk ob)
theorem News.nil(B:Base)(w:World):News B w [] []:=⟨rfl,fun i o h=>(by simp at h),fun i j oi oj pi pj h=>(by simp at h)⟩
def IntoB(M:List Place)(H:Heap)(used:List Nat)(N:List Place)(Hn:Heap):Prop:=
 ∀(i:Nat) (pi:Place) (oi:AObj),N[i]? =some pi→Hn[i]? =some (some oi)→pi.nil=false→∃b o p,b∈used∧H[b]? =some (some o)∧M[b]? =some p∧p.nil=false∧pi.blk=p.blk∧(oi.own=true→o.own=true)
def FromB(M:List Place)(H:Heap)(used:List Nat)(N:List Place)(Hn:Heap):Prop:=
 ∀(i:Nat) (pi:Place) (oi:AObj),N[i]? =some pi→Hn[i]? =some (some oi)→pi.nil=false→∃b o p,b∉used∧H[b]? =some (some o)∧M[b]? =some p∧p.nil=false∧pi.blk=p.blk∧(oi.own=true→o.own=true)
theorem News.append{B:Base}{w:World}{M:List Place}{H:Heap}(hH:RelH M H B w){N1 N2:List Place}{H1 H2:Heap}{used used2:List Nat}(h1:News B w N1 H1)(h2:News B w N2 H2)(f1:FromB M H used N1 H1)(f2:FromB M H used2 N2 H2)
  (hu:IntoB M H used2 N1 H1):News B w (N1++N2) (H1++H2):=by
 have hl:=h1.len
 have part:∀(i:Nat) (o:AObj),(H1++H2)[i]? =some (some o)→(i<N1.length∧H1[i]? =some (some o)∧(N1++N2)[i]? =N1[i]?)∨(N1.length≤i∧H2[i-N1.length]? =some (some o)∧(N1++N2)[i]? =N2[i-N1.length]?):=by
  intro i o h
  by_cases hi:i<N1.length
  ·rw[yg (by omega)]at h
   exact .inl ⟨hi,h,yg hi⟩
  ·rw[yz (by omega)]at h
   rw[←hl]at h
   exact .inr ⟨by omega,h,yz (by omega)⟩
 have cross:∀(i j:Nat) (oi oj:AObj) (pi pj:Place),N1[i]? =some pi→H1[i]? =some (some oi)→N2[j]? =some pj→H2[j]? =some (some oj)→(oi.own=true∨oj.own=true)→pi.nil=false→pj.nil=false→pi.blk≠pj.blk:=by
  intro i j oi oj pi pj a1 a2 b1 b2 ho n1 n2
  obtain⟨b,o,p,c1,c2,c3,c4,c5,c6⟩:=hu i pi oi a1 a2 n1
  obtain⟨b',o',p',e1,e2,e3,e4,e5,e6⟩:=f2 j pj oj b1 b2 n2
  have hne:b≠b' :=fun e=>e1 (e▸c1)
  rw[c5,e5]
  rcases ho with ho|ho
  ·exact hH.sep b b' o o' p p' c2 e2 c3 e3 hne (c6 ho) c4 e4
  ·exact fun e=>hH.sep b' b o' o p' p e2 c2 e3 c3 (fun e=>hne e.symm) (e6 ho) e4 c4 e.symm
 refine⟨by simp[hl,h2.len],fun i o h=> ?_,fun i j oi oj pi pj hi hj hpi hpj hne how hni hnj=> ?_⟩
 ·rcases part i o h with⟨_,g1,g2⟩|⟨_,g1,g2⟩
  ·obtain⟨a1,a2,pl,a3,a4⟩:=h1.obj i o g1
   exact⟨a1,a2,pl,by rw[g2];exact a3,a4⟩
  ·obtain⟨a1,a2,pl,a3,a4⟩:=h2.obj _ o g1
   exact⟨a1,a2,pl,by rw[g2];exact a3,a4⟩
 ·rcases part i oi hi with⟨l1,g1,g2⟩|⟨l1,g1,g2⟩<;>rcases part j oj hj with⟨l2,k1,k2⟩|⟨l2,k1,k2⟩
  ·exact h1.sep i j oi oj pi pj g1 k1 (by rw[←g2];exact hpi) (by rw[←k2];exact hpj) hne how hni hnj
  ·exact cross i _ oi oj pi pj (by rw[←g2];exact hpi) g1 (by rw[←k2];exact hpj) k1 (.inl how) hni hnj
  ·exact fun e=>cross j _ oj oi pj pi (by rw[←k2];exact hpj) k1 (by rw[←g2];exact hpi) g1 (.inr how) hnj hni e.symm
  ·exact h2.sep _ _ oi oj pi pj g1 k1 (by rw[←g2];exact hpi) (by rw[←k2];exact hpj) (by omega) how hni hnj
theorem zhv{M:List Place}{H:Heap}{B:Base}{w:World}(hH:RelH M H B w){k:IntKind}{sz:Nat}{own:Bool}{x:AV}{used used' :List Nat}{l:LI}(h:jbh H k sz own x used=some (l,used')){v:Value}(hx:RelV M x v):
  ∃pl,pl.fz=noFz∧News B w [pl] [some ⟨.row k l,own,none⟩]∧FromB M H used [pl] [some ⟨.row k l,own,none⟩]∧(∀b∈used,b∈used')∧
   IntoB M H used' [pl] [some ⟨.row k l,own,none⟩]∧
   ∀M' :List Place,∀b,M'[b]? =some pl→RelV M' (slO b sz l own) v:=by
 have one:∀(pl:Place),qm8 [] ⟨.row k l,own,none⟩ pl B w→(pl.nil=false→B.vis pl.blk)→News B w [pl] [some ⟨.row k l,own,none⟩]:=by
  intro pl h1 h2
  refine⟨rfl,fun i o ho=> ?_,fun i j oi oj pi pj hi hj _ _ hne=> ?_⟩
  ·cases i with
   |zero=>simp at ho;subst ho;exact⟨rfl,⟨k,l,rfl⟩,pl,rfl,h1,h2⟩
   |succ i=>simp at ho
  ·have h1:=(List.getElem?_eq_some_iff.1 hi).1
   have h2:=(List.getElem?_eq_some_iff.1 hj).1
   simp at h1 h2
   omega
 have at0:∀(pl pi:Place) (oi:AObj) (i:Nat),[pl][i]? =some pi→[some (⟨.row k l,own,none⟩:AObj)][i]? =some (some oi)→pi=pl∧oi=⟨.row k l,own,none⟩:=by
  intro pl pi oi i h1 h2
  cases i with
  |zero=>simp at h1 h2;exact⟨h1.symm,h2.symm⟩
  |succ i=>simp at h1
 unfold jbh at h
 split at h
 ·split at h
  ·rename_i hs
   cases h
   have hv:v= .slice none 0 0:=by simpa[RelV,RelX]using hx
   subst hv
   refine⟨⟨true,0,0,0,0,noFz⟩,rfl,one _ (.inl ⟨rfl,rfl,by simp[RelO]⟩) (fun h=>(by cases h)),fun i pi oi h1 h2 hn=> ?_,fun b hb=>hb,fun i pi oi h1 h2 hn=> ?_,fun M' b hb=> ?_⟩
   ·rw[(at0 _ _ _ _ h1 h2).1]at hn;cases hn
   ·rw[(at0 _ _ _ _ h1 h2).1]at hn;cases hn
   ·unfold slO
    rw[qro (n:=([]:LI).length) (len:=0) (by simp) hs]
    simp only[RelV,RelX]
    exact⟨⟨true,0,0,0,0,noFz⟩,none,0,hb,rfl,by simp,wa _,fun _=>⟨fun _=>rfl,rfl⟩,fun h=>(by cases h),fun hf=>(by cases own<;>simp at hf),fun _=>⟨trivial,rfl,by simp,by simp⟩,fun _=>⟨trivial,by simp⟩,by rw[has_iff];simp[loB,hiB]⟩
  ·cases h
 ·rename_i b off len s c
  split at h
  ·rename_i hcond
   obtain⟨rfl,hs,hnu,hco⟩:=hcond
   split at h
   ·rename_i oc o op hob
    split at h
    ·rename_i hoo
     split at h
     ·rename_i k' l' hwc
      split at h
      ·rename_i hk
       subst hk
       cases h
       obtain⟨us,hus,lus⟩:=qp3 hH hx hwc (fun _ _ _ _ _ e=>by cases e;rfl)
       obtain⟨pl0,hpl0,hok0⟩:=hH.obj b _ hob
       have hx0:=hx
       simp only[RelV,RelX]at hx0
       obtain⟨pl,A,cap,hpl,hv,hb,hcap,hnil,hnn,hfull,hown,hwhole,hhas⟩:=hx0
       rw[hpl0]at hpl
       cases hpl
       have hv:v= .slice A len cap:=by simpa using hv
       have hlus:=lus.1
       simp only[qj2]at hlus
       have hll:l.length=len*s:=by have:=congrArg ya hus.1;simp at this;omega
       have hdiv:=qro hll hs
       have hnb:b∉used:=fun hm=>by
        have:used.contains b=true:=by simpa using hm
        rw[this]at hnu;cases hnu
       have off0:own=true→off=0∧pl0.off=0∧len*s=pl0.n∧cap*s≤pl0.size:=fun ho=>hown (hco ho)
       refine⟨⟨pl0.nil,pl0.blk,pl0.off+off,len*s,pl0.size,noFz⟩,rfl,one _ ?_ (fun hn=>hH.vis b _ pl0 hob hpl0 hn),fun i pi oi h1 h2 hn=> ?_,fun b' hb' =>by simp[hb'],fun i pi oi h1 h2 hn=> ?_,fun M' b' hb' => ?_⟩
       ·cases hn:pl0.nil with
        |true=>
         have h1:=(hnil hn).2
         have hl0:len=0:=by omega
         have:l=[]:=List.eq_nil_of_length_eq_zero (by rw[hll];simp[hl0])
         subst this
         exact .inl ⟨rfl,by simp[hl0],by simp[RelO]⟩
        |false=>
         rcases hok0 with⟨n1,_⟩|⟨_,cs,el,fz,g1,g2,g3,g4,g5⟩
         ·rw[hn]at n1;cases n1
         ·refine .inr ⟨rfl,cs,el,fz,g1,g2,by simp only;omega,?_,fun ho=> ?_⟩
          ·simp only
           have hu:us=(cs.toList.drop (pl0.off+off)).take (len*s):=by
            obtain⟨_,A2,cap2,hv2,_,hm⟩:=lus
            simp only[qj2]at hv2 hm
            by_cases hz:len*s=0
            ·rw[hz]at hlus⊢
             have:us=[]:=List.eq_nil_of_length_eq_zero hlus
             rw[this];simp
            ·rcases hm with hm|⟨blk,o2,cs2,el2,fz2,e,hg2,hle2,hus2⟩
             ·exact absurd hm hz
             ·have hl0:0<len:=by
               rcases Nat.eq_zero_or_pos len with h0|h0
               ·rw[h0]at hz;simp at hz
               ·exact h0
              have hA:=(hnn hn).2 (.inl hl0)
              rw[hv]at hv2
              injection hv2 with e1
              rw[←e1,hA]at e
              injection e with e
              injection e with e2 e3
              rw[←e2,g1]at hg2
              cases hg2
              rw[hus2,←e3]
           rw[←hu]
           exact hus
          ·simp only at ho
           obtain⟨z1,z2,z3⟩:=g5 (hoo ho)
           obtain⟨y1,y2,y3,y4⟩:=off0 ho
           exact⟨z1,by simp[y1,y2],z3⟩
       ·obtain⟨e1,e2⟩:=at0 _ _ _ _ h1 h2
        subst e1;subst e2
        exact⟨b,_,pl0,hnb,hob,hpl0,hn,rfl,hoo⟩
       ·obtain⟨e1,e2⟩:=at0 _ _ _ _ h1 h2
        subst e1;subst e2
        exact⟨b,_,pl0,by simp,hob,hpl0,hn,rfl,hoo⟩
       ·unfold slO
        rw[hdiv]
        simp only[RelV,RelX]
        refine⟨⟨pl0.nil,pl0.blk,pl0.off+off,len*s,pl0.size,noFz⟩,A,cap,hb',by rw[hv],by simp,hcap,fun hn=>⟨fun hf=> ?_,(hnil hn).2⟩,fun hn=>⟨(hnn hn).1,fun hq=> ?_⟩,fun hf=>(by cases own<;>simp at hf),fun hf=> ?_,fun _=>⟨trivial,rfl⟩,hhas⟩
        ·exact(hnil hn).1 (hco (by cases own with|true=>rfl|false=>simp at hf))
        ·have h1:0<len∨c= .own:=by
          rcases hq with hq|hq
          ·exact .inl hq
          ·exact .inr (hco (by cases own with|true=>rfl|false=>simp at hq))
         simpa using(hnn hn).2 h1
        ·have ho:own=true:=by cases own with|true=>rfl|false=>simp at hf
         obtain⟨y1,y2,y3,y4⟩:=off0 ho
         exact⟨trivial,by simp[y1,y2],rfl,y4⟩
      ·cases h
     ·cases h
    ·cases h
   ·cases h
  ·cases h
 ·cases h
theorem FromB.append{M:List Place}{H:Heap}{used used2:List Nat}{N1 N2:List Place}{H1 H2:Heap}(hl:N1.length=H1.length)(f1:FromB M H used N1 H1)(f2:FromB M H used2 N2 H2)(hu:∀b∈used,b∈used2):FromB M H used (N1++N2) (H1++H2):=by
 intro i pi oi h1 h2 hn
 by_cases hi:i<N1.length
 ·rw[yg hi]at h1
  rw[yg (by omega)]at h2
  exact f1 i pi oi h1 h2 hn
 ·rw[yz (by omega)]at h1
  rw[yz (by omega),←hl]at h2
  obtain⟨b,o,p,a1,a2⟩:=f2 _ pi oi h1 h2 hn
  exact⟨b,o,p,fun h=>a1 (hu b h),a2⟩
theorem IntoB.append{M:List Place}{H:Heap}{used used2:List Nat}{N1 N2:List Place}{H1 H2:Heap}(hl:N1.length=H1.length)(f1:IntoB M H used N1 H1)(f2:IntoB M H used2 N2 H2)(hu:∀b∈used,b∈used2):IntoB M H used2 (N1++N2) (H1++H2):=by
 intro i pi oi h1 h2 hn
 by_cases hi:i<N1.length
 ·rw[yg hi]at h1
  rw[yg (by omega)]at h2
  obtain⟨b,o,p,a1,a2⟩:=f1 i pi oi h1 h2 hn
  exact⟨b,o,p,hu b a1,a2⟩
 ·rw[yz (by omega)]at h1
  rw[yz (by omega),←hl]at h2
  exact f2 _ pi oi h1 h2 hn
theorem FromB.nil(M:List Place)(H:Heap)(used:List Nat):FromB M H used [] []:=fun i pi oi h=>by simp at h
theorem IntoB.nil(M:List Place)(H:Heap)(used:List Nat):IntoB M H used [] []:=fun i pi oi h=>by simp at h
theorem qka{M:List Place}{H:Heap}{B:Base}{w:World}(hH:RelH M H B w):∀{cs:List CO} {acc:List Ty} {rest:List Nat→Option (D acc)} {xs:List AV} {vs:List Value} {used:List Nat} {d:D (z8d cs acc)},exCO H cs acc rest xs used=some d→RelC M xs vs→
  ∃N used',(∀k ob,¬FzAt N k ob)∧News B w N (qir cs acc d)∧FromB M H used N (qir cs acc d)∧(∀b∈used,b∈used')∧IntoB M H used' N (qir cs acc d)∧
   (∀M' Nr:List Place,(z4v cs=true→FzSub M Nr)→RelC (M' ++N++Nr) (z3o cs acc d M'.length) vs)∧rest used' =some (qth cs acc d)
 |[],acc,rest,xs,vs,used,d,h,hr=>by
  cases xs with
  |nil=>
   simp only[exCO]at h
   rw[RelC_nil]at hr
   exact⟨[],used,fun k ob h=>FzAt.nil h,News.nil B w,FromB.nil _ _ _,fun b hb=>hb,IntoB.nil _ _ _,fun M' Nr _=>by simp only[z3o];rw[RelC_nil];exact hr,h⟩
  |cons _ _=>simp[exCO]at h
 | .hole ty::cs,acc,rest,xs,vs,used,d,h,hr=>by
  simp only[exCO]at h
  split at h
  ·rename_i v ys hp
   split at h
   ·rename_i d' hd
    cases h
    obtain⟨a,r,rfl,h1,h2⟩:=zgr (M' :=M) (fun _=>FzSub.refl M) hp hr
    obtain⟨N,used',a0,a1,a2,a3,a4,a5,a6⟩:=qka hH hd h2
    exact⟨N,used',a0,a1,a2,a3,a4,fun M' Nr hz=>RelC_cons.2 ⟨a,r,rfl,j7b (fun hd k ob h=>FzAt.right _ (hz (by simp[z4v,hd]) k ob h)) h1,a5 M' Nr fun hd=>hz (by simp[z4v,hd])⟩,a6⟩
   ·cases h
  ·cases h
 | .const _::cs,acc,rest,[],vs,used,d,h,hr=>by simp[exCO]at h
 | .row _ _ _::cs,acc,rest,[],vs,used,d,h,hr=>by simp[exCO]at h
 |c::cs,acc,rest,x::xs,vs,used,d,h,hr=>by
  obtain⟨u,r,rfl,hx,hr'⟩:=RelC_cons.1 hr
  cases c with
  |hole ty=>
   simp only[exCO]at h
   split at h
   ·rename_i v ys hp
    split at h
    ·rename_i d' hd
     cases h
     obtain⟨a,r',e,h1,h2⟩:=zgr (M' :=M) (fun _=>FzSub.refl M) hp hr
     obtain⟨N,used',a0,a1,a2,a3,a4,a5,a6⟩:=qka hH hd h2
     exact⟨N,used',a0,a1,a2,a3,a4,fun M' Nr hz=>RelC_cons.2 ⟨a,r',e,j7b (fun hd k ob h=>FzAt.right _ (hz (by simp[z4v,hd]) k ob h)) h1,a5 M' Nr fun hd=>hz (by simp[z4v,hd])⟩,a6⟩
    ·cases h
   ·cases h
  |const k=>
   simp only[exCO]at h
   split at h
   ·rename_i hs
    obtain⟨N,used',a0,a1,a2,a3,a4,a5,a6⟩:=qka hH h hr'
    have:∃v,u=[v]:=by
     have hl:=q1n hx
     have:qfc x=1:=by
      cases x<;>first|rfl|(exfalso;cases k<;>simp[zuf]at hs)
     rw[this]at hl
     exact List.length_eq_one_iff.1 hl
    obtain⟨v,rfl⟩:=this
    exact⟨N,used',a0,a1,a2,a3,a4,fun M' Nr hz=>RelC_cons.2 ⟨[v],r,rfl,z4t hs hx,a5 M' Nr hz⟩,a6⟩
   ·cases h
  |row k sz own=>
   simp only[exCO]at h
   split at h
   ·rename_i l used1 hrow
    split at h
    ·rename_i d' hd
     cases h
     have:∃v,u=[v]:=by
      have hl:=q1n hx
      have:qfc x=1:=by
       unfold jbh at hrow
       split at hrow<;>first|rfl|(cases hrow)
      rw[this]at hl
      exact List.length_eq_one_iff.1 hl
     obtain⟨v,rfl⟩:=this
     obtain⟨pl,b0,b1,b2,b3,b4,b5⟩:=zhv hH hrow hx
     obtain⟨N,used',a0,a1,a2,a3,a4,a5,a6⟩:=qka hH hd hr'
     refine⟨[pl]++N,used',fun k ob h=>(h.append).elim (fun h=>FzAt.nil (FzAt.snoc (M:=[]) b0 h)) (a0 k ob),?_,?_,fun b hb=>a3 b (b3 b hb),?_,fun M' Nr hz=> ?_,a6⟩
     ·exact News.append hH (H1:=[some ⟨.row k l,own,none⟩]) b1 a1 b2 a2 b4
     ·exact FromB.append (H1:=[some ⟨.row k l,own,none⟩]) rfl b2 a2 b3
     ·exact IntoB.append (H1:=[some ⟨.row k l,own,none⟩]) rfl b4 a4 a3
     ·have:=a5 (M' ++[pl]) Nr hz
      rw[yo]at this
      refine RelC_cons.2 ⟨[v],r,rfl,b5 _ _ (by simp),?_⟩
      simpa using this
    ·cases h
   ·cases h
theorem qp8{M:List Place}{H:Heap}{B:Base}{w:World}(hH:RelH M H B w){kept:List Nat}:∀{os:List Out} {xs:List AV} {used:List Nat} {d:D (tysO os)} {vs:List Value},exO H kept os xs used=some d→RelL M xs vs→(∀b∈kept,b∈used)→
  ∃N,(∀k ob,¬FzAt N k ob)∧News B w N (qd4 os d)∧FromB M H used N (qd4 os d)∧(∀M' Nr:List Place,(qwn os=true→FzSub M Nr)→RelL (M' ++N++Nr) (avsO os d M'.length) vs)∧
   ∀(M' Nr:List Place),(qwn os=true→FzSub M Nr)→∀(pin:Nat) (c:Cont),(pin,c)∈upsO os d M'.length→∃pl b o,B.pin pin pl∧qm8 (M' ++N++Nr) ⟨c,true,none⟩ pl B w∧b∈kept∧H[b]? =some (some o)∧o.own=true∧M[b]? =some pl
 |[],xs,used,d,vs,h,hl,hk=>by
  cases xs with
  |nil=>
   rw[RelL_nil]at hl
   exact⟨[],fun k ob h=>FzAt.nil h,News.nil B w,FromB.nil _ _ _,fun M' Nr _=>by simp only[avsO];rw[RelL_nil];exact hl,fun M' Nr _ pin c hm=>by simp[upsO]at hm⟩
  |cons _ _=>simp[exO]at h
 | .ty t::r,[],used,d,vs,h,hl,hk=>by simp[exO]at h
 | .row k sz own::r,[],used,d,vs,h,hl,hk=>by simp[exO]at h
 | .agg cs::r,[],used,d,vs,h,hl,hk=>by simp[exO]at h
 | .ty t::r,x::xs,used,d,vs,h,hl,hk=>by
  simp only[exO]at h
  split at h
  ·rename_i v d' hv hd
   cases h
   obtain⟨u,vs',rfl,hx,hr⟩:=RelL_cons.1 hl
   obtain⟨N,a0,a1,a2,a3,a4⟩:=qp8 hH hd hr hk
   exact⟨N,a0,a1,a2,fun M' Nr hz=>RelL_cons.2 ⟨u,vs',rfl,zue (fun hd k ob h=>FzAt.right _ (hz (by simp[qwn,hd]) k ob h)) hv hx,a3 M' Nr fun hd=>hz (by simp[qwn,hd])⟩,fun M' Nr hz=>a4 M' Nr fun hd=>hz (by simp[qwn,hd])⟩
  ·cases h
 | .row k sz own::r,x::xs,used,d,vs,h,hl,hk=>by
  simp only[exO]at h
  split at h
  ·rename_i l used1 hrow
   split at h
   ·rename_i d' hd
    cases h
    obtain⟨u,vs',rfl,hx,hr⟩:=RelL_cons.1 hl
    obtain⟨pl,b0,b1,b2,b3,b4,b5⟩:=zhv hH hrow hx
    obtain⟨N,a0,a1,a2,a3,a4⟩:=qp8 hH hd hr (fun b hb=>b3 b (hk b hb))
    refine⟨[pl]++N,fun k ob h=>(h.append).elim (fun h=>FzAt.nil (FzAt.snoc (M:=[]) b0 h)) (a0 k ob),?_,?_,fun M' Nr hz=> ?_,fun M' Nr hz pin c hm=> ?_⟩
    ·exact News.append hH (H1:=[some ⟨.row k l,own,none⟩]) b1 a1 b2 a2 b4
    ·exact FromB.append (H1:=[some ⟨.row k l,own,none⟩]) rfl b2 a2 b3
    ·have:=a3 (M' ++[pl]) Nr hz
     rw[yo]at this
     refine RelL_cons.2 ⟨u,vs',rfl,b5 _ _ (by simp),?_⟩
     simpa using this
    ·have:=a4 (M' ++[pl]) Nr hz pin c (by rw[yo];simpa[upsO]using hm)
     simpa using this
   ·cases h
  ·cases h
 | .agg cs::r,x::xs,used,d,vs,h,hl,hk=>by
  simp only[exO]at h
  split at h
  ·rename_i ys
   obtain⟨u,vs',rfl,hx,hr⟩:=RelL_cons.1 hl
   obtain⟨us,hu,hc⟩:=RelX_agg.1 hx
   obtain⟨N1,used1,b0,b1,b2,b3,b4,b5,b6⟩:=qka hH h hc
   obtain⟨N,a0,a1,a2,a3,a4⟩:=qp8 hH b6 hr (fun b hb=>b3 b (hk b hb))
   have hln:N1.length=zor cs:=by rw[b1.len,qp6]
   refine⟨N1++N,fun k ob h=>(h.append).elim (b0 k ob) (a0 k ob),News.append hH b1 a1 b2 a2 b4,FromB.append b1.len b2 a2 b3,fun M' Nr hz=> ?_,fun M' Nr hz pin c hm=> ?_⟩
   ·refine RelL_cons.2 ⟨u,vs',rfl,RelX_agg.2 ⟨us,hu,?_⟩,?_⟩
    ·have:=b5 M' (N++Nr) (fun hd k ob h=>FzAt.right _ (hz (by simp[qwn,hd]) k ob h))
     simpa using this
    ·have:=a3 (M' ++N1) Nr (fun hd=>hz (by simp[qwn,hd]))
     rw[yo,hln]at this
     simpa using this
   ·have:=a4 (M' ++N1) Nr (fun hd=>hz (by simp[qwn,hd])) pin c (by rw[yo,hln];simpa[upsO]using hm)
    simpa using this
  ·cases h
 | .prow pin k::r,xs,used,d,vs,h,hl,hk=>by
  simp only[exO]at h
  split at h
  ·rename_i b hb
   split at h
   ·rename_i k' l pn hob
    split at h
    ·rename_i hc
     obtain⟨rfl,hkb⟩:=hc
     split at h
     ·rename_i d' hd
      cases h
      obtain⟨N,a0,a1,a2,a3,a4⟩:=qp8 hH hd hl hk
      refine⟨N,a0,a1,a2,a3,fun M' Nr hz pin' c hm=> ?_⟩
      simp only[upsO,yr,ym]at hm
      rcases hm with⟨rfl,rfl⟩|hm
      ·obtain⟨_,o,ho,hpo⟩:=z8e hb
       rw[Nat.sub_zero,hob]at ho
       cases ho
       obtain⟨pl,hpl,hok⟩:=hH.obj b _ hob
       refine⟨pl,b,_,hH.pin b _ pl _ hob hpl hpo,?_,by simpa using hkb,hob,rfl,hpl⟩
       rcases hok with⟨n1,n2,n3⟩|⟨n1,cs',el,fz,g1,g2,g3,g4,g5⟩
       ·exact .inl ⟨n1,n2,n3⟩
       ·exact .inr ⟨n1,cs',el,fz,g1,g2,g3,g4,g5⟩
      ·exact a4 M' Nr hz pin' c hm
     ·cases h
    ·cases h
   ·cases h
  ·cases h
 | .psegs pin cs::r,xs,used,d,vs,h,hl,hk=>by
  simp only[exO]at h
  split at h
  ·rename_i b hb
   split at h
   ·rename_i ys pn hob
    split at h
    ·rename_i hkb
     obtain⟨_,o,ho,hpo⟩:=z8e hb
     rw[Nat.sub_zero,hob]at ho
     cases ho
     obtain⟨pl,hpl,hok⟩:=hH.obj b _ hob
     have hvs:∃us,RelC M ys us∧(∀M2 ys',RelC M2 ys' us→qm8 M2 ⟨.segs ys',true,none⟩ pl B w):=by
      rcases hok with⟨n1,n2,n3⟩|⟨n1,cs',el,fz,g1,g2,g3,g4,g5⟩
      ·exact⟨_,n3,fun M2 ys' hy=> .inl ⟨n1,n2,hy⟩⟩
      ·exact⟨_,g4,fun M2 ys' hy=> .inr ⟨n1,cs',el,fz,g1,g2,g3,hy,g5⟩⟩
     obtain⟨us,hus,hus2⟩:=hvs
     obtain⟨N1,used1,b0,b1,b2,b3,b4,b5,b6⟩:=qka hH h hus
     obtain⟨N,a0,a1,a2,a3,a4⟩:=qp8 hH b6 hl (fun b hb=>b3 b (hk b hb))
     have hln:N1.length=zor cs:=by rw[b1.len,qp6]
     refine⟨N1++N,fun k ob h=>(h.append).elim (b0 k ob) (a0 k ob),News.append hH b1 a1 b2 a2 b4,FromB.append b1.len b2 a2 b3,fun M' Nr hz=> ?_,fun M' Nr hz pin' c hm=> ?_⟩
     ·have:=a3 (M' ++N1) Nr (fun hd=>hz (by simp[qwn,hd]))
      rw[yo,hln]at this
      simpa[avsO]using this
     ·simp only[upsO,yr,ym]at hm
      rcases hm with⟨rfl,rfl⟩|hm
      ·refine⟨pl,b,_,hH.pin b _ pl _ hob hpl hpo,?_,by simpa using hkb,hob,rfl,hpl⟩
       have:=hus2 _ _ (b5 M' (N++Nr) (fun hd k ob h=>FzAt.right _ (hz (by simp[qwn,hd]) k ob h)))
       simpa using this
      ·have:=a4 (M' ++N1) Nr (fun hd=>hz (by simp[qwn,hd])) pin' c (by rw[yo,hln];exact hm)
       simpa using this
    ·cases h
   ·cases h
  ·cases h
theorem zhw{M:List Place}{H:Heap}{B:Base}{w:World}(hH:RelH M H B w){os:List Out}{xs:List AV}{d:D (tysO os)}{vs:List Value}(h:exO H (zhu H os) os xs (zhu H os)=some d)(hl:RelL M xs vs):jbi B w os d vs:=by
 obtain⟨N,a0,a1,a2,a3,a4⟩:=qp8 hH h hl (fun b hb=>hb)
 obtain⟨F,hF,hF1,hF2⟩:∃F:List Place,F.length=(fzH os).length∧(qwn os=true→FzSub M F)∧FzSub F M:=by
  unfold fzH
  split
  ·exact⟨[z3l M],rfl,fun _=>zhq hH,z3m⟩
  ·rename_i hd
   exact⟨[],rfl,fun h=>absurd h hd,fun k ob h=>absurd h FzAt.nil⟩
 have own:∀(i:Nat) (pi:Place) (oi:AObj),N[i]? =some pi→(qd4 os d)[i]? =some (some oi)→oi.own=true→pi.nil=false→¬B.f pi.blk∧∀ob,¬FzAt F pi.blk ob:=by
  intro i pi oi hpi ho how hn
  obtain⟨b',o',p',e1,e2,e3,e4,e5,e6⟩:=a2 i pi oi hpi ho hn
  obtain⟨f1,f2⟩:=hH.fo b' o' p' e2 e3 (e6 how) e4
  rw[e5]
  exact⟨f1,fun ob h=>f2 ob (hF2 _ _ h)⟩
 refine⟨N,F,a1,hF,a0,fun k ob h=>hH.fz k ob (hF2 k ob h),own,fun M' =>by simpa using a3 M' F hF1,fun M' pin c hm=> ?_⟩
 obtain⟨pl,b,o,c1,c2,c3,c4,c5,c6⟩:=a4 M' F hF1 pin c hm
 refine⟨pl,c1,by simpa using c2,fun i pi hpi hn hn2=> ?_,fun hn ob h=>(hH.fo b o pl c4 c6 c5 hn).2 ob (hF2 _ _ h)⟩
 have hi:i<(qd4 os d).length:=by rw[←a1.len];exact(List.getElem?_eq_some_iff.1 hpi).1
 cases ho:(qd4 os d)[i]with
 |none=>exact absurd ho (j99 i hi)
 |some oi=>
  have ho' :(qd4 os d)[i]? =some (some oi):=by rw[yj hi,ho]
  obtain⟨b',o',p',e1,e2,e3,e4,e5,e6⟩:=a2 i pi oi hpi ho' hn
  rw[e5]
  exact fun e=>hH.sep b b' o o' pl p' c4 e2 c6 e3 (fun e=>e1 (e▸c3)) c5 hn2 e4 e.symm
end Go.AE
namespace Go.AE
open Go Go.RowKit
def qg1(ρ:Type):Env ρ:=⟨fun _=>none,fun _=>none⟩
theorem zhx(P:Program)(ρ:Type):EnvOk P (qg1 ρ):=⟨fun _ _ h=>(by cases h),fun _ _ h=>(by cases h)⟩
theorem relH_nil(w:World):RelH [] [] (Base.at w.heap.size) w:=⟨rfl,fun k hk=>⟨hk,trivial⟩,fun i o h=>(by simp at h),fun i j oi oj pi pj h=>(by simp at h),fun i o pl k h=>(by simp at h),fun i o pl h=>(by simp at h),fun k ob h=>absurd h FzAt.nil,fun i o pl h=>(by simp at h),fun k hk h=>absurd hk (Nat.not_le_of_lt h)⟩
abbrev M0:List Place:=[⟨true,0,0,0,0,noFz⟩]
abbrev H0:Heap:=[none]
theorem relH_0(w:World):RelH M0 H0 (Base.at w.heap.size) w:=(relH_nil w).addNone _ (fun k ob h=>by cases h)
theorem noOwn_0:∀(i:Nat) (o:AObj),H0[i]? =some (some o)→o.own=false:=fun i o h=>by cases i<;>simp[H0]at h
def jbj (P : Program) : Bool := P.funcs.toList.all fun fn => !(fn.body.isSome && decide (fn.name = "runtime.NumGoroutine"))
theorem j4v{P:Program}(h:jbj P=true):q0u P:=by
 intro g fn hg hb e
 have h1:=List.all_eq_true.1 h fn (by
  have:=Array.mem_of_getElem? hg
  simpa using this)
 simp[hb,e]at h1
theorem has_wf{k:IntKind}{x:Int}(h:(Lit.int k x).wf=true):k.has x:=by
 have:k.min≤x∧x≤k.max:=by simpa[Lit.wf]using h
 exact this
theorem relL_int{M:List Place}{k:IntKind}{x:Int}(h:(Lit.int k x).wf=true){l:List AV}{vs:List Value}(r:RelL M l vs):RelL M (.int k none x::l) (.int k x::vs):=
 RelL_cons.2 ⟨_,_,rfl,by
  simp only[RelX]
  exact⟨trivial,has_wf h,fun m h=>(by cases h)⟩,r⟩
end Go.AE
namespace Go.AE
open Go Go.RowKit
variable {ρ:Type}
def bldS(nt:Nat)(its:List Item)(d:D (tysI its [])):St:=(bldI its [] d (st0 nt)).1
def extS(nt:Nat)(its:List Item)(st:St):Option (D (tysI its [])):=if st.tmps.length=nt then extI st true its [] () [zoq]else none
theorem qg2{M:List Place}{st:St}{B:Base}{w0:World}{a:Go.Act}{w:World}(r:Rel M st B w0 a w){its:List Item}{nt:Nat}{d:D (tysI its [])}(h:extS nt its st=some d):∃M',Rel M' (bldS nt its d) B w0 a w:=by
 unfold extS at h
 split at h
 ·rename_i hn
  exact ext_rel r h hn
 ·cases h
def annS(nt:Nat)(ins outs:List Item)(L:D (tysI ins [])→Option (D (tysI outs []))):Ann ρ:=fun st K=>
 (extS nt ins st).bind fun d=>(L d).bind fun r=>K .normal (bldS nt outs r)
def annX(nt:Nat)(ins outX outs:List Item)(e2:Exit)(L:D (tysI ins [])→Option (D (tysI outX [])⊕D (tysI outs []))):Ann ρ:=fun st K=>
 (extS nt ins st).bind fun d=>(L d).bind fun r=>match r with
  | .inl r=>K e2 (bldS nt outX r)
  | .inr r=>K .normal (bldS nt outs r)
def kS(nt:Nat)(ins outs:List Item)(id:Nat)(L:D (tysI ins [])→Option (D (tysI outs []))):Exit→St→Option (D (tysI outs [])):=fun e st=>match e with
 | .normal=>(extS nt ins st).bind L
 | .exit j=>if j=id then extS nt outs st else none
 |_=>none
def kX(nt:Nat)(ins outX outs:List Item)(id:Nat)(e2:Exit)(L:D (tysI ins [])→Option (D (tysI outX [])⊕D (tysI outs []))):Exit→St→Option (D (tysI outX [])⊕D (tysI outs [])):=fun e st=>match e with
 | .normal=>(extS nt ins st).bind L
 | .exit j=>if j=id then(extS nt outs st).bind fun r=>some (.inr r)else(match e2 with
  | .exit i=>if j=i then(extS nt outX st).bind fun r=>some (.inl r)else none
  |_=>none)
 | .ret=>(match e2 with
  | .ret=>(extS nt outX st).bind fun r=>some (.inl r)
  |_=>none)
 |_=>none
abbrev Cals:=∀(σ:Type),Cal σ
abbrev QCals:=∀(σ:Type),QCal σ
theorem annX_ok{P:Program}(hP:q0u P){cal:Cals}(hcal:∀σ f,qex P f (cal σ f)){qcal:QCals}(hq:∀σ f,qb3 P f (qcal σ f)){nt:Nat}{ins outX outs:List Item}{e2:Exit}{id:Nat}{body:Code}
  {L:Nat→D (tysI ins [])→Option (D (tysI outX [])⊕D (tysI outs []))} {ann:Nat→Option (Ann (D (tysI outX [])⊕D (tysI outs [])))} {B:Base} {w0:World}
  (hann:∀id an c',ann id=some an→(id,c')∈q97 body→z89 P false B w0 (.block id c') an) (h0:∀d,L 0 d=none)
  (hs:∀k d,q2t P (cal _) (qcal _) ann body (bldS nt ins d) (kX nt ins outX outs id e2 (L k))=L (k+1) d) (he:e2= .ret∨∃j,e2= .exit j∧j≠id) (F:Nat):
  z89 (ρ:=ρ) P false B w0 (.block id (.loop body)) (annX nt ins outX outs e2 (L F)):=by
 intro st K r h M a w Q hr hn
 unfold annX at h
 simp only[Option.bind_eq_some_iff]at h
 obtain⟨d,hd,x,hx,hk⟩:=h
 refine wp_block ?_
 obtain⟨M1,hr1⟩:=qg2 hr hd
 refine z3k (fun n a' w' =>∃d' M',L n d' =some x∧Rel M' (bldS nt ins d') B w0 a' w') (n:=F) ⟨d,M1,hx,hr1⟩ ?_
 rintro n a1 w1 ⟨d1,M1,h1,hr1⟩
 cases n with
 |zero=>rw[h0]at h1;cases h1
 |succ n=>
  rw[←hs]at h1
  refine qcm hP (hcal _) (hq _) body hann _ _ h1 M1 a1 w1 _ hr1 fun e M' st' a' w' hE hk' hr' => ?_
  have out1:∀{r'},extS nt outs st' =some r' →x= .inr r' →Q .normal a' w' :=by
   intro r' hr2 hx2
   subst hx2
   obtain⟨M2,hr3⟩:=qg2 hr' hr2
   exact hn .normal M2 _ a' w' (fun h=>by cases h) hk hr3
  have out2:∀{r'},extS nt outX st' =some r' →x= .inl r' →Q e2 a' w' :=by
   intro r' hr2 hx2
   subst hx2
   obtain⟨M2,hr3⟩:=qg2 hr' hr2
   exact hn e2 M2 _ a' w' (fun h=>by cases h) hk hr3
  cases e with
  |normal=>
   simp only[kX,Option.bind_eq_some_iff]at hk'
   obtain⟨d2,hd2,hL⟩:=hk'
   obtain⟨M2,hr2⟩:=qg2 hr' hd2
   exact⟨n,by omega,d2,M2,hL,hr2⟩
  |exit j=>
   simp only[kX]at hk'
   unfold Exit.inBlock
   show if j=id then Q .normal a' w' else Q (.exit j) a' w'
   split at hk'
   ·rename_i hj
    rw[iP hj]
    simp only[Option.bind_eq_some_iff,yf]at hk'
    obtain⟨r',h2,h3⟩:=hk'
    exact out1 h2 h3.symm
   ·rename_i hj
    rw[iN hj]
    split at hk'
    ·split at hk'
     ·rename_i i hi
      simp only[Option.bind_eq_some_iff,yf]at hk'
      obtain⟨r',h2,h3⟩:=hk'
      subst hi
      exact out2 h2 h3.symm
     ·cases hk'
    ·cases hk'
  |ret=>
   simp only[kX]at hk'
   split at hk'
   ·simp only[Option.bind_eq_some_iff,yf]at hk'
    obtain⟨r',h2,h3⟩:=hk'
    exact out2 h2 h3.symm
   ·cases hk'
  |goto l=>simp only[kX]at hk';cases hk'
  |panic ch=>simp only[kX]at hk';cases hk'
  |outgrown=>simp only[kX]at hk';cases hk'
theorem annS_ok{P:Program}(hP:q0u P){cal:Cals}(hcal:∀σ f,qex P f (cal σ f)){qcal:QCals}(hq:∀σ f,qb3 P f (qcal σ f)){nt:Nat}{ins outs:List Item}{id:Nat}{body:Code}
  {L:Nat→D (tysI ins [])→Option (D (tysI outs []))} {ann:Nat→Option (Ann (D (tysI outs [])))} {B:Base} {w0:World}
  (hann:∀id an c',ann id=some an→(id,c')∈q97 body→z89 P false B w0 (.block id c') an) (h0:∀d,L 0 d=none)
  (hs:∀k d,q2t P (cal _) (qcal _) ann body (bldS nt ins d) (kS nt ins outs id (L k))=L (k+1) d) (F:Nat):
  z89 (ρ:=ρ) P false B w0 (.block id (.loop body)) (annS nt ins outs (L F)):=by
 intro st K r h M a w Q hr hn
 unfold annS at h
 simp only[Option.bind_eq_some_iff]at h
 obtain⟨d,hd,x,hx,hk⟩:=h
 refine wp_block ?_
 obtain⟨M1,hr1⟩:=qg2 hr hd
 refine z3k (fun n a' w' =>∃d' M',L n d' =some x∧Rel M' (bldS nt ins d') B w0 a' w') (n:=F) ⟨d,M1,hx,hr1⟩ ?_
 rintro n a1 w1 ⟨d1,M1,h1,hr1⟩
 cases n with
 |zero=>rw[h0]at h1;cases h1
 |succ n=>
  rw[←hs]at h1
  refine qcm hP (hcal _) (hq _) body hann _ _ h1 M1 a1 w1 _ hr1 fun e M' st' a' w' hE hk' hr' => ?_
  cases e with
  |normal=>
   simp only[kS,Option.bind_eq_some_iff]at hk'
   obtain⟨d2,hd2,hL⟩:=hk'
   obtain⟨M2,hr2⟩:=qg2 hr' hd2
   exact⟨n,by omega,d2,M2,hL,hr2⟩
  |exit j=>
   simp only[kS]at hk'
   show if j=id then Q .normal a' w' else Q (.exit j) a' w'
   split at hk'
   ·rename_i hj
    rw[iP hj]
    obtain⟨M2,hr3⟩:=qg2 hr' hk'
    exact hn .normal M2 _ a' w' (fun h=>by cases h) hk hr3
   ·cases hk'
  |ret=>simp only[kS]at hk';cases hk'
  |goto l=>simp only[kS]at hk';cases hk'
  |panic ch=>simp only[kS]at hk';cases hk'
  |outgrown=>simp only[kS]at hk';cases hk'
def zhy:List Item→Bool
 |[]=>true
 | .row _ _ _ own _::r=> !own&&zhy r
 | .drow _ _ own _::r=> !own&&zhy r
 | .segs _ _ own _::r=> !own&&zhy r
 |_::r=>zhy r
def zt5(P:Program)(f:FuncId)(n:Nat)(ins:List Item)(os:List Out)(F:D (tysI ins [])→Option (D (tysO os))):Prop:=
 ∀(d:D (tysI ins [])) (r:D (tysO os)),F d=some r→∀(M:List Place) (B:Base) (w:World) (vs:Array Value),RelL M (bldS n ins d).tmps vs.toList→RelH M (bldS n ins d).heap B w→
  Calls P f vs w fun e w' =>∃rs:Array Value,e= .returned (retV rs)∧Beneath B w w' ∧jbi B w' os r rs.toList
def endO(os:List Out):List AV→Heap→Option (D (tysO os)):=fun l H=>exO H (zhu H os) os l (zhu H os)
theorem jbk{P:Program}(hP:q0u P){cal:Cals}(hcal:∀σ f,qex P f (cal σ f)){qcal:QCals}(hq:∀σ f,qb3 P f (qcal σ f)){f:FuncId}{n:Nat}{ins:List Item}{os:List Out}{F:D (tysI ins [])→Option (D (tysO os))}{ann:Nat→Option (Ann (D (tysO os)))}
  (hann:∀fn c,P.funcs[f]? =some fn→fn.body=some c→∀id an c',ann id=some an→(id,c')∈q97 c→∀B w,z89 P false B w (.block id c') an)
  (h:∀d,zhs P (cal _) (qcal _) ann f (bldS n ins d).tmps (bldS n ins d).heap (endO os)=F d):zt5 P f n ins os F:=by
 intro d r hd M B w vs hl hH
 rw[←h]at hd
 refine(zbp hP (hcal _) (hq _) (x:=false) hd (fun fn c h1 h2 id an c' h3 h4=>hann fn c h1 h2 id an c' h3 h4 _ _) hl hH).mono ?_
 rintro e w' ⟨rs,l,H',M',rfl,hk,_,hl',hH',hb⟩
 exact⟨rs,rfl,hb,zhw hH' hk hl'⟩
theorem qwo{M:List Place}{ts:List AV}{a:Array Value}(h:RelT M ts a):RelL M ts a.toList:=by
 have key:∀(ts:List AV) (vs:List Value),ts.length=vs.length→(∀t,RelV M (ts.getD t .undef) (vs.getD t undef))→RelL M ts vs:=by
  intro ts
  induction ts with
  |nil=>intro vs h _;rw[RelL_nil];exact List.length_eq_zero_iff.1 h.symm
  |cons x ts ih=>
   intro vs h h2
   cases vs with
   |nil=>simp at h
   |cons v vs=>exact RelL_cons.2 ⟨v,vs,rfl,by simpa using h2 0,ih vs (by simpa using h) fun t=>by simpa using h2 (t+1)⟩
 refine key ts a.toList (by simpa using h.1) fun t=> ?_
 have:=h.2 t
 rw[show a.getD t undef=a.toList.getD t undef from by simp[ye,Array.getElem?_toList]]at this
 exact this
def extA(n:Nat)(ins:List Item)(args:List AV)(H:Heap):Option (D (tysI ins [])):=if args.length=n then extI ⟨args,H⟩ false ins [] () [zoq]else none
def Base.anyPin(B:Base):Base:=⟨B.w,B.vis,fun _ _=>True,B.f,B.ds⟩
theorem RelH.anyPin{M:List Place}{H:Heap}{B:Base}{w:World}(r:RelH M H B w):RelH M H B.anyPin w:=⟨r.len,r.base,r.obj,r.sep,fun _ _ _ _ _ _ _=>trivial,r.vis,r.fz,r.fo,r.bf⟩
theorem zhz{M:List Place}{args:List AV}{H:Heap}{B:Base}{w:World}{vs:Array Value}{n:Nat}{ins:List Item}{d:D (tysI ins [])}(hl:RelL M args vs.toList)(hH:RelH M H B w)(h:extA n ins args H=some d):
  ∃M',Told M ⟨args,H⟩ B.anyPin w vs (zoq::qkk ⟨args,H⟩ false ins) M' (bldS n ins d):=by
 unfold extA at h
 split at h
 ·rename_i hlen
  have ht:RelT M args vs:=by
   have:=qwm hl 0
   simpa using this
  have hs:n=vs.size:=by rw[←hlen];exact ht.1
  obtain⟨⟨M2,t⟩,_⟩:=q5u (st:=⟨args,H⟩) (B:=B.anyPin) ht hH.anyPin (fun _ _ _=>trivial) (told0 (B:=B.anyPin) (st:=⟨args,H⟩) (a:=vs) hH.anyPin n hs) h
  exact⟨M2,by simpa[bldS]using t⟩
 ·cases h
def z4w:Heap→Bool
 |[]=>true
 |o::r=>(match o with
  |some ob=>match ob.pin with
   |some k=>(zch r k 0).isNone
   |none=>true
  |none=>true)&&z4w r
theorem z00:∀{H:Heap} {k i:Nat},zch H k i=none→∀(j:Nat) (o:AObj),H[j]? =some (some o)→o.pin≠some k
 |[],_,_,_,j,o,h=>by simp at h
 |x::r,k,i,hn,j,o,h=>by
  unfold zch at hn
  cases j with
  |zero=>
   simp at h
   subst h
   simp only at hn
   split at hn
   ·cases hn
   ·assumption
  |succ j=>
   have h' :r[j]? =some (some o):=by simpa using h
   cases x with
   |none=>exact z00 hn j o h'
   |some ob=>
    simp only at hn
    split at hn
    ·cases hn
    ·exact z00 hn j o h'
theorem zbq:∀{H:Heap},z4w H=true→∀(i j:Nat) (oi oj:AObj) (k:Nat),H[i]? =some (some oi)→H[j]? =some (some oj)→oi.pin=some k→oj.pin=some k→i=j
 |[],_,i,j,oi,oj,k,h,_,_,_=>by simp at h
 |x::r,hn,i,j,oi,oj,k,hi,hj,h1,h2=>by
  simp only[z4w,yl]at hn
  obtain⟨hx,hr⟩:=hn
  cases i with
  |zero=>
   cases j with
   |zero=>rfl
   |succ j=>
    simp at hi
    subst hi
    simp only[h1,Option.isNone_iff_eq_none]at hx
    exact absurd h2 (z00 hx j oj (by simpa using hj))
  |succ i=>
   cases j with
   |zero=>
    simp at hj
    subst hj
    simp only[h2,Option.isNone_iff_eq_none]at hx
    exact absurd h1 (z00 hx i oi (by simpa using hi))
   |succ j=>
    have:=zbq hr i j oi oj k (by simpa using hi) (by simpa using hj) h1 h2
    omega
def findU:List (Nat×Cont)→Nat→Option Cont
 |[],_=>none
 |(j,c)::r,k=>if j=k then some c else findU r k
theorem j0p:∀{l:List (Nat×Cont)} {k:Nat} {c:Cont},findU l k=some c→(k,c)∈l
 |[],_,_,h=>by cases h
 |(j,c')::r,k,c,h=>by
  unfold findU at h
  split at h
  ·rename_i hj
   cases h
   subst hj
   simp
  ·simp[j0p h]
def updB(ups:List (Nat×Cont))(shared:Bool)(whole:Bool)(o:AObj)(b:Nat)(H:Heap):Heap:=
 match o.own with
 |true=>match whole,o.pin with
  |true,some k=>match findU ups k,H[b]? with
   |some c,some (some o')=>H.set b (some ⟨c,true,o'.pin⟩)
   |_,_=>H.set b none
  |_,_=>H.set b none
 |false=>match shared,H[b]? with
  |true,some (some o')=>H.set b (some ⟨o'.c,false,o'.pin⟩)
  |_,_=>H
def zci(ups:List (Nat×Cont))(shared:Bool):List Act→Heap→Heap→Heap
 |ac::r,some o::H1,H=>zci ups shared r H1 (match ac.id with|some b=>updB ups shared ac.whole o b H|none=>H)
 |_::r,none::H1,H=>zci ups shared r H1 H
 |_,_,H=>H
theorem updB_len(ups:List (Nat×Cont))(shared whole:Bool)(o:AObj)(b:Nat)(H:Heap):(updB ups shared whole o b H).length=H.length:=by
 unfold updB
 repeat' split
 all_goals simp
theorem zi0(ups:List (Nat×Cont))(shared:Bool):∀(acts:List Act) (H1 H:Heap),(zci ups shared acts H1 H).length=H.length
 |[],_,_=>rfl
 |_::_,[],_=>rfl
 |ac::r,some o::H1,H=>by
  rw[zci,zi0 ups shared r H1]
  split
  ·exact updB_len _ _ _ _ _ _
  ·rfl
 |_::r,none::H1,H=>by rw[zci,zi0 ups shared r H1]
def Left(ups:List (Nat×Cont))(shared:Bool)(acts:List Act)(H1:Heap)(j:Nat)(o o2:AObj):Prop:=
 o2.pin=o.pin∧((o2.c=o.c∧(o2.own=true→o.own=true)∧∀(i:Nat) (ac:Act) (o1:AObj),acts[i]? =some ac→H1[i]? =some (some o1)→ac.id=some j→o1.own=false∧(shared=true→o2.own=false))∨
  (∃(i:Nat) (ac:Act) (o1:AObj) (k:Nat),acts[i]? =some ac∧H1[i]? =some (some o1)∧ac.id=some j∧ac.whole=true∧o1.own=true∧o1.pin=some k∧(k,o2.c)∈ups))
theorem z4x{H:Heap}{b j:Nat}{x:Option AObj}{o:AObj}(h:(H.set b x)[j]? =some (some o)):(b=j∧x=some o)∨(b≠j∧H[j]? =some (some o)):=by
 rw[List.getElem?_set]at h
 split at h
 ·rename_i e
  split at h
  ·exact .inl ⟨e,by simpa using h⟩
  ·cases h
 ·rename_i e
  exact .inr ⟨e,h⟩
theorem z8f{ups:List (Nat×Cont)}{shared:Bool}:∀{acts:List Act} {H1 H:Heap} {j:Nat} {o2:AObj},(zci ups shared acts H1 H)[j]? =some (some o2)→∃o,H[j]? =some (some o)∧Left ups shared acts H1 j o o2
 |[],H1,H,j,o2,h=>⟨o2,by simpa[zci]using h,rfl,.inl ⟨rfl,fun h=>h,fun i ac o1 hi=>by simp at hi⟩⟩
 |ac::r,[],H,j,o2,h=>⟨o2,by simpa[zci]using h,rfl,.inl ⟨rfl,fun h=>h,fun i ac o1 _ hi=>by simp at hi⟩⟩
 |ac::r,none::H1,H,j,o2,h=>by
  rw[zci]at h
  obtain⟨o,h1,h2,h3⟩:=z8f h
  refine⟨o,h1,h2,?_⟩
  rcases h3 with⟨a1,a2,a3⟩|⟨i,ac',o1,k,b1,b2,b3⟩
  ·refine .inl ⟨a1,a2,fun i ac' o1 hi hi1=> ?_⟩
   cases i with
   |zero=>simp at hi1
   |succ i=>exact a3 i ac' o1 (by simpa using hi) (by simpa using hi1)
  ·exact .inr ⟨i+1,ac',o1,k,by simpa using b1,by simpa using b2,b3⟩
 |ac::r,some o1::H1,H,j,o2,h=>by
  rw[zci]at h
  obtain⟨o',h1,h2,h3⟩:=z8f h
  have step:∃o,H[j]? =some (some o)∧o'.pin=o.pin∧((o'.c=o.c∧(o'.own=true→o.own=true)∧(ac.id=some j→o1.own=false∧(shared=true→o'.own=false)))∨
    (o'.own=true∧∃k,ac.id=some j∧ac.whole=true∧o1.own=true∧o1.pin=some k∧(k,o'.c)∈ups)):=by
   cases hid:ac.id with
   |none=>
    rw[hid]at h1
    exact⟨o',h1,rfl,.inl ⟨rfl,fun h=>h,fun h=>by cases h⟩⟩
   |some b=>
    rw[hid]at h1
    simp only at h1
    have other:b≠j→H[j]? =some (some o')→∃o,H[j]? =some (some o)∧o'.pin=o.pin∧((o'.c=o.c∧(o'.own=true→o.own=true)∧(some b=some j→o1.own=false∧(shared=true→o'.own=false)))∨
      (o'.own=true∧∃k,some b=some j∧ac.whole=true∧o1.own=true∧o1.pin=some k∧(k,o'.c)∈ups)):=
     fun hne hH=>⟨o',hH,rfl,.inl ⟨rfl,fun h=>h,fun e=>absurd (Option.some.inj e) hne⟩⟩
    unfold updB at h1
    split at h1
    ·rename_i how
     split at h1
     ·rename_i k hw hp
      split at h1
      ·rename_i c ob hfu hHb
       rcases z4x h1 with⟨rfl,e⟩|⟨e,h1⟩
       ·cases e
        exact⟨ob,hHb,rfl,.inr ⟨rfl,k,rfl,hw,how,hp,j0p hfu⟩⟩
       ·exact other e h1
      ·rcases z4x h1 with⟨rfl,e⟩|⟨e,h1⟩
       ·cases e
       ·exact other e h1
     ·rcases z4x h1 with⟨rfl,e⟩|⟨e,h1⟩
      ·cases e
      ·exact other e h1
    ·rename_i how
     split at h1
     ·rename_i ob hHb
      rcases z4x h1 with⟨rfl,e⟩|⟨e,h1⟩
      ·cases e
       exact⟨ob,hHb,rfl,.inl ⟨rfl,fun h=>(by cases h),fun _=>⟨how,fun _=>rfl⟩⟩⟩
      ·exact other e h1
     ·rename_i hno
      refine⟨o',h1,rfl,.inl ⟨rfl,fun h=>h,fun e=>⟨how,fun hs=> ?_⟩⟩⟩
      cases e
      exact absurd h1 (hno o' hs)
  obtain⟨o,s1,s2,s3⟩:=step
  refine⟨o,s1,by rw[h2,s2],?_⟩
  rcases h3 with⟨a1,a2,a3⟩|⟨i,ac',o1',k,b1,b2,b3⟩
  ·rcases s3 with⟨c1,c2,c3⟩|⟨c1,k,c2,c3,c4,c5,c6⟩
   ·refine .inl ⟨by rw[a1,c1],fun h=>c2 (a2 h),fun i ac' o1' hi hi1 hid=> ?_⟩
    cases i with
    |zero=>
     simp at hi hi1
     subst hi;subst hi1
     obtain⟨d1,d2⟩:=c3 hid
     refine⟨d1,fun hs=> ?_⟩
     cases ho:o2.own with
     |false=>rfl
     |true=>rw[d2 hs]at a2;exact absurd (a2 ho) (by simp)
    |succ i=>exact a3 i ac' o1' (by simpa using hi) (by simpa using hi1) hid
   ·exact .inr ⟨0,ac,o1,k,by simp,by simp,c2,c3,c4,c5,by rw[a1];exact c6⟩
  ·exact .inr ⟨i+1,ac',o1',k,by simpa using b1,by simpa using b2,b3⟩
def qrq:List CO→Bool
 |[]=>false
 | .row _ _ own::r=> !own||qrq r
 |_::r=>qrq r
def q9d:List Out→Bool
 |[]=>false
 | .row _ _ own::r=> !own||q9d r
 | .agg cs::r=>qrq cs||q9d r
 | .psegs _ cs::r=>qrq cs||q9d r
 |_::r=>q9d r
theorem qkn:∀{cs:List CO} {acc:List Ty} {d:D (z8d cs acc)} {o:AObj},some o∈qir cs acc d→o.own=false→qrq cs=true
 |[],_,_,o,h,_=>by simp[qir]at h
 | .hole _::r,acc,d,o,h,ho=>qkn (cs:=r) (d:=d.2) h ho
 | .const _::r,acc,d,o,h,ho=>qkn (cs:=r) (d:=d) h ho
 | .row _ _ own::r,acc,d,o,h,ho=>by
  simp only[qir,yr]at h
  rcases h with h|h
  ·cases h
   simp only at ho
   simp[qrq,ho]
  ·simp[qrq,qkn (cs:=r) (d:=d.2) h ho]
theorem qkb:∀{os:List Out} {d:D (tysO os)} {o:AObj},some o∈qd4 os d→o.own=false→q9d os=true
 |[],_,o,h,_=>by simp[qd4]at h
 | .ty _::r,d,o,h,ho=>qkb (os:=r) (d:=d.2) h ho
 | .row _ _ own::r,d,o,h,ho=>by
  simp only[qd4,yr]at h
  rcases h with h|h
  ·cases h
   simp only at ho
   simp[q9d,ho]
  ·simp[q9d,qkb (os:=r) (d:=d.2) h ho]
 | .agg cs::r,d,o,h,ho=>by
  simp only[qd4,yk]at h
  rcases h with h|h
  ·simp[q9d,qkn h ho]
  ·simp[q9d,qkb h ho]
 | .prow _ _::r,d,o,h,ho=>qkb (os:=r) (d:=d.2) h ho
 | .psegs _ cs::r,d,o,h,ho=>by
  simp only[qd4,yk]at h
  rcases h with h|h
  ·simp[q9d,qkn h ho]
  ·simp[q9d,qkb h ho]
def smRun(n:Nat)(ins:List Item)(os:List Out)(F:D (tysI ins [])→Option (D (tysO os))):List AV→Heap→(AV→Heap→Option ρ)→Option ρ:=fun args H K=>
 (extA n ins args H).bind fun d=>if z4w (bldS n ins d).heap=true then
  (F d).bind fun r=>K (retA (avsO os r H.length)) (zci (upsO os r H.length) (q9d os) (zoq::qkk ⟨args,H⟩ false ins) (bldS n ins d).heap H++(qd4 os r++fzH os))
 else none
theorem blk_lt{M:List Place}{o:AObj}{pl:Place}{B:Base}{w:World}(h:qm8 M o pl B w)(hn:pl.nil=false):pl.blk<w.heap.size:=by
 rcases h with⟨n1,_⟩|⟨_,cs,el,fz,g1,_⟩
 ·rw[hn]at n1;cases n1
 ·exact(Array.getElem?_eq_some_iff.1 g1).1
theorem smRun_ok{P:Program}{f:FuncId}{n:Nat}{ins:List Item}{os:List Out}{F:D (tysI ins [])→Option (D (tysO os))}(h:zt5 P f n ins os F):qex (ρ:=ρ) P f (smRun n ins os F):=by
 intro args H K r hk M B w vs hl hH
 unfold smRun at hk
 simp only[Option.bind_eq_some_iff]at hk
 obtain⟨d,hd,hk⟩:=hk
 split at hk
 case isFalse=>cases hk
 rename_i hnd
 simp only[Option.bind_eq_some_iff]at hk
 obtain⟨x,hx,hk⟩:=hk
 obtain⟨M1,t⟩:=zhz hl hH hd
 generalize hst:bldS n ins d=st1 at*
 generalize hac:zoq::qkk ⟨args,H⟩ false ins=acts at*
 have src:∀(i:Nat) (o1:AObj) (pl:Place),st1.heap[i]? =some (some o1)→M1[i]? =some pl→pl.nil=false→
   (∃ac b o p,acts[i]? =some ac∧ac.id=some b∧H[b]? =some (some o)∧M[b]? =some p∧p.nil=false∧pl.blk=p.blk∧(o1.own=true→o.own=true)∧(ac.whole=true→pl=p))∨
   (o1.own=false∧∃ob,FzAt M pl.blk ob):=by
  intro i o1 pl h1 h2 hn
  have hi:i<acts.length:=by rw[t.len];exact(List.getElem?_eq_some_iff.1 h2).1
  obtain⟨p1,hp1,a1,a2,a3,_⟩:=t.act i acts[i] (yj hi)
  rw[h2]at hp1
  cases hp1
  cases hid:(acts[i]).id with
  |none=>
   obtain⟨q1,q2⟩:=(a2.1 hid).2 hn
   exact .inr ⟨by rw[a3 o1 h1,q1],q2⟩
  |some b=>
   obtain⟨o,p,b1,b2,b3,b4,b5,b6⟩:=a1 b hid
   exact .inl ⟨acts[i],b,o,p,yj hi,hid,b1,b2,by rw[←b3];exact hn,b4,fun ho=>b5 (by rw[←a3 o1 h1];exact ho),b6⟩
 let B1:Base:=⟨fun k=>w.heap.size≤k∨∃(i:Nat) (o1:AObj) (pl:Place),st1.heap[i]? =some (some o1)∧o1.own=true∧M1[i]? =some pl∧pl.nil=false∧pl.blk=k,
  fun k=>w.heap.size≤k∨(∃(i:Nat) (o1:AObj) (pl:Place),st1.heap[i]? =some (some o1)∧M1[i]? =some pl∧pl.nil=false∧pl.blk=k)∨∃ob,FzAt M k ob,
  fun k pl=>∃(i:Nat) (o1:AObj),st1.heap[i]? =some (some o1)∧M1[i]? =some pl∧o1.pin=some k,
  fun k=>B.f k∨∃ob,FzAt M k ob,[]⟩
 have wB:∀k,B1.w k→B.w k:=by
  rintro k (hk|⟨i,o1,pl,h1,h2,h3,h4,rfl⟩)
  ·exact(hH.base k hk).1
  ·rcases src i o1 pl h1 h3 h4 with⟨ac,b,o,p,_,_,c3,c4,c5,c6,c7,_⟩|⟨q,_⟩
   ·obtain⟨p',hp',hok⟩:=hH.obj b o c3
    rw[c4]at hp'
    cases hp'
    rcases hok with⟨n1,_⟩|⟨_,_,_,_,_,_,_,_,g5⟩
    ·rw[c5]at n1;cases n1
    ·rw[c6];exact(g5 (c7 h2)).2.2
   ·rw[q]at h2;cases h2
 have visB:∀k,B1.vis k→B.vis k:=by
  rintro k (hk|⟨i,o1,pl,h1,h3,h4,rfl⟩|⟨ob,hk⟩)
  ·exact(hH.base k hk).2
  ·rcases src i o1 pl h1 h3 h4 with⟨ac,b,o,p,_,_,c3,c4,c5,c6,_⟩|⟨_,ob,q⟩
   ·rw[c6];exact hH.vis b o p c3 c4 c5
   ·exact(hH.fz _ _ q).2.1
  ·exact(hH.fz _ _ hk).2.1
 have notF:∀(i:Nat) (o1:AObj) (pl:Place),st1.heap[i]? =some (some o1)→M1[i]? =some pl→o1.own=true→pl.nil=false→¬B1.f pl.blk:=by
  intro i o1 pl h1 h3 h2 h4
  rcases src i o1 pl h1 h3 h4 with⟨ac,b,o,p,_,_,c3,c4,c5,c6,c7,_⟩|⟨q,_⟩
  ·obtain⟨f1,f2⟩:=hH.fo b o p c3 c4 (c7 h2) c5
   rw[c6]
   rintro(h|⟨ob,h⟩)
   ·exact f1 h
   ·exact f2 ob h
  ·rw[q]at h2;cases h2
 have hH1:RelH M1 st1.heap B1 w:=by
  refine⟨t.heap.len,fun k hk=>⟨.inl hk,.inl hk⟩,fun i o1 ho1=> ?_,t.heap.sep,fun i o1 pl k h1 h2 h3=>⟨i,o1,h1,h2,h3⟩,fun i o1 pl h1 h2 h3=> .inr (.inl ⟨i,o1,pl,h1,h2,h3,rfl⟩),
   fun k ob h=>⟨(t.heap.fz k ob h).1,.inr (.inr ⟨ob,t.zf k ob h⟩),.inr (.inr ⟨ob,t.zf k ob h⟩)⟩,fun i o1 pl h1 h2 h3 h4=>⟨notF i o1 pl h1 h2 h3 h4,(t.heap.fo i o1 pl h1 h2 h3 h4).2⟩,fun k hk h=>h.elim (hH.bf k hk) fun⟨ob,h⟩=>absurd (hH.fz_lt h) (by omega)⟩
  obtain⟨pl,hpl,hok⟩:=t.heap.obj i o1 ho1
  refine⟨pl,hpl,?_⟩
  rcases hok with hok|⟨n1,cs,el,fz,g1,g2,g3,g4,g5⟩
  ·exact .inl hok
  ·exact .inr ⟨n1,cs,el,fz,g1,g2,g3,g4,fun ho=>⟨(g5 ho).1,(g5 ho).2.1,.inr ⟨i,o1,pl,ho1,ho,hpl,n1,rfl⟩⟩⟩
 refine(h d x hx M1 B1 w vs (by rw[hst];exact qwo t.tmps) (by rw[hst];exact hH1)).mono ?_
 rintro e w' ⟨rs,rfl,hb,N,Fz,hN,hFl,hN0,hF1,hF2,hav,hups⟩
 have hlen:=hH.len
 have hEx:Ext M (M++(N++Fz)):=Ext.snoc M _
 have hE0:Ext [] (M++(N++Fz)):=fun b pl e=>(by simp at e)
 have hbB:Beneath B w w' :=⟨hb.os,hb.tape,hb.output,hb.size,fun k hk hw=>hb.block k hk fun h1=>hw (wB k h1)⟩
 refine⟨_,_,_,M++(N++Fz),rfl,hk,hEx,?_,hbB,zuh (by rw[hlen];exact hav M)⟩
 have hlpost:=zi0 (upsO os x H.length) (q9d os) acts st1.heap H
 generalize hH2:zci (upsO os x H.length) (q9d os) acts st1.heap H=H2 at*
 have part:∀(i:Nat) (o:AObj) (pl:Place),(H2++(qd4 os x++fzH os))[i]? =some (some o)→(M++(N++Fz))[i]? =some pl→
   (i<M.length∧M[i]? =some pl∧∃o0,H[i]? =some (some o0)∧Left (upsO os x H.length) (q9d os) acts st1.heap i o0 o)∨(∃j,i=M.length+j∧(qd4 os x)[j]? =some (some o)∧N[j]? =some pl):=by
  intro i o pl h1 h2
  by_cases hi:i<M.length
  ·rw[yg (by omega)]at h1
   rw[yg hi]at h2
   rw[←hH2]at h1
   exact .inl ⟨hi,h2,z8f h1⟩
  ·rw[yz (by omega)]at h1 h2
   rw[hlpost,hlen]at h1
   by_cases hi2:i-M.length<N.length
   ·rw[yg (by rw[←hN.len];exact hi2)]at h1
    rw[yg hi2]at h2
    exact .inr ⟨i-M.length,by omega,h1,h2⟩
   ·rw[yz (by rw[←hN.len];omega)]at h1
    exfalso
    have:=List.mem_of_getElem? h1
    unfold fzH at this
    split at this<;>simp at this
 have upd:∀(j:Nat) (o0 o:AObj) (pl:Place),H[j]? =some (some o0)→M[j]? =some pl→
   (∃(i:Nat) (ac:Act) (o1:AObj) (k:Nat),acts[i]? =some ac∧st1.heap[i]? =some (some o1)∧ac.id=some j∧ac.whole=true∧o1.own=true∧o1.pin=some k∧(k,o.c)∈upsO os x H.length)→
   o0.own=true∧qm8 (M++(N++Fz)) ⟨o.c,true,none⟩ pl B1 w' ∧(∀(i:Nat) (pi:Place),N[i]? =some pi→pi.nil=false→pl.nil=false→pi.blk≠pl.blk)∧(pl.nil=false→∀ob,¬FzAt Fz pl.blk ob):=by
  rintro j o0 o pl h1 h2 ⟨i,ac,o1,k,a1,a2,a3,a4,a5,a6,a7⟩
  obtain⟨p1,hp1,c1,_,c3,_⟩:=t.act i ac a1
  obtain⟨o',p,d1,d2,_,_,d5,d6⟩:=c1 j a3
  have d1' :H[j]? =some (some o'):=d1
  rw[h1]at d1'
  cases d1'
  rw[h2]at d2
  cases d2
  have hpp:=d6 a4
  subst hpp
  rw[hlen]at a7
  obtain⟨pl',⟨i',o1',e1,e2,e3⟩,f2,f3,f4⟩:=hups M k o.c a7
  have:=zbq hnd i i' o1 o1' k a2 e1 a6 e3
  subst this
  rw[hp1]at e2
  cases e2
  exact⟨d5 (by rw[←c3 o1 a2];exact a5),f2,f3,f4⟩
 have newB:∀(j:Nat) (o:AObj) (pl:Place),(qd4 os x)[j]? =some (some o)→N[j]? =some pl→pl.nil=false→B1.vis pl.blk∧(o.own=true→B1.w pl.blk):=by
  intro j o pl h1 h2 hn
  obtain⟨_,_,p,hp,hok,hv⟩:=hN.obj j o h1
  rw[h2]at hp
  cases hp
  refine⟨hv hn,fun ho=> ?_⟩
  rcases hok with⟨n1,_⟩|⟨_,_,_,_,_,_,_,_,g5⟩
  ·rw[hn]at n1;cases n1
  ·exact(g5 ho).2.2
 have cross:∀(i j:Nat) (oi oj o0:AObj) (pi pj:Place),M[i]? =some pi→H[i]? =some (some o0)→Left (upsO os x H.length) (q9d os) acts st1.heap i o0 oi→(qd4 os x)[j]? =some (some oj)→N[j]? =some pj→
   (oi.own=true∨oj.own=true)→pi.nil=false→pj.nil=false→pi.blk≠pj.blk:=by
  intro i j oi oj o0 pi pj h1 h2 h3 h4 h5 ho hni hnj
  obtain⟨v1,v2⟩:=newB j oj pj h4 h5 hnj
  obtain⟨p',hp',hok⟩:=hH.obj i o0 h2
  rw[h1]at hp'
  cases hp'
  have hlt:=blk_lt hok hni
  rcases h3 with⟨_,⟨c1,c2,c3⟩|hu⟩
  ·cases hoj:oj.own with
   |true=>
    rcases v2 hoj with hk|⟨i1,o1,pl,e1,e2,e3,e4,e5⟩
    ·omega
    ·obtain⟨ac,b,ob,p,a1,a2,a3,a4,a5,a6,a7,_⟩:=(src i1 o1 pl e1 e3 e4).resolve_right (fun q=>by rw[q.1]at e2;cases e2)
     have hbi:b≠i:=by
      rintro rfl
      have:=(c3 i1 ac o1 a1 e1 a2).1
      rw[e2]at this
      cases this
     rw[←e5,a6]
     exact fun e=>hH.sep b i ob o0 p pi a3 h2 a4 h1 hbi (a7 e2) a5 hni e.symm
   |false=>
    have hoi:oi.own=true:=by
     rcases ho with ho|ho
     ·exact ho
     ·rw[hoj]at ho;cases ho
    have hsh:q9d os=true:=qkb (List.mem_of_getElem? h4) hoj
    have still:∀ob,FzAt M pj.blk ob→pi.blk≠pj.blk:=fun ob hz e=>(hH.fo i o0 pi h2 h1 (c2 hoi) hni).2 ob (by rw[e];exact hz)
    rcases v1 with hk|⟨i1,o1,pl,e1,e3,e4,e5⟩|⟨ob,hz⟩
    ·omega
    ·rcases src i1 o1 pl e1 e3 e4 with⟨ac,b,ob,p,a1,a2,a3,a4,a5,a6,_⟩|⟨_,ob,hz⟩
     ·have hbi:i≠b:=by
       rintro rfl
       have:=(c3 i1 ac o1 a1 e1 a2).2 hsh
       rw[hoi]at this
       cases this
      rw[←e5,a6]
      exact hH.sep i b o0 ob pi p h2 a3 h1 a4 hbi (c2 hoi) hni a5
     ·exact still ob (by rw[←e5];exact hz)
    ·exact still ob hz
  ·obtain⟨_,_,u3,_⟩:=upd i o0 oi pi h2 h1 hu
   exact fun e=>u3 j pj h5 hnj hni e.symm
 have frozen:∀k ob,FzAt (M++(N++Fz)) k ob→FzAt M k ob∨FzAt Fz k ob:=fun k ob h=>(h.append).imp id fun h=>(h.append).resolve_left (hN0 k ob)
 have b1f:∀k,B1.w k∨B1.f k→B.w k∨B.f k:=by
  rintro k (h|h|⟨ob,h⟩)
  ·exact .inl (wB k h)
  ·exact .inr h
  ·exact(hH.fz k ob h).2.2
 refine⟨by simp[hlpost,hN.len,hlen,hFl],fun k hk=>hH.base k (Nat.le_trans hb.size hk),fun i o ho=> ?_,fun i j oi oj pi pj hi hj hpi hpj hne how hni hnj=> ?_,fun i o pl k ho hp hk' => ?_,fun i o pl ho hp hn=> ?_,fun k ob hk=> ?_,fun i o pl ho hp how hn=> ?_,fun k hk=>hH.bf k (Nat.le_trans hb.size hk)⟩
 ·have hi:i<(M++(N++Fz)).length:=by
   have:=(List.getElem?_eq_some_iff.1 ho).1
   rw[yo,yo,hlpost,hlen,←hN.len,←hFl]at this
   rw[yo,yo]
   exact this
  refine⟨(M++(N++Fz))[i],yj hi,?_⟩
  generalize hpl:(M++(N++Fz))[i]=pl
  have hp:(M++(N++Fz))[i]? =some pl:=by rw[yj hi,hpl]
  rcases part i o pl ho hp with⟨_,h2,o0,h3,h4⟩|⟨j,rfl,h2,h3⟩
  ·obtain⟨p',hp',hok⟩:=hH.obj i o0 h3
   rw[h2]at hp'
   cases hp'
   rcases h4 with⟨_,⟨c1,c2,c3⟩|hu⟩
   ·rcases hok with⟨n1,n2,n3⟩|⟨n1,cs,el,fz,g1,g2,g3,g4,g5⟩
    ·exact .inl ⟨n1,n2,by rw[c1];exact n3.mono hEx⟩
    ·refine .inr ⟨n1,cs,el,fz,?_,g2,g3,by rw[c1];exact g4.mono hEx,fun h=>g5 (c2 h)⟩
     rw[hb.block _ ((Array.getElem?_eq_some_iff.1 g1).1)]
     ·exact g1
     ·rintro(hk|⟨i1,o1,pl1,e1,e2,e3,e4,e5⟩)
      ·have:=(Array.getElem?_eq_some_iff.1 g1).1
       omega
      ·obtain⟨ac,b,ob,p,a1,a2,a3,a4,a5,a6,a7,_⟩:=(src i1 o1 pl1 e1 e3 e4).resolve_right (fun q=>by rw[q.1]at e2;cases e2)
       have hbi:b≠i:=by
        rintro rfl
        have:=(c3 i1 ac o1 a1 e1 a2).1
        rw[e2]at this
        cases this
       exact hH.sep b i ob o0 p pl a3 h3 a4 h2 hbi (a7 e2) a5 n1 (by rw[←a6];exact e5)
   ·obtain⟨u1,u2,_⟩:=upd i o0 o pl h3 h2 hu
    rcases hok with⟨n1,n2,n3⟩|⟨n1,cs,el,fz,g1,g2,g3,g4,g5⟩
    ·rcases u2 with⟨m1,m2,m3⟩|⟨m1,_⟩
     ·exact .inl ⟨m1,m2,m3⟩
     ·rw[n1]at m1;cases m1
    ·rcases u2 with⟨m1,_⟩|⟨m1,cs',el',fz',f1,f2,f3,f4,f5⟩
     ·rw[n1]at m1;cases m1
     ·exact .inr ⟨m1,cs',el',fz',f1,f2,f3,f4,fun _=>⟨(f5 rfl).1,(f5 rfl).2.1,(g5 u1).2.2⟩⟩
  ·obtain⟨_,_,p,hp',hok,hv⟩:=hN.obj j o h2
   rw[h3]at hp'
   cases hp'
   rcases hok with⟨n1,n2,n3⟩|⟨n1,cs,el,fz,g1,g2,g3,g4,g5⟩
   ·exact .inl ⟨n1,n2,n3.mono hE0⟩
   ·exact .inr ⟨n1,cs,el,fz,g1,g2,g3,g4.mono hE0,fun h=>⟨(g5 h).1,(g5 h).2.1,wB _ (g5 h).2.2⟩⟩
 ·rcases part i oi pi hi hpi with⟨_,h2,o0,h3,h4⟩|⟨j1,rfl,h2,h3⟩<;>rcases part j oj pj hj hpj with⟨_,k2,o0',k3,k4⟩|⟨j2,rfl,k2,k3⟩
  ·have ho:o0.own=true:=by
    rcases h4 with⟨_,⟨c1,c2,c3⟩|hu⟩
    ·exact c2 how
    ·exact(upd i o0 oi pi h3 h2 hu).1
   exact hH.sep i j o0 o0' pi pj h3 k3 h2 k2 hne ho hni hnj
  ·exact cross i j2 oi oj o0 pi pj h2 h3 h4 k2 k3 (.inl how) hni hnj
  ·exact fun e=>cross j j1 oj oi o0' pj pi k2 k3 k4 h2 h3 (.inr how) hnj hni e.symm
  ·exact hN.sep j1 j2 oi oj pi pj h2 k2 h3 k3 (fun e=>hne (by rw[e])) how hni hnj
 ·rcases part i o pl ho hp with⟨_,h2,o0,h3,h4⟩|⟨j,rfl,h2,h3⟩
  ·exact hH.pin i o0 pl k h3 h2 (by rw[←h4.1];exact hk')
  ·rw[(hN.obj j o h2).1]at hk';cases hk'
 ·rcases part i o pl ho hp with⟨_,h2,o0,h3,h4⟩|⟨j,rfl,h2,h3⟩
  ·exact hH.vis i o0 pl h3 h2 hn
  ·exact visB _ (newB j o pl h2 h3 hn).1
 ·rcases frozen k ob hk with h|h
  ·obtain⟨z1,z2,z3⟩:=hH.fz k ob h
   refine⟨?_,z2,z3⟩
   rw[hb.block k (hH.fz_lt h)]
   ·exact z1
   ·rintro(hk|⟨i1,o1,pl1,e1,e2,e3,e4,e5⟩)
    ·have:=hH.fz_lt h
     omega
    ·exact notF i1 o1 pl1 e1 e3 e2 e4 (.inr ⟨ob,by rw[e5];exact h⟩)
  ·obtain⟨z1,z2,z3⟩:=hF1 k ob h
   exact⟨z1,visB k z2,b1f k z3⟩
 ·rcases part i o pl ho hp with⟨_,h2,o0,h3,h4⟩|⟨j,rfl,h2,h3⟩
  ·have how0:o0.own=true:=by
    rcases h4 with⟨_,⟨c1,c2,c3⟩|hu⟩
    ·exact c2 how
    ·exact(upd i o0 o pl h3 h2 hu).1
   obtain⟨f1,f2⟩:=hH.fo i o0 pl h3 h2 how0 hn
   refine⟨f1,fun ob h=> ?_⟩
   rcases frozen _ ob h with h|h
   ·exact f2 ob h
   ·rcases h4 with⟨_,⟨c1,c2,c3⟩|hu⟩
    ·obtain⟨p',hp',hok⟩:=hH.obj i o0 h3
     rw[h2]at hp'
     cases hp'
     have hlt:=blk_lt hok hn
     rcases(hF1 _ ob h).2.2 with(hk|⟨i1,o1,pl1,e1,e2,e3,e4,e5⟩)|(hk|⟨ob',hk⟩)
     ·omega
     ·obtain⟨ac,b,ob2,p,a1,a2,a3,a4,a5,a6,a7,_⟩:=(src i1 o1 pl1 e1 e3 e4).resolve_right (fun q=>by rw[q.1]at e2;cases e2)
      have hbi:b≠i:=by
       rintro rfl
       have:=(c3 i1 ac o1 a1 e1 a2).1
       rw[e2]at this
       cases this
      exact hH.sep b i ob2 o0 p pl a3 h3 a4 h2 hbi (a7 e2) a5 hn (by rw[←a6];exact e5)
     ·exact f1 hk
     ·exact f2 ob' hk
    ·exact(upd i o0 o pl h3 h2 hu).2.2.2 hn ob h
  ·obtain⟨g1,g2⟩:=hF2 j pl o h3 h2 how hn
   refine⟨fun h=>g1 (.inl h),fun ob h=> ?_⟩
   rcases frozen _ ob h with h|h
   ·exact g1 (.inr ⟨ob,h⟩)
   ·exact g2 ob h
def zi1:List Out→Bool
 |[]=>true
 | .ty (.row _)::_=>false
 | .ty t::r=> !t.deep&&zi1 r
 |_=>false
def j0q:(cs:List CTy)→DC cs→List Value
 |[],_=>[]
 | .int k::r,d=> .int k d.1::j0q r d.2
 | .bool::r,d=> .bool d.1::j0q r d.2
 | .is k _::r,d=>List.map (Value.int k) d.1++j0q r d.2
 | .str::r,d=> .string (mkS d.1)::j0q r d.2
 | .fsl _ _::r,d=>j0q r d.2
 | .dsl _::r,d=>j0q r d.2
theorem z4y{M:List Place}:∀{cs:List CTy} {d:DC cs} {a:List Value},qwj cs=false→RelC M (mkCs cs d) a→a=j0q cs d
 |[],d,a,_,h=>RelC_nil.1 h
 | .int k::r,d,a,hd,h=>by
  obtain⟨b,t,rfl,hx,hr⟩:=RelC_cons.1 h
  have h2:qwj r=false:=hd
  rw[z4y (cs:=r) h2 hr,(RelX_int.1 hx).1]
  rfl
 | .bool::r,d,a,hd,h=>by
  obtain⟨b,t,rfl,hx,hr⟩:=RelC_cons.1 h
  have h2:qwj r=false:=hd
  simp only[mk1,RelX]at hx
  rw[z4y (cs:=r) h2 hr,hx.1]
  rfl
 | .is k n::r,d,a,hd,h=>by
  obtain⟨b,t,rfl,hx,hr⟩:=RelC_cons.1 h
  have h2:qwj r=false:=hd
  rw[z4y (cs:=r) h2 hr,(RelX_is.1 hx).2.1]
  rfl
 | .str::r,d,a,hd,h=>by
  obtain⟨b,t,rfl,hx,hr⟩:=RelC_cons.1 h
  have h2:qwj r=false:=hd
  simp only[mk1,RelX]at hx
  rw[z4y (cs:=r) h2 hr,hx.1]
  rfl
 | .fsl _ _::r,d,a,hd,h=>by simp[qwj]at hd
 | .dsl _::r,d,a,hd,h=>by simp[qwj]at hd
def valT:(t:Ty)→t.den→Value
 | .int k,x=> .int k x
 | .bool,x=> .bool x
 | .is k _,l=> .agg (List.map (Value.int k) l).toArray
 | .row _,_=>undef
 | .agg cs,d=> .agg (j0q cs d).toArray
 | .str,l=> .string (mkS l)
 | .fsl _ _,_=>undef
 | .dsl _,_=>undef
 | .drow _,_=>undef
 | .mapc _,_=>undef
def valO:(os:List Out)→D (tysO os)→List Value
 |[],_=>[]
 | .ty t::r,d=>valT t d.1::valO r d.2
 | .row _ _ _::r,d=>valO r d.2
 | .agg cs::r,d=>valO r (qth cs (tysO r) d)
 | .prow _ _::r,d=>valO r d.2
 | .psegs _ cs::r,d=>valO r (qth cs (tysO r) d)
theorem valT_eq{M:List Place}{t:Ty}{x:t.den}{v:Value}(ht:∀k,t≠ .row k)(hd:t.deep=false)(h:RelV M (mkT t x) v):v=valT t x:=by
 cases t with
 |int k=>exact(q32 h).1
 |bool=>exact(q25 h).1
 |is k n=>
  obtain⟨vs,e,hc⟩:=RelX_agg.1 h
  have e:v= .agg vs:=by simpa using e
  subst e
  have:=(RelX_is.1 (RelC_single.1 hc)).2.1
  simp only[valT]
  congr 1
  apply Array.toList_inj.1
  simpa using this
 |row k=>exact absurd rfl (ht k)
 |agg cs=>
  obtain⟨vs,e,hc⟩:=RelX_agg.1 h
  have e:v= .agg vs:=by simpa using e
  subst e
  have:=z4y hd hc
  simp only[valT]
  congr 1
  apply Array.toList_inj.1
  simpa using this
 |str=>
  simp only[mkT,RelV,RelX]at h
  simpa[valT]using h.1
 |fsl k sz=>cases hd
 |dsl e=>cases hd
 |drow e=>cases hd
 |mapc i=>cases hd
theorem mkCs_any{M M' :List Place}{cs:List CTy}{d:DC cs}{a:List Value}(hd:qwj cs=false)(h:RelC M (mkCs cs d) a):RelC M' (mkCs cs d) a:=by
 induction cs generalizing a with
 |nil=>exact RelC_nil.2 (RelC_nil.1 h)
 |cons t r ih=>
  obtain⟨b,t',rfl,hx,hr⟩:=RelC_cons.1 h
  have h2:qwj r=false:=by cases t<;>first|exact hd|cases hd
  refine RelC_cons.2 ⟨b,t',rfl,?_,ih h2 hr⟩
  cases t with
  |fsl k sz=>cases hd
  |dsl e=>cases hd
  |_=>simpa only[mk1,RelX]using hx
theorem mkT_any{M M' :List Place}{t:Ty}{x:t.den}{v:Value}(hd:t.deep=false)(h:RelV M (mkT t x) v):RelV M' (mkT t x) v:=by
 cases t with
 |int k=>exact RelX_int.2 (RelX_int.1 h)
 |bool=>simpa only[mkT,RelV,RelX]using h
 |is k n=>
  obtain⟨vs,e,hc⟩:=RelX_agg.1 h
  exact RelX_agg.2 ⟨vs,e,RelC_single.2 (RelX_is.2 (RelX_is.1 (RelC_single.1 hc)))⟩
 |row k=>exact q43 _ _
 |agg cs=>
  obtain⟨vs,e,hc⟩:=RelX_agg.1 h
  exact RelX_agg.2 ⟨vs,e,mkCs_any hd hc⟩
 |str=>simpa only[mkT,RelV,RelX]using h
 |fsl k sz=>cases hd
 |dsl e=>cases hd
 |drow e=>exact q43 _ _
 |mapc i=>cases hd
theorem jbl:∀{os:List Out} {d:D (tysO os)} {M:List Place} {b:Nat} {vs:List Value},zi1 os=true→RelL M (avsO os d b) vs→vs=valO os d∧RelL [] (avsO os d 0) vs
 |[],d,M,b,vs,_,h=>by
  simp only[avsO,RelL_nil]at h
  subst h
  exact⟨rfl,RelL_nil.2 rfl⟩
 | .ty t::r,d,M,b,vs,ha,h=>by
  obtain⟨v,vs',rfl,hv,hr⟩:=RelL_cons.1 h
  have ha' :zi1 r=true∧(∀k,t≠ .row k)∧t.deep=false:=by
   cases t<;>simp only[zi1,yl,Bool.not_eq_true',reduceCtorEq]at ha<;>exact⟨ha.2,fun k h=>(by cases h),ha.1⟩
  obtain⟨e,hl⟩:=jbl ha'.1 hr
  have hv2:=valT_eq ha'.2.1 ha'.2.2 hv
  refine⟨by rw[e,hv2];rfl,RelL_cons.2 ⟨v,vs',rfl,?_,hl⟩⟩
  exact mkT_any ha'.2.2 hv
 | .row k sz _::r,d,M,b,vs,ha,h=>by simp[zi1]at ha
 | .agg cs::r,d,M,b,vs,ha,h=>by simp[zi1]at ha
 | .prow _ _::r,d,M,b,vs,ha,h=>by simp[zi1]at ha
 | .psegs _ _::r,d,M,b,vs,ha,h=>by simp[zi1]at ha
def jbm(n:Nat)(ins:List Item)(os:List Out)(F:D (tysI ins [])→Option (D (tysO os))):List AV→Heap→(AV→Option ρ)→Option ρ:=fun args H K=>
 (extA n ins args H).bind fun d=>(F d).bind fun r=>K (retA (avsO os r 0))
theorem j9a:∀{its:List Item} {acc:List Ty} {d:D (tysI its acc)} {st:St},zhy its=true→(∀(i:Nat) o,st.heap[i]? =some (some o)→o.own=false)→∀(i:Nat) o,(bldI its acc d st).1.heap[i]? =some (some o)→o.own=false:=by
 intro its
 induction its with
 |nil=>intro acc d st _ h;exact h
 |cons it its ih=>
  intro acc d st hn h
  have snoc:∀(x:Option AObj),(∀o,x=some o→o.own=false)→∀(i:Nat) o,(st.heap++[x])[i]? =some (some o)→o.own=false:=by
   intro x hx i o hi
   rw[List.getElem?_append]at hi
   split at hi
   ·exact h i o hi
   ·rcases Nat.eq_zero_or_pos (i-st.heap.length)with h0|h0
    ·rw[h0]at hi
     simp at hi
     exact hx o hi
    ·rw[w9 (by simp;omega)]at hi;cases hi
  cases it with
  |row k sz src own pin=>
   simp only[zhy,yl,Bool.not_eq_true']at hn
   exact ih hn.2 (snoc _ (by rintro o ⟨⟩;exact hn.1))
  |segs cs src own pin=>
   simp only[zhy,yl,Bool.not_eq_true']at hn
   exact ih hn.2 (snoc _ (by rintro o ⟨⟩;exact hn.1))
  |drow e src own pin=>
   simp only[zhy,yl,Bool.not_eq_true']at hn
   exact ih hn.2 (snoc _ (by rintro o ⟨⟩;exact hn.1))
  |drop=>exact ih hn (snoc _ (by rintro o ⟨⟩))
  |slot t ty=>exact ih hn h
  |const t a=>exact ih hn h
  |sl t b sz c=>exact ih hn h
  |ptr t b w=>exact ih hn h
  |fn t f cs=>exact ih hn h
  |cells t cs=>exact ih hn h
def Base.fresh(n:Nat):Base:=⟨fun k=>n≤k,fun _=>True,fun _ _=>True,fun k=>k<n,[]⟩
theorem Beneath.below' {w w' :World}(h:Beneath (Base.fresh w.heap.size) w w'):Below w.heap.size w w' :=⟨h.os,h.tape,h.output,h.size,fun k hk=>h.block k hk (fun h2=>Nat.lt_irrefl _ (Nat.lt_of_lt_of_le hk h2))⟩
theorem jbn{P:Program}{f:FuncId}{n:Nat}{ins:List Item}{os:List Out}{F:D (tysI ins [])→Option (D (tysO os))}(h:zt5 P f n ins os F)(hn:zhy ins=true)(ha:zi1 os=true):qb3 (ρ:=ρ) P f (jbm n ins os F):=by
 intro args H K r hk M B w vs hl hH
 unfold jbm at hk
 simp only[Option.bind_eq_some_iff]at hk
 obtain⟨d,hd,x,hx,hk⟩:=hk
 have hrun:∀w',Below w.heap.size w w' →Calls P f vs w' fun e w'' =>∃rs:Array Value,e= .returned (retV rs)∧rs=(valO os x).toArray∧RelL [] (avsO os x 0) (valO os x)∧Below w'.heap.size w' w'' :=by
  intro w' hb
  obtain⟨M1,t⟩:=zhz hl (hH.below hb) hd
  have hno:=j9a (acc:=[]) (d:=d) (st:=st0 n) hn (fun i o hi=>by cases i<;>simp[st0]at hi)
  have hH1:RelH M1 (bldS n ins d).heap (Base.fresh w'.heap.size) w' :=by
   refine⟨t.heap.len,fun k hk=>⟨hk,trivial⟩,fun i o ho=> ?_,t.heap.sep,fun _ _ _ _ _ _ _=>trivial,fun _ _ _ _ _ _=>trivial,fun k ob h=>⟨(t.heap.fz k ob h).1,trivial,.inr (t.heap.fz_lt h)⟩,fun i o pl ho hp how hn=>(by rw[hno i o ho]at how;cases how),fun k hk h=>absurd hk (Nat.not_le_of_lt h)⟩
   obtain⟨pl,hp,hok⟩:=t.heap.obj i o ho
   refine⟨pl,hp,?_⟩
   rcases hok with hok|⟨hn,cs,el,fz,h1,h2,h3,h4,h5⟩
   ·exact .inl hok
   ·exact .inr ⟨hn,cs,el,fz,h1,h2,h3,h4,fun ho2=>by rw[hno i o ho]at ho2;cases ho2⟩
  refine(h d x hx M1 (Base.fresh w'.heap.size) w' vs (qwo t.tmps) hH1).mono ?_
  rintro e w'' ⟨rs,rfl,hb',N,Fz,_,_,_,_,_,hav,_⟩
  obtain⟨e1,e2⟩:=jbl (b:=0) ha (by simpa using hav [])
  refine⟨rs,rfl,?_,by rw[←e1];exact e2,hb'.below'⟩
  apply Array.toList_inj.1
  simpa using e1
 obtain⟨e,w',fr,⟨rs,_,_,hro,_⟩,_⟩:=hrun w (Below.refl _ _) []
 refine⟨retV (valO os x).toArray,_,hk,RelX.mono (fun b pl e=>(by simp at e)) _ _ (zuh (M:=[]) (by simpa using hro)),fun w' hb=>(hrun w' hb).mono ?_⟩
 rintro e w'' ⟨rs,rfl,rfl,_,hb'⟩
 exact⟨rfl,hb'⟩
end Go.AE
namespace Go.AE
open Go Go.RowKit
structure ToldF where
 f:FuncId
 n:Nat
 ins:List Item
 os:List Out
 F:D (tysI ins [])→Option (D (tysO os))
def ToldF.ok(P:Program)(t:ToldF):Prop:=zt5 P t.f t.n t.ins t.os t.F
def jbo:List ToldF→FuncId→Bool
 |[],_=>false
 |t::r,f=>if t.f=f then true else jbo r f
def jbp{ρ:Type}:List ToldF→FuncId→List AV→Heap→(AV→Heap→Option ρ)→Option ρ
 |[],_,_,_,_=>none
 |t::r,f,args,H,K=>if t.f=f then
   match extA t.n t.ins args H with
   |some _=>smRun t.n t.ins t.os t.F args H K
   |none=>jbp r f args H K
  else jbp r f args H K
def j7d:List ToldF→FuncId→Bool
 |[],_=>false
 |t::r,f=>if t.f=f∧zi1 t.os=true∧zhy t.ins=true then true else j7d r f
def j0r{ρ:Type}:List ToldF→FuncId→List AV→Heap→(AV→Option ρ)→Option ρ
 |[],_,_,_,_=>none
 |t::r,f,args,H,K=>if t.f=f∧zi1 t.os=true∧zhy t.ins=true then
   match extA t.n t.ins args H with
   |some _=>jbm t.n t.ins t.os t.F args H K
   |none=>j0r r f args H K
  else j0r r f args H K
def jbq(l:List ToldF)(ρ:Type):Env ρ:=
 ⟨fun f=>if jbo l f=true then some (jbp l f)else none,fun f=>if j7d l f=true then some (j0r l f)else none⟩
def q01(P:Program):List ToldF→Prop
 |[]=>True
 |t::r=>t.ok P∧q01 P r
theorem zui{P:Program}{ρ:Type}:∀{l:List ToldF},q01 P l→∀f,qex (ρ:=ρ) P f (jbp l f)
 |[],_,f=>fun args H K r h=>by cases h
 |t::l,hl,f=>by
  intro args H K r h
  unfold jbp at h
  split at h
  ·rename_i hf
   subst hf
   split at h
   ·exact smRun_ok hl.1 args H K r h
   ·exact zui hl.2 t.f args H K r h
  ·exact zui hl.2 f args H K r h
theorem zi2{P:Program}{ρ:Type}:∀{l:List ToldF},q01 P l→∀f,qb3 (ρ:=ρ) P f (j0r l f)
 |[],_,f=>fun args H K r h=>by cases h
 |t::l,hl,f=>by
  intro args H K r h
  unfold j0r at h
  split at h
  ·rename_i hf
   obtain⟨rfl,ha,hn⟩:=hf
   split at h
   ·exact jbn hl.1 hn ha args H K r h
   ·exact zi2 hl.2 t.f args H K r h
  ·exact zi2 hl.2 f args H K r h
theorem j7e{P:Program}{l:List ToldF}(h:q01 P l)(ρ:Type):EnvOk P (jbq l ρ):=by
 refine⟨fun f s hs=> ?_,fun f s hs=> ?_⟩
 ·simp only[jbq]at hs
  split at hs
  ·cases hs;exact zui h f
  ·cases hs
 ·simp only[jbq]at hs
  split at hs
  ·cases hs;exact zi2 h f
  ·cases hs
abbrev calT(P:Program)(l:List ToldF):Cals:=fun σ=>evFn P (jbq l σ) 40
abbrev qcalT(l:List ToldF):QCals:=fun σ=>qof (jbq l σ)
theorem zi3{P:Program}(hP:q0u P){l:List ToldF}(h:q01 P l)(σ:Type)(f:FuncId):qex P f (calT P l σ f):=zht hP (j7e h σ) 40 f
theorem z4z{P:Program}{l:List ToldF}(h:q01 P l)(σ:Type)(f:FuncId):qb3 P f (qcalT l σ f):=j7c (j7e h σ) f
def z3p{ρ:Type}:List (Nat×Ann ρ)→Nat→Option (Ann ρ)
 |[],_=>none
 |(i,a)::r,id=>if id=i then some a else z3p r id
def qbb{ρ:Type}(P:Program)(c:Code)(l:List (Nat×Ann ρ)):Prop:=
 ∀(B:Base) (w:World) (id:Nat) (an:Ann ρ) (c' :Code),z3p l id=some an→(id,c')∈q97 c→z89 P false B w (.block id c') an
theorem j9b{ρ:Type}(P:Program)(c:Code):qbb (ρ:=ρ) P c []:=fun _ _ _ _ _ h=>by cases h
def qmf(c:Code)(id:Nat):List Code:=((q97 c).filter fun p=>p.1==id).map (·.2)
theorem zi4{ρ:Type}{P:Program}{c body:Code}{id:Nat}{an:Ann ρ}{l:List (Nat×Ann ρ)}(hb:qmf c id=[.loop body])
  (h:∀B w,z89 P false B w (.block id (.loop body)) an) (hl:qbb P c l):qbb P c ((id,an)::l):=by
 intro B w id' an' c' ha hc
 unfold z3p at ha
 split at ha
 ·rename_i hid
  subst hid
  cases ha
  have:c' ∈qmf c id' :=by
   unfold qmf
   rw[List.mem_map]
   exact⟨(id',c'),by simp[hc],rfl⟩
  rw[hb,List.mem_singleton]at this
  subst this
  exact h B w
 ·exact hl B w id' an' c' ha hc
def qmg(c:Code)(id:Nat):Code:=match qmf c id with
 |[.loop b]=>b
 |_=> .skip
def q85(fn:Func):Code:=match fn.body with
 |some c=>c
 |none=> .skip
theorem toldF_ok{P:Program}(hP:q0u P){l:List ToldF}(hl:q01 P l){fn:Func}{t:ToldF}{anns:List (Nat×Ann (D (tysO t.os)))}(hf:P.funcs[t.f]? =some fn)(ha:qbb P (q85 fn) anns)
  (h:∀d,zhs P (calT P l _) (qcalT l _) (z3p anns) t.f (bldS t.n t.ins d).tmps (bldS t.n t.ins d).heap (endO t.os)=t.F d):t.ok P:=by
 refine jbk hP (zi3 hP hl) (z4z hl) (ann:=z3p anns) (fun fn' c h1 h2 id an c' h3 h4 B w=> ?_) h
 rw[hf]at h1
 cases h1
 unfold q85 at ha
 rw[h2]at ha
 exact ha B w id an c' h3 h4
theorem toldS_ok{P:Program}(hP:q0u P){l:List ToldF}(hl:q01 P l){nt:Nat}{ins outs:List Item}{id:Nat}{body:Code}
  {L:Nat→D (tysI ins [])→Option (D (tysI outs []))} {anns:List (Nat×Ann (D (tysI outs [])))} (ha:qbb P body anns) (h0:∀d,L 0 d=none)
  (hs:∀k d,q2t P (calT P l _) (qcalT l _) (z3p anns) body (bldS nt ins d) (kS nt ins outs id (L k))=L (k+1) d) (F:Nat) {ρ:Type} (B:Base) (w:World):
  z89 (ρ:=ρ) P false B w (.block id (.loop body)) (annS nt ins outs (L F)):=
 annS_ok hP (zi3 hP hl) (z4z hl) (ann:=z3p anns) (fun id an c' h1 h2=>ha B w id an c' h1 h2) h0 hs F
theorem toldX_ok{P:Program}(hP:q0u P){l:List ToldF}(hl:q01 P l){nt:Nat}{ins outX outs:List Item}{e2:Exit}{id:Nat}{body:Code}
  {L:Nat→D (tysI ins [])→Option (D (tysI outX [])⊕D (tysI outs []))} {anns:List (Nat×Ann (D (tysI outX [])⊕D (tysI outs [])))} (ha:qbb P body anns) (h0:∀d,L 0 d=none)
  (hs:∀k d,q2t P (calT P l _) (qcalT l _) (z3p anns) body (bldS nt ins d) (kX nt ins outX outs id e2 (L k))=L (k+1) d) (he:e2= .ret∨∃j,e2= .exit j∧j≠id) (F:Nat) {ρ:Type} (B:Base) (w:World):
  z89 (ρ:=ρ) P false B w (.block id (.loop body)) (annX nt ins outX outs e2 (L F)):=
 annX_ok hP (zi3 hP hl) (z4z hl) (ann:=z3p anns) (fun id an c' h1 h2=>ha B w id an c' h1 h2) h0 hs he F
@[reducible] def u0 {R U:Type} (f:R) (_:U):R:=f
@[reducible] def u1 {R U A0:Type} (f:A0→R) (d:A0×U):R:=u0 (f d.1) d.2
@[reducible] def u2 {R U A0 A1:Type} (f:A0→A1→R) (d:A0×A1×U):R:=u1 (f d.1) d.2
@[reducible] def u3 {R U A0 A1 A2:Type} (f:A0→A1→A2→R) (d:A0×A1×A2×U):R:=u2 (f d.1) d.2
@[reducible] def u4 {R U A0 A1 A2 A3:Type} (f:A0→A1→A2→A3→R) (d:A0×A1×A2×A3×U):R:=u3 (f d.1) d.2
@[reducible] def u5 {R U A0 A1 A2 A3 A4:Type} (f:A0→A1→A2→A3→A4→R) (d:A0×A1×A2×A3×A4×U):R:=u4 (f d.1) d.2
@[reducible] def u6 {R U A0 A1 A2 A3 A4 A5:Type} (f:A0→A1→A2→A3→A4→A5→R) (d:A0×A1×A2×A3×A4×A5×U):R:=u5 (f d.1) d.2
@[reducible] def u7 {R U A0 A1 A2 A3 A4 A5 A6:Type} (f:A0→A1→A2→A3→A4→A5→A6→R) (d:A0×A1×A2×A3×A4×A5×A6×U):R:=u6 (f d.1) d.2
@[reducible] def u8 {R U A0 A1 A2 A3 A4 A5 A6 A7:Type} (f:A0→A1→A2→A3→A4→A5→A6→A7→R) (d:A0×A1×A2×A3×A4×A5×A6×A7×U):R:=u7 (f d.1) d.2
@[reducible] def u9 {R U A0 A1 A2 A3 A4 A5 A6 A7 A8:Type} (f:A0→A1→A2→A3→A4→A5→A6→A7→A8→R) (d:A0×A1×A2×A3×A4×A5×A6×A7×A8×U):R:=u8 (f d.1) d.2
@[reducible] def u10 {R U A0 A1 A2 A3 A4 A5 A6 A7 A8 A9:Type} (f:A0→A1→A2→A3→A4→A5→A6→A7→A8→A9→R) (d:A0×A1×A2×A3×A4×A5×A6×A7×A8×A9×U):R:=u9 (f d.1) d.2
@[reducible] def u11 {R U A0 A1 A2 A3 A4 A5 A6 A7 A8 A9 A10:Type} (f:A0→A1→A2→A3→A4→A5→A6→A7→A8→A9→A10→R) (d:A0×A1×A2×A3×A4×A5×A6×A7×A8×A9×A10×U):R:=u10 (f d.1) d.2
@[reducible] def u12 {R U A0 A1 A2 A3 A4 A5 A6 A7 A8 A9 A10 A11:Type} (f:A0→A1→A2→A3→A4→A5→A6→A7→A8→A9→A10→A11→R) (d:A0×A1×A2×A3×A4×A5×A6×A7×A8×A9×A10×A11×U):R:=u11 (f d.1) d.2
@[reducible] def u13 {R U A0 A1 A2 A3 A4 A5 A6 A7 A8 A9 A10 A11 A12:Type} (f:A0→A1→A2→A3→A4→A5→A6→A7→A8→A9→A10→A11→A12→R) (d:A0×A1×A2×A3×A4×A5×A6×A7×A8×A9×A10×A11×A12×U):R:=u12 (f d.1) d.2
@[reducible] def u14 {R U A0 A1 A2 A3 A4 A5 A6 A7 A8 A9 A10 A11 A12 A13:Type} (f:A0→A1→A2→A3→A4→A5→A6→A7→A8→A9→A10→A11→A12→A13→R) (d:A0×A1×A2×A3×A4×A5×A6×A7×A8×A9×A10×A11×A12×A13×U):R:=u13 (f d.1) d.2
@[reducible] def u15 {R U A0 A1 A2 A3 A4 A5 A6 A7 A8 A9 A10 A11 A12 A13 A14:Type} (f:A0→A1→A2→A3→A4→A5→A6→A7→A8→A9→A10→A11→A12→A13→A14→R) (d:A0×A1×A2×A3×A4×A5×A6×A7×A8×A9×A10×A11×A12×A13×A14×U):R:=u14 (f d.1) d.2
@[reducible] def u16 {R U A0 A1 A2 A3 A4 A5 A6 A7 A8 A9 A10 A11 A12 A13 A14 A15:Type} (f:A0→A1→A2→A3→A4→A5→A6→A7→A8→A9→A10→A11→A12→A13→A14→A15→R) (d:A0×A1×A2×A3×A4×A5×A6×A7×A8×A9×A10×A11×A12×A13×A14×A15×U):R:=u15 (f d.1) d.2
@[reducible] def u17 {R U A0 A1 A2 A3 A4 A5 A6 A7 A8 A9 A10 A11 A12 A13 A14 A15 A16:Type} (f:A0→A1→A2→A3→A4→A5→A6→A7→A8→A9→A10→A11→A12→A13→A14→A15→A16→R) (d:A0×A1×A2×A3×A4×A5×A6×A7×A8×A9×A10×A11×A12×A13×A14×A15×A16×U):R:=u16 (f d.1) d.2
@[reducible] def u18 {R U A0 A1 A2 A3 A4 A5 A6 A7 A8 A9 A10 A11 A12 A13 A14 A15 A16 A17:Type} (f:A0→A1→A2→A3→A4→A5→A6→A7→A8→A9→A10→A11→A12→A13→A14→A15→A16→A17→R) (d:A0×A1×A2×A3×A4×A5×A6×A7×A8×A9×A10×A11×A12×A13×A14×A15×A16×A17×U):R:=u17 (f d.1) d.2
@[reducible] def u19 {R U A0 A1 A2 A3 A4 A5 A6 A7 A8 A9 A10 A11 A12 A13 A14 A15 A16 A17 A18:Type} (f:A0→A1→A2→A3→A4→A5→A6→A7→A8→A9→A10→A11→A12→A13→A14→A15→A16→A17→A18→R) (d:A0×A1×A2×A3×A4×A5×A6×A7×A8×A9×A10×A11×A12×A13×A14×A15×A16×A17×A18×U):R:=u18 (f d.1) d.2
@[reducible] def u20 {R U A0 A1 A2 A3 A4 A5 A6 A7 A8 A9 A10 A11 A12 A13 A14 A15 A16 A17 A18 A19:Type} (f:A0→A1→A2→A3→A4→A5→A6→A7→A8→A9→A10→A11→A12→A13→A14→A15→A16→A17→A18→A19→R) (d:A0×A1×A2×A3×A4×A5×A6×A7×A8×A9×A10×A11×A12×A13×A14×A15×A16×A17×A18×A19×U):R:=u19 (f d.1) d.2
@[reducible] def u21 {R U A0 A1 A2 A3 A4 A5 A6 A7 A8 A9 A10 A11 A12 A13 A14 A15 A16 A17 A18 A19 A20:Type} (f:A0→A1→A2→A3→A4→A5→A6→A7→A8→A9→A10→A11→A12→A13→A14→A15→A16→A17→A18→A19→A20→R) (d:A0×A1×A2×A3×A4×A5×A6×A7×A8×A9×A10×A11×A12×A13×A14×A15×A16×A17×A18×A19×A20×U):R:=u20 (f d.1) d.2
@[reducible] def u22 {R U A0 A1 A2 A3 A4 A5 A6 A7 A8 A9 A10 A11 A12 A13 A14 A15 A16 A17 A18 A19 A20 A21:Type} (f:A0→A1→A2→A3→A4→A5→A6→A7→A8→A9→A10→A11→A12→A13→A14→A15→A16→A17→A18→A19→A20→A21→R) (d:A0×A1×A2×A3×A4×A5×A6×A7×A8×A9×A10×A11×A12×A13×A14×A15×A16×A17×A18×A19×A20×A21×U):R:=u21 (f d.1) d.2
@[reducible] def u23 {R U A0 A1 A2 A3 A4 A5 A6 A7 A8 A9 A10 A11 A12 A13 A14 A15 A16 A17 A18 A19 A20 A21 A22:Type} (f:A0→A1→A2→A3→A4→A5→A6→A7→A8→A9→A10→A11→A12→A13→A14→A15→A16→A17→A18→A19→A20→A21→A22→R) (d:A0×A1×A2×A3×A4×A5×A6×A7×A8×A9×A10×A11×A12×A13×A14×A15×A16×A17×A18×A19×A20×A21×A22×U):R:=u22 (f d.1) d.2
@[reducible] def u24 {R U A0 A1 A2 A3 A4 A5 A6 A7 A8 A9 A10 A11 A12 A13 A14 A15 A16 A17 A18 A19 A20 A21 A22 A23:Type} (f:A0→A1→A2→A3→A4→A5→A6→A7→A8→A9→A10→A11→A12→A13→A14→A15→A16→A17→A18→A19→A20→A21→A22→A23→R) (d:A0×A1×A2×A3×A4×A5×A6×A7×A8×A9×A10×A11×A12×A13×A14×A15×A16×A17×A18×A19×A20×A21×A22×A23×U):R:=u23 (f d.1) d.2
@[reducible] def u25 {R U A0 A1 A2 A3 A4 A5 A6 A7 A8 A9 A10 A11 A12 A13 A14 A15 A16 A17 A18 A19 A20 A21 A22 A23 A24:Type} (f:A0→A1→A2→A3→A4→A5→A6→A7→A8→A9→A10→A11→A12→A13→A14→A15→A16→A17→A18→A19→A20→A21→A22→A23→A24→R) (d:A0×A1×A2×A3×A4×A5×A6×A7×A8×A9×A10×A11×A12×A13×A14×A15×A16×A17×A18×A19×A20×A21×A22×A23×A24×U):R:=u24 (f d.1) d.2
@[reducible] def u26 {R U A0 A1 A2 A3 A4 A5 A6 A7 A8 A9 A10 A11 A12 A13 A14 A15 A16 A17 A18 A19 A20 A21 A22 A23 A24 A25:Type} (f:A0→A1→A2→A3→A4→A5→A6→A7→A8→A9→A10→A11→A12→A13→A14→A15→A16→A17→A18→A19→A20→A21→A22→A23→A24→A25→R) (d:A0×A1×A2×A3×A4×A5×A6×A7×A8×A9×A10×A11×A12×A13×A14×A15×A16×A17×A18×A19×A20×A21×A22×A23×A24×A25×U):R:=u25 (f d.1) d.2
@[reducible] def u27 {R U A0 A1 A2 A3 A4 A5 A6 A7 A8 A9 A10 A11 A12 A13 A14 A15 A16 A17 A18 A19 A20 A21 A22 A23 A24 A25 A26:Type} (f:A0→A1→A2→A3→A4→A5→A6→A7→A8→A9→A10→A11→A12→A13→A14→A15→A16→A17→A18→A19→A20→A21→A22→A23→A24→A25→A26→R) (d:A0×A1×A2×A3×A4×A5×A6×A7×A8×A9×A10×A11×A12×A13×A14×A15×A16×A17×A18×A19×A20×A21×A22×A23×A24×A25×A26×U):R:=u26 (f d.1) d.2
@[reducible] def u28 {R U A0 A1 A2 A3 A4 A5 A6 A7 A8 A9 A10 A11 A12 A13 A14 A15 A16 A17 A18 A19 A20 A21 A22 A23 A24 A25 A26 A27:Type} (f:A0→A1→A2→A3→A4→A5→A6→A7→A8→A9→A10→A11→A12→A13→A14→A15→A16→A17→A18→A19→A20→A21→A22→A23→A24→A25→A26→A27→R) (d:A0×A1×A2×A3×A4×A5×A6×A7×A8×A9×A10×A11×A12×A13×A14×A15×A16×A17×A18×A19×A20×A21×A22×A23×A24×A25×A26×A27×U):R:=u27 (f d.1) d.2
@[reducible] def u29 {R U A0 A1 A2 A3 A4 A5 A6 A7 A8 A9 A10 A11 A12 A13 A14 A15 A16 A17 A18 A19 A20 A21 A22 A23 A24 A25 A26 A27 A28:Type} (f:A0→A1→A2→A3→A4→A5→A6→A7→A8→A9→A10→A11→A12→A13→A14→A15→A16→A17→A18→A19→A20→A21→A22→A23→A24→A25→A26→A27→A28→R) (d:A0×A1×A2×A3×A4×A5×A6×A7×A8×A9×A10×A11×A12×A13×A14×A15×A16×A17×A18×A19×A20×A21×A22×A23×A24×A25×A26×A27×A28×U):R:=u28 (f d.1) d.2
@[reducible] def u30 {R U A0 A1 A2 A3 A4 A5 A6 A7 A8 A9 A10 A11 A12 A13 A14 A15 A16 A17 A18 A19 A20 A21 A22 A23 A24 A25 A26 A27 A28 A29:Type} (f:A0→A1→A2→A3→A4→A5→A6→A7→A8→A9→A10→A11→A12→A13→A14→A15→A16→A17→A18→A19→A20→A21→A22→A23→A24→A25→A26→A27→A28→A29→R) (d:A0×A1×A2×A3×A4×A5×A6×A7×A8×A9×A10×A11×A12×A13×A14×A15×A16×A17×A18×A19×A20×A21×A22×A23×A24×A25×A26×A27×A28×A29×U):R:=u29 (f d.1) d.2
@[reducible] def u31 {R U A0 A1 A2 A3 A4 A5 A6 A7 A8 A9 A10 A11 A12 A13 A14 A15 A16 A17 A18 A19 A20 A21 A22 A23 A24 A25 A26 A27 A28 A29 A30:Type} (f:A0→A1→A2→A3→A4→A5→A6→A7→A8→A9→A10→A11→A12→A13→A14→A15→A16→A17→A18→A19→A20→A21→A22→A23→A24→A25→A26→A27→A28→A29→A30→R) (d:A0×A1×A2×A3×A4×A5×A6×A7×A8×A9×A10×A11×A12×A13×A14×A15×A16×A17×A18×A19×A20×A21×A22×A23×A24×A25×A26×A27×A28×A29×A30×U):R:=u30 (f d.1) d.2
@[reducible] def u32 {R U A0 A1 A2 A3 A4 A5 A6 A7 A8 A9 A10 A11 A12 A13 A14 A15 A16 A17 A18 A19 A20 A21 A22 A23 A24 A25 A26 A27 A28 A29 A30 A31:Type} (f:A0→A1→A2→A3→A4→A5→A6→A7→A8→A9→A10→A11→A12→A13→A14→A15→A16→A17→A18→A19→A20→A21→A22→A23→A24→A25→A26→A27→A28→A29→A30→A31→R) (d:A0×A1×A2×A3×A4×A5×A6×A7×A8×A9×A10×A11×A12×A13×A14×A15×A16×A17×A18×A19×A20×A21×A22×A23×A24×A25×A26×A27×A28×A29×A30×A31×U):R:=u31 (f d.1) d.2
structure TL where
 nt:Nat
 ins:List Item
 outs:List Item
 id:Nat
 L:Nat→D (tysI ins [])→Option (D (tysI outs []))
 S:Nat→D (tysI ins [])→Option (D (tysI outs []))
def TL.ann(t:TL)(F:Nat){ρ:Type}:Ann ρ:=annS t.nt t.ins t.outs (t.L F)
def TL.ok(P:Program)(fn:Func)(t:TL)(F:Nat):Prop:=∀{ρ:Type} (B:Base) (w:World),z89 (ρ:=ρ) P false B w (.block t.id (.loop (qmg (q85 fn) t.id))) (t.ann F)
structure TX where
 nt:Nat
 ins:List Item
 outX:List Item
 outs:List Item
 e2:Exit
 id:Nat
 L:Nat→D (tysI ins [])→Option (D (tysI outX [])⊕D (tysI outs []))
 S:Nat→D (tysI ins [])→Option (D (tysI outX [])⊕D (tysI outs []))
def TX.ann(t:TX)(F:Nat){ρ:Type}:Ann ρ:=annX t.nt t.ins t.outX t.outs t.e2 (t.L F)
def TX.ok(P:Program)(fn:Func)(t:TX)(F:Nat):Prop:=∀{ρ:Type} (B:Base) (w:World),z89 (ρ:=ρ) P false B w (.block t.id (.loop (qmg (q85 fn) t.id))) (t.ann F)
theorem aN{ρ:Type}{P:Program}{c:Code}:qbb (ρ:=ρ) P c []:=j9b P c
theorem aL{ρ:Type}{P:Program}{fn:Func}{c:Code}{t:TL}{F:Nat}{l:List (Nat×Ann ρ)}(hb:qmf c t.id=[.loop (qmg (q85 fn) t.id)])(h:t.ok P fn F)(hl:qbb P c l):qbb P c ((t.id,t.ann F)::l):=
 zi4 hb (fun B w=>h B w) hl
theorem aX{ρ:Type}{P:Program}{fn:Func}{c:Code}{t:TX}{F:Nat}{l:List (Nat×Ann ρ)}(hb:qmf c t.id=[.loop (qmg (q85 fn) t.id)])(h:t.ok P fn F)(hl:qbb P c l):qbb P c ((t.id,t.ann F)::l):=
 zi4 hb (fun B w=>h B w) hl
theorem okF{P:Program}(hP:q0u P){l:List ToldF}(hl:q01 P l){fn:Func}{t:ToldF}(anns:List (Nat×Ann (D (tysO t.os))))(hf:P.funcs[t.f]? =some fn)(ha:qbb P (q85 fn) anns)
  (h:∀d,zhs P (calT P l _) (qcalT l _) (z3p anns) t.f (bldS t.n t.ins d).tmps (bldS t.n t.ins d).heap (endO t.os)=t.F d):t.ok P:=
 toldF_ok hP hl hf ha h
theorem okL{P:Program}(hP:q0u P){l:List ToldF}(hl:q01 P l){fn:Func}{t:TL}{F:Nat}(anns:List (Nat×Ann (D (tysI t.outs []))))(ha:qbb P (qmg (q85 fn) t.id) anns)
  (h0:∀d,t.L 0 d=none) (h1:∀k d,t.S k d=t.L (k+1) d)
  (hs:∀k d,q2t P (calT P l _) (qcalT l _) (z3p anns) (qmg (q85 fn) t.id) (bldS t.nt t.ins d) (kS t.nt t.ins t.outs t.id (t.L k))=t.S k d):t.ok P fn F:=by
 intro ρ B w
 exact toldS_ok hP hl ha h0 (fun k d=>(hs k d).trans (h1 k d)) F B w
theorem okX{P:Program}(hP:q0u P){l:List ToldF}(hl:q01 P l){fn:Func}{t:TX}{F:Nat}(anns:List (Nat×Ann (D (tysI t.outX [])⊕D (tysI t.outs []))))(ha:qbb P (qmg (q85 fn) t.id) anns)
  (h0:∀d,t.L 0 d=none) (h1:∀k d,t.S k d=t.L (k+1) d) (he:t.e2= .ret∨∃j,t.e2= .exit j∧j≠t.id)
  (hs:∀k d,q2t P (calT P l _) (qcalT l _) (z3p anns) (qmg (q85 fn) t.id) (bldS t.nt t.ins d) (kX t.nt t.ins t.outX t.outs t.id t.e2 (t.L k))=t.S k d):t.ok P fn F:=by
 intro ρ B w
 exact toldX_ok hP hl ha h0 (fun k d=>(hs k d).trans (h1 k d)) he F B w
theorem eR{e:Exit}{id:Nat}(h:e= .ret):e= .ret∨∃j,e= .exit j∧j≠id:= .inl h
theorem eX{e:Exit}{id:Nat}(j:Nat)(h:e= .exit j)(hj:decide (j=id)=false):e= .ret∨∃j,e= .exit j∧j≠id:= .inr ⟨j,h,of_decide_eq_false hj⟩
end Go.AE
namespace Go.AE
open Go Go.RowKit
theorem law_told{P:Program}{t:ToldF}(h:t.ok P)(ho:t.os=[.ty .bool]){d:D (tysI t.ins [])}(hd:t.F d=some (ho▸(true,()))){M:List Place}{w:World}{vs:Array Value}
  (hl:RelL M (bldS t.n t.ins d).tmps vs.toList) (hH:RelH M (bldS t.n t.ins d).heap (Base.at w.heap.size) w):Calls P t.f vs w fun e w' =>e= .returned (.bool true)∧Below w.heap.size w w' :=by
 obtain⟨f,n,ins,os,F⟩:=t
 dsimp only at ho hd hl hH
 subst ho
 refine(h d _ hd M _ w vs hl hH).mono ?_
 rintro e w' ⟨rs,rfl,hb,N,Fz,_,_,_,_,_,hav,_⟩
 have hr:=hav []
 obtain⟨v,vs',hv,hx,hn⟩:=RelL_cons.1 hr
 have hn:vs' =[]:=by simpa[avsO,RelL_nil]using hn
 subst hn
 refine⟨?_,hb.below⟩
 have e1:=(q25 (x:=true) (l:=none) hx).1
 have h1:rs= #[.bool true]:=by
  apply Array.toList_inj.1
  rw[hv,e1]
 subst h1
 rfl
end Go.AE
namespace Go.AE
open Go Go.RowKit
theorem zuj{P:Program}{ρ:Operand→Value}{o:Oper}{t t' :TypeId}{e:TypeId}{x:Operand}(ho:o.op= .binOp .eql t x (.const (.slice none 0 0)) t'){A:Option Addr}{len cap:Nat}(hx:ρ x= .slice A len cap)(hy:ρ (.const (.slice none 0 0))= .slice none 0 0)(hu:P.underlying t=some (.slice e))(w:World):
  (execOp ρ o).run P w= .ok (.value (.bool A.isNone)) w:=by
 have h:(Op.equalIn Op.maxDepth t (.slice A len cap) (.slice none 0 0)).run P w= .ok A.isNone w:=by
  rw[show Op.maxDepth=(Op.maxDepth-1)+1 from rfl]
  simp only[Op.equalIn,Sem.run_bind,run_underlying hu,Result.andThen_ok]
  cases A<;>rfl
 simp[execOp,ho,hx,hy,eqGuard,binOp,Op.equal,h]
theorem wp_to{P:Program}(hP:q0u P){cal:Cal St}(hcal:∀f,qex P f (cal f)){qcal:QCal St}(hq:∀f,qb3 P f (qcal f)){c:Code}{st st' :St}(h:q2t P cal qcal (fun _=>none) c st (fun e s=>match e with| .normal=>some s|_=>none)=some st')
  {M:List Place} {B:Base} {w0:World} {a:Go.Act} {w:World} (hr:Rel M st B w0 a w) {Q:Exit→Go.Act→World→Prop} (hn:∀M' a' w',Rel M' st' B w0 a' w' →Q .normal a' w'):c.wp P Q a w:=by
 refine qcm hP hcal hq c (fun _ _ _ h=>by cases h) st _ h M a w Q hr fun e M' s a' w' (_:ExtO true M M') hk hr' => ?_
 cases e<;>simp only[reduceCtorEq]at hk
 cases hk
 exact hn M' a' w' hr'
def zi5(sz:Nat)(l:LI):Option (LI×Unit):=
 cond (decide (0+div1 l.length sz≤1099511627776)&&(if false=true then decide (0<div1 l.length sz)else true)) (some (l,())) none
abbrev k0:Exit→St→Option St:=fun e s=>match e with| .normal=>some s|_=>none
theorem j9c{P:Program}(hP:q0u P){f:FuncId}{fn:Func}(hf:P.funcs[f]? =some fn){k:IntKind}{sz:Nat}{R0 X REST:Code}{i1:Nat}{o3 o4:Oper}{t t' e:TypeId}
  (hb:fn.body=some (.seq R0 (.seq (.seq (.region i1 #[o3,o4] false) (.cond (.tmp 4) X .skip)) REST)))
  (ho4:o4.op= .binOp .eql t (.tmp 3) (.const (.slice none 0 0)) t') (hd4:o4.dst=some 4) (hg4:o4.guard=none) (hg3:o3.guard=none) (hu:P.underlying t=some (.slice e))
  (st1 st2:LI→St)
  (h0:∀l,q2t P (evFn P (qg1 St) 1) (qof (qg1 St)) (fun _=>none) R0 ⟨[.sl 1 0 (div1 (ya (α:=Int) l) sz) sz .whole]++yx (fn.ntmps-1) .undef,[none,some ⟨.row k l,false,none⟩]⟩ k0=some (st1 l))
  (h3:∀l,zbi P (evFn P (qg1 St) 1) o3 (st1 l) some=some (st2 l))
  (hs3:∀l,(st2 l).tmps.getD 3 .undef= .sl 1 0 (div1 (ya (α:=Int) l) sz) sz .whole∧(st2 l).heap=[none,some ⟨.row k l,false,none⟩])
  (hlen:∀l,4<(st2 l).tmps.length)
  (hX:∀l,q2t P (evFn P (qg1 (D (tysO [.row k sz]))) 1) (qof (qg1 _)) (fun _=>none) X ((st2 l).put (some 4) (.bool (some true) true)) (fun e st=>match e with
   | .ret=>(match qwl P st fn.results.toList with|some l=>endO [.row k sz] l st.heap|none=>none)|_=>none)=some ([],()))
  (hR:∀l,q2t P (evFn P (qg1 (D (tysO [.row k sz]))) 1) (qof (qg1 _)) (fun _=>none) REST ((st2 l).put (some 4) (.bool (some false) false)) (fun e st=>match e with
   | .ret=>(match qwl P st fn.results.toList with|some l=>endO [.row k sz] l st.heap|none=>none)|_=>none)=zi5 sz l):
  zt5 P f 1 [.row k sz (.slot 0) false] [.row k sz] (fun d=>zi5 sz d.1):=by
 rintro⟨l,⟨⟩⟩ r hF M B w vs hl hH
 have hF:zi5 sz l=some r:=hF
 have hl:RelL M [.sl 1 0 (div1 l.length sz) sz .whole] vs.toList:=hl
 have hH:RelH M [none,some ⟨.row k l,false,none⟩] B w:=hH
 have hs:=qp5 hl
 simp at hs
 refine calls_of_wp hf hb ?_
 have e0:=zhx P St
 have e1:=zhx P (D (tysO [Out.row k sz]))
 have hr0:Rel M ⟨[.sl 1 0 (div1 l.length sz) sz .whole]++yx (fn.ntmps-1) .undef,[none,some ⟨.row k l,false,none⟩]⟩ B.clean w {tmps:=vs++Array.replicate (fn.ntmps-vs.size) undef,defers:=[]} w:=
  ⟨by rw[←hs];exact qwm hl _,rfl,hH.clean,Beneath.refl _ _⟩
 refine wp_seq (wp_to hP (zht hP e0 1) (j7c e0) (h0 l) hr0 fun M1 a1 w1 hr1=> ?_)
 refine wp_seq (wp_seq (wp_region_list ?_))
 show wpList P #[o3,o4] _ [o3,o4] a1 w1
 unfold wpList
 rw[iP (by simp[Region.wanted,hg3])]
 refine .inl (qwf hP (zht hP e0 1) (h3 l) hr1 fun M2 st a2 w2 hE hk hr2=> ?_)
 cases hk
 unfold wpList
 rw[iP (by simp[Region.wanted,hg4])]
 refine .inl ?_
 obtain⟨hs1,hs2⟩:=hs3 l
 have hv3:=hr2.tmps.2 3
 rw[hs1]at hv3
 have hv3' :=hv3
 simp only[RelV,RelX]at hv3
 obtain⟨pl,A,cap,hpl,hv,hn,hcap,hnil,hnn,_⟩:=hv3
 have hv:a2.tmps.getD 3 undef= .slice A (div1 l.length sz) cap:=by simpa using hv
 have hrun:=zuj (ρ:=a2.eval) ho4 (by simpa[Go.Act.eval]using hv) (by simp[Go.Act.eval]) hu w2
 unfold Oper.wp
 rw[hrun,Oper.upon_value,hd4]
 unfold wpList
 have hrb:∀b,A.isNone=b→Rel M2 ((st2 l).put (some 4) (.bool (some b) b)) B.clean w (a2.put (some 4) (.bool A.isNone)) w2:=by
  intro b hb
  rw[hb]
  exact hr2.put (by simp[RelV,RelX]) (some 4)
 have fin:∀{c:Code} {b:Bool} {Q:Exit→Go.Act→World→Prop},A.isNone=b→q2t P (evFn P (qg1 (D (tysO [.row k sz]))) 1) (qof (qg1 _)) (fun _=>none) c ((st2 l).put (some 4) (.bool (some b) b)) (fun e st=>match e with
   | .ret=>(match qwl P st fn.results.toList with|some l=>endO [.row k sz] l st.heap|none=>none)|_=>none)=some r→
   (∀a' w',(a'.defers=[]∧∃v,(results fn a'.tmps).run P w' = .ok v w' ∧∃rs:Array Value,Ending.returned v= .returned (retV rs)∧Beneath B w w' ∧jbi B w' [.row k sz] r rs.toList)→Q .ret a' w')→
   c.wp P Q (a2.put (some 4) (.bool A.isNone)) w2:=by
  intro c b Q hb hev hQ
  refine qcm hP (zht hP e1 1) (j7c e1) c (fun _ _ _ h=>by cases h) _ _ hev M2 _ w2 _ (hrb b hb) fun e M3 st3 a3 w3 (_:ExtO true M2 M3) hk hr3=> ?_
  cases e<;>simp only[reduceCtorEq]at hk
  split at hk
  ·rename_i l3 hres
   obtain⟨rs,g1,g2⟩:=qkl hr3.tmps hr3.heap hres
   exact hQ _ _ ⟨hr3.defers,_,g2,rs,rfl,hr3.below.unclean,zhw hr3.heap.unclean hk g1⟩
  ·cases hk
 have ev4:(a2.put (some 4) (.bool A.isNone)).eval (.tmp 4)= .bool A.isNone:=by
  have h4:4<a2.tmps.size:=by rw[←hr2.tmps.1];exact hlen l
  simp[Go.Act.eval,Go.Act.put,h4]
 cases hA:A.isNone with
 |true=>
  rw[hA]at ev4 fin
  refine wp_cond_true ev4 (fin rfl ?_ fun a' w' h=>h)
  have hpn:pl.nil=true:=by
   cases hp:pl.nil with
   |true=>rfl
   |false=>exact absurd (Option.isNone_iff_eq_none.1 hA) (hnn hp).1
  have hl0:l=[]:=by
   obtain⟨p0,hp0,hok⟩:=hr2.heap.obj 1 ⟨.row k l,false,none⟩ (by rw[hs2];rfl)
   rw[hpl]at hp0
   cases hp0
   rcases hok with⟨_,hn0,hro⟩|⟨h,_⟩
   ·simp only[RelO]at hro
    have:=congrArg ya hro.1
    exact List.length_eq_zero_iff.1 (by simpa using this.symm)
   ·rw[hpn]at h;cases h
  subst hl0
  have:r=([],()):=by simpa[zi5,j4s]using hF.symm
  subst this
  exact hX []
 |false=>
  rw[hA]at ev4 fin
  refine wp_cond_false ev4 (wp_skip ?_)
  show Code.wp P REST _ _ _
  refine fin rfl ?_ fun a' w' h=>h
  rw[hR]
  exact hF
def cloneR0(c:Code):Code:=match c with| .seq a _=>a|_=> .skip
def cloneX(c:Code):Code:=match c with| .seq _ (.seq (.seq _ (.cond _ x _)) _)=>x|_=> .skip
def jbr(c:Code):Code:=match c with| .seq _ (.seq _ y)=>y|_=> .skip
def j7f(c:Code):List Oper:=match c with| .seq _ (.seq (.seq (.region _ ops _) _) _)=>ops.toList|_=>[]
def jbs : Oper := ⟨none, .assign (.tmp 0), 0, "", #[], none⟩
def cloneO3(c:Code):Oper:=match j7f c with|[a,_]=>a|_=>jbs
def cloneO4(c:Code):Oper:=match j7f c with|[_,b]=>b|_=>jbs
theorem jbt{l:LI}(h:l.length≤1099511627776):zi5 1 l=some (l,()):=by
 simp[zi5,j4s,h]
def cloneS1(sz:Nat)(k:IntKind)(l:LI):St:=⟨[.sl 1 0 (div1 l.length sz) sz .whole,.undef,.nils,.undef,.undef,.undef,.undef,.undef],[none,some ⟨.row k l,false,none⟩]⟩
def jbu(sz:Nat)(k:IntKind)(l:LI):St:=⟨[.sl 1 0 (div1 l.length sz) sz .whole,.undef,.nils,.sl 1 0 (div1 l.length sz) sz .whole,.undef,.undef,.undef,.undef],[none,some ⟨.row k l,false,none⟩]⟩
end Go.AE
namespace Go.AE
open Go Go.RowKit
def j0s(P:Program)(k:IntKind)(u:TypeId):Bool:=match P.underlying u with
 |some (.int k')=>k' ==k
 |_=>false
def j4w(P:Program)(u:TypeId):Bool:=match P.underlying u with
 |some .bool=>true
 |_=>false
def z50(P:Program):List CTy→List TypeId→Bool
 |[],[]=>true
 | .int k::r,u::us=>j0s P k u&&z50 P r us
 | .bool::r,u::us=>j4w P u&&z50 P r us
 | .is k n::r,us=>decide (n≤us.length)&&((us.take n).all (j0s P k)&&z50 P r (us.drop n))
 |_,_=>false
def wfC:(cs:List CTy)→DC cs→Prop
 |[],_=>True
 | .int k::r,d=>k.has d.1∧wfC r d.2
 | .bool::r,d=>wfC r d.2
 | .is k n::r,d=>(ya (α:=Int) d.1=n∧∀x∈(d.1:LI),k.has x)∧wfC r d.2
 |_::_,_=>False
theorem zi6{P:Program}{w:World}{r:Reach}{base:Nat}{k:IntKind}{u:TypeId}{v:Value}(ht:j0s P k u=true)(h:Cell.okWide P w r base u v):∃x,v= .int k x∧k.has x:=by
 unfold j0s at ht
 split at ht
 ·rename_i k' hu
  have hk:k' =k:=by simpa using ht
  subst hk
  unfold Cell.okWide at h
  rw[hu]at h
  unfold Cell.ok at h
  rw[hu]at h
  cases v<;>simp at h
  obtain⟨rfl,h⟩:=h
  exact⟨_,rfl,h⟩
 ·cases ht
theorem j0t{P:Program}{w:World}{r:Reach}{base:Nat}{u:TypeId}{v:Value}(ht:j4w P u=true)(h:Cell.okWide P w r base u v):∃x,v= .bool x:=by
 unfold j4w at ht
 split at ht
 ·rename_i hu
  unfold Cell.okWide at h
  rw[hu]at h
  unfold Cell.ok at h
  rw[hu]at h
  cases v<;>simp at h
  exact⟨_,rfl⟩
 ·cases ht
theorem jbv{P:Program}{w:World}{r:Reach}{base:Nat}{k:IntKind}:∀{us:List TypeId} {vs:List Value},us.all (j0s P k)=true→vs.length=us.length→(∀(i:Nat) v,vs[i]? =some v→∃u,us[i]? =some u∧Cell.okWide P w r base u v)→
  ∃l:LI,vs=l.map (.int k)∧l.length=us.length∧∀x∈l,k.has x
 |[],vs,_,hl,_=>⟨[],by simpa using hl,rfl,by simp⟩
 |u::us,[],_,hl,_=>by simp at hl
 |u::us,v::vs,ha,hl,h=>by
  simp only[List.all_cons,yl]at ha
  obtain⟨l,e,h1,h2⟩:=jbv (us:=us) (vs:=vs) ha.2 (by simpa using hl) fun i v hv=>by simpa using h (i+1) v (by simpa using hv)
  obtain⟨u',hu',hc⟩:=h 0 v rfl
  simp at hu'
  subst hu'
  obtain⟨x,rfl,hx⟩:=zi6 ha.1 hc
  refine⟨x::l,by rw[e];rfl,by simp[h1],fun y hy=> ?_⟩
  rcases yr.1 hy with rfl|hy
  ·exact hx
  ·exact h2 y hy
theorem zgs{P:Program}{w:World}{r:Reach}{base:Nat}:∀{cs:List CTy} {us:List TypeId} {vs:List Value},z50 P cs us=true→vs.length=us.length→(∀(i:Nat) v,vs[i]? =some v→∃u,us[i]? =some u∧Cell.okWide P w r base u v)→
  ∃d:DC cs,wfC cs d∧∀M,RelC M (mkCs cs d) vs
 |[],[],vs,_,hl,_=>⟨(),trivial,fun M=>RelC_nil.2 (by simpa using hl)⟩
 |[],_::_,vs,hc,_,_=>by simp[z50]at hc
 | .int k::cs,[],vs,hc,_,_=>by simp[z50]at hc
 | .bool::cs,[],vs,hc,_,_=>by simp[z50]at hc
 | .int k::cs,u::us,[],_,hl,_=>by simp at hl
 | .bool::cs,u::us,[],_,hl,_=>by simp at hl
 | .int k::cs,u::us,v::vs,hc,hl,h=>by
  simp only[z50,yl]at hc
  obtain⟨d,h1,h2⟩:=zgs (us:=us) (vs:=vs) hc.2 (by simpa using hl) fun i v hv=>by simpa using h (i+1) v (by simpa using hv)
  obtain⟨u',hu',hw⟩:=h 0 v rfl
  simp at hu'
  subst hu'
  obtain⟨x,rfl,hx⟩:=zi6 hc.1 hw
  exact⟨(x,d),⟨hx,h1⟩,fun M=>RelC_cons.2 ⟨[.int k x],vs,rfl,RelX_int.2 ⟨rfl,hx,fun m hm=>by cases hm⟩,h2 M⟩⟩
 | .bool::cs,u::us,v::vs,hc,hl,h=>by
  simp only[z50,yl]at hc
  obtain⟨d,h1,h2⟩:=zgs (us:=us) (vs:=vs) hc.2 (by simpa using hl) fun i v hv=>by simpa using h (i+1) v (by simpa using hv)
  obtain⟨u',hu',hw⟩:=h 0 v rfl
  simp at hu'
  subst hu'
  obtain⟨x,rfl⟩:=j0t hc.1 hw
  exact⟨(x,d),h1,fun M=>RelC_cons.2 ⟨[.bool x],vs,rfl,by simp[mk1,RelX],h2 M⟩⟩
 | .str::cs,us,vs,hc,_,_=>by simp[z50]at hc
 | .fsl _ _::cs,us,vs,hc,_,_=>by simp[z50]at hc
 | .dsl _::cs,us,vs,hc,_,_=>by simp[z50]at hc
 | .is k n::cs,us,vs,hc,hl,h=>by
  simp only[z50,yl,decide_eq_true_eq]at hc
  obtain⟨hn,ha,hc⟩:=hc
  obtain⟨d,h1,h2⟩:=zgs (us:=us.drop n) (vs:=vs.drop n) hc (by simp[hl]) fun i v hv=>by
   rw[List.getElem?_drop]at hv⊢
   exact h (n+i) v hv
  obtain⟨l,e,g1,g2⟩:=jbv (us:=us.take n) (vs:=vs.take n) (w:=w) (r:=r) (base:=base) ha (by simp[hl]) fun i v hv=>by
   rw[List.getElem?_take]at hv⊢
   split at hv
   ·rename_i hi
    rw[iP hi]
    exact h i v hv
   ·cases hv
  have hln:l.length=n:=by simp at g1;omega
  exact⟨(l,d),⟨⟨hln,g2⟩,h1⟩,fun M=>RelC_cons.2 ⟨vs.take n,vs.drop n,by simp,RelX_is.2 ⟨hln,e,g2⟩,h2 M⟩⟩
theorem agg_of{P:Program}{w:World}{r:Reach}{base:Nat}{t:TypeId}{v:Value}{cs:List CTy}{us:List TypeId}(hu:(match P.underlying t with|some (.struct _)|some (.array _ _)=>true|_=>false)=true)
  (ht:P.cellTypes P.depth t=some us) (hn:P.cellsOf t=us.length) (hc:z50 P cs us=true) (h:Value.okWide P w r base t v):∃d:DC cs,wfC cs d∧∀M,RelV M (.agg (mkCs cs d)) v:=by
 have h' :∃xs:Array Value,v= .agg xs∧xs.size=P.cellsOf t∧Row.okWide P w r base t xs:=by
  unfold Value.okWide at h
  split at hu
  ·rename_i hq;rw[hq]at h;exact h
  ·rename_i hq;rw[hq]at h;exact h
  ·cases hu
 obtain⟨xs,rfl,hsz,ts,hts,_,hrow⟩:=h'
 rw[ht]at hts
 cases hts
 obtain⟨d,h1,h2⟩:=zgs (vs:=xs.toList) (w:=w) (r:=r) (base:=base) hc (by simp;omega) fun i v hv=>by
  have hi:i<us.length:=by
   have:=(List.getElem?_eq_some_iff.1 hv).1
   simp at this
   omega
  obtain⟨u,hu',hw⟩:=hrow i v (by simpa using hv)
  rw[Nat.mod_eq_of_lt hi]at hu'
  exact⟨u,hu',hw⟩
 exact⟨d,h1,fun M=>RelX_agg.2 ⟨xs,rfl,h2 M⟩⟩
end Go.AE
namespace Go.AE
open Go Go.RowKit
open Go.MapKept (Stamped stamped_push stamped_empty stamped_iff)
open Go.ChangeMaps (setBlock)
def MapAt(w:World)(b:Nat)(T:List (Value×Value)):Prop:=
 ∃es clock,w.heap[b]? =some (.map es clock)∧Stamped es clock∧(es.toList.map fun e=>(e.key,e.val)).Perm T
theorem MapAt.made(w:World):MapAt (w.alloc (.map #[] 0)) w.heap.size []:=
 ⟨#[],0,(MapKept.heap_alloc w _).1,stamped_empty 0,.nil⟩
theorem zuk{w:World}{b:Nat}{o o' :Obj}(h:w.heap[b]? =some o):(setBlock w b o').heap[b]? =some o' :=by
 have:=(Array.getElem?_eq_some_iff.1 h).1
 simp[setBlock,this]
theorem zos{w:World}{b i:Nat}{o' :Obj}(h:i≠b):(setBlock w b o').heap[i]? =w.heap[i]? :=by
 simp[setBlock,Array.getElem?_setIfInBounds_ne (Ne.symm h)]
theorem MapAt.ins{P:Program}{k t e:TypeId}(K:Maps.Keyed P k)(ht:P.underlying t=some (.map k e)){w:World}{b:Nat}{T:List (Value×Value)}(h:MapAt w b T)(hT:∀p∈T,∃l,keyOf P k p.1=some l){key val:Value}
  (hkey:∃l,keyOf P k key=some l) (hne:∀p∈T,p.1≠key):∃w',(Instr.mapUpdate t (.map (some b)) key val).run P w= .ok () w' ∧MapAt w' b ((key,val)::T)∧w.grownBy w' (some b):=by
 obtain⟨es,clock,hb,hst,hp⟩:=h
 obtain⟨kl,hkey⟩:=hkey
 have mem:∀x∈es.toList,(x.key,x.val)∈T:=fun x hx=>hp.mem_iff.1 (List.mem_map.2 ⟨x,hx,rfl⟩)
 have hn:∀x∈es.toList,x.key≠key:=fun x hx=>hne _ (mem x hx)
 rcases K.find w hkey es.toList (fun x hx=>hT _ (mem x hx))with⟨h1,_⟩|⟨j,e0,_,h2,h3⟩
 ·refine⟨setBlock w b (.map (es.push ⟨key,val,clock⟩) (clock+1)),?_,⟨_,_,zuk hb,stamped_push hst hn,?_⟩,⟨rfl,rfl,rfl,by simp[setBlock],fun i _ hi=>zos fun e=>hi (by rw[e])⟩⟩
  ·simp[Instr.mapUpdate,run_underlying ht,MapKept.run_getObj_map hb,K.check w false hkey,h1,MapKept.run_setObj_map _ hb,Result.andThen,setBlock]
  ·rw[Array.toList_push,List.map_append,List.map_singleton]
   exact(List.perm_append_singleton _ _).trans (hp.cons _)
 ·exact absurd h3 (hn e0 (List.mem_of_getElem? h2))
theorem MapAt.kept{w w' :World}{n b:Nat}{T:List (Value×Value)}(h:MapAt w b T)(hb:Below n w w')(hn:b<n):MapAt w' b T:=by
 obtain⟨es,clock,h1,h2,h3⟩:=h
 exact⟨es,clock,(hb.block b hn).trans h1,h2,h3⟩
theorem Below.alloc(w:World)(o:Obj){n:Nat}(hn:n≤w.heap.size):Below n w (w.alloc o):=
 ⟨rfl,rfl,rfl,by simp,fun k hk=>(MapKept.heap_alloc w o).2 k (Nat.lt_of_lt_of_le hk hn)⟩
def rest:Nat→Code→Code
 |0,c=>c
 |n+1,.seq _ y=>rest n y
 |_+1,c=>c
theorem Below.weak{n m:Nat}{w w' :World}(h:Below n w w')(hm:m≤n):Below m w w' :=⟨h.os,h.tape,h.output,h.size,fun k hk=>h.block k (Nat.lt_of_lt_of_le hk hm)⟩
end Go.AE
namespace Go.AE
open Go Go.RowKit
open Go.ChangeMaps (setBlock)
structure FLoop (n dr b r:Nat) (x y:Int) (w0:World) (k:Nat) (a:Go.Act) (w:World):Prop where
 size:a.tmps.size=n
 defers:a.defers=[]
 s0:RelV M0 (.int .i64 none x) (a.tmps.getD 0 undef)
 s1:RelV M0 (.int .i64 none y) (a.tmps.getD 1 undef)
 sr:a.tmps.getD dr undef= .pointer (some ⟨r,0,none⟩)
 mem:∃es clock seen,w.heap[b]? =some (.map es clock)∧MapKept.Stamped es clock∧(es.toList.map fun e=>(e.key,e.val)).Perm (mapT 0)∧w.heap[r]? =some (.mapIter (some b) clock seen clock)∧(leftOf es seen).size=k∧
  ∀e∈es.toList,seen.contains e.born=true→∀q∈codesT,(e.key,e.val)=(.agg #[.int .i64 q.1,.int .i64 q.2.1],.int .i64 q.2.2)→¬(q.2.1=y∧q.2.2=x)
 below:Below w0.heap.size w0 w
 hb:w0.heap.size≤b
 hr:w0.heap.size≤r
 ne:r≠b
def seqB:Code→Code
 | .seq _ y=>y
 |_=> .skip
end Go.AE
namespace Go.AE
open Go Go.RowKit
section
variable {P:Program} {ops:Array Oper} {C:World→Prop} {Q:Exit→Go.Act→World→Prop} {a:Go.Act} {w:World}
theorem jbw(hB:Region.lexB .any ops=true)(hC:C w.drew)(h:wpQuiet P ops C (fun a' =>∀w',C w' →Q .normal a' w') ops.toList a):wpAny P .any ops Q ops.size (Array.replicate ops.size false) a w.drew:=by
 simp only[Region.lexB,yl]at hB
 refine wpAny_of_quiet (Q:=fun a' =>∀w',C w' →Q .normal a' w') (fun _ w' hw' h=>h w' hw') _ _ _ _ hC ?_
 have:=wpAnyQ_lex (C:=C) (md:= .any) hB.1 ops.toList 0 (Array.replicate ops.size false) a (by simp) (by simpa using hB.2) h
 simpa using this
theorem zot(n:Nat)(hB:Region.lexTailB .any ops n=true)(hC:C w.drew)
  (h:wpQuiet P ops C (fun a' =>∀w',C w' →wpList P ops Q (ops.toList.drop n) a' w') (ops.toList.take n) a):wpAny P .any ops Q ops.size (Array.replicate ops.size false) a w.drew:=by
 simp only[Region.lexTailB,yl,decide_eq_true_eq]at hB
 obtain⟨⟨⟨⟨hsel,hn⟩,hs⟩,hc⟩,hlex⟩:=hB
 have htl:(ops.toList.take n).length=n:=by simp;omega
 have hdl:(ops.toList.drop n).length=ops.size-n:=by simp
 have inv0:HeadInv .any ops n (Array.replicate ops.size false):=
  ⟨by simp,fun j oj _ hl=>(by rw[getD_replicate_false]at hl;cases hl),fun t _ ht=>getD_in (by simpa using ht) (getD_replicate_false _ _)⟩
 have H:=qrl (md:= .any) (g:=ops.size-n) hsel hs hc hn (ops.toList.take n) 0 _ a (fun j hj=>by
  have hj' :j<n:=by rw[htl]at hj;exact hj
  simp[hj']) (by simpa using htl) inv0 (by rw[htl];exact hlex) h
 have:=qo5 (Q' :=Q) (g:=ops.size-n) (fun listed a' w' hw' hL=>by
  have:=wpAny_of_seq (md:= .any) (Q' :=Q) (ops.toList.drop n) n listed a' w' (fun j=>by simp[List.getElem?_drop]) (by rw[hdl];exact hL.1) (hL.2 w' hw')
  rwa [hdl]at this) _ _ _ _ hC H
 rw[htl,show n+(ops.size-n)=ops.size by omega]at this
 exact this
def Reg(P:Program)(ops:Array Oper)(draw:Bool)(Q:Exit→Go.Act→World→Prop)(a:Go.Act)(w:World):Prop:=
 match draw with
 |false=>wpList P ops Q ops.toList a w
 |true=>P.follows .mixedOrders=true∧wpAny P .any ops Q ops.size (Array.replicate ops.size false) a w.drew
end
variable {ρ:Type}
def Qn(Q:Exit→Go.Act→World→Prop):Exit→Go.Act→World→Prop:=fun e a w=>e= .normal∧Q .normal a w
theorem qn_shut(Q:Exit→Go.Act→World→Prop):¬LetsOut (Qn Q):=fun⟨_,_,h⟩=>by cases h.1
theorem j0u{P:Program}(hP:q0u P){cal:Cal ρ}(hcal:∀f,qex P f (cal f)){qcal:QCal ρ}(hq:∀f,qb3 P f (qcal f)){ops:Array Oper}{draw:Bool}{st:St}{K:St→Option ρ}{r:ρ}(h:qzx P cal qcal ops draw st K=some r)
  {M:List Place} {B:Base} {w0:World} {a:Go.Act} {w:World} (hr:Rel M st B w0 a w) {Q:Exit→Go.Act→World→Prop} (hn:∀M' st' a' w',Ext M M' →K st' =some r→Rel M' st' B w0 a' w' →Q .normal a' w'):Reg P ops draw (Qn Q) a w:=by
 have hn' :∀M' st' a' w',Ext M M' →K st' =some r→Rel M' st' B w0 a' w' →Qn Q .normal a' w' :=fun M' st' a' w' h1 h2 h3=>⟨rfl,hn M' st' a' w' h1 h2 h3⟩
 unfold qzx at h
 split at h
 ·exact qcl hP hcal h hr hn'
 ·split at h
  ·rename_i hm
   refine⟨hm,?_⟩
   have hb0:Below w.heap.size w w.drew:=(Below.refl _ _).drew
   have hH0:RelH M st.heap B w.drew:=hr.heap.below hb0
   have later:∀(st' :St) (a' :Go.Act) (w' :World),RelT M st'.tmps a'.tmps→st'.heap=st.heap→a'.defers=B.ds→Below w.drew.heap.size w.drew w' →Rel M st' B w0 a' w' :=by
    intro st' a' w' ht hh hd hb
    exact⟨ht,hd,by rw[hh];exact hH0.below hb,hr.below.trans ((Beneath.of hb0).trans (Beneath.of hb))⟩
   have anyR:zhl P cal ops st K=some r→wpAny P .any ops (Qn Q) ops.size (Array.replicate ops.size false) a w.drew:=by
    intro h
    unfold zhl at h
    split at h
    ·rename_i hs
     have hs' :=Bool.and_eq_true_iff.1 hs
     have hr0:=later st a w.drew hr.tmps rfl hr.defers (Below.refl _ _)
     have hcnt:cntF (lst [] (Array.replicate ops.size false))≤ops.size:=by simp[lst,cntF]
     exact z82 _ _ _ _ _ (zhj hP hcal hs'.1 (jba P ops) hs'.2 ops.size ops.size [] [] [] _ st M a w.drew h (zhk ops _) (fun p hp=>by cases hp) (fun p hp=>by cases hp)
      ⟨fun p hp=>(by cases hp),fun p hp=>(by cases hp),List.nodup_nil⟩ (hr0.tmps.clear _ _) hr0.defers (hr0.heap.rebase (B' :=B.less []) (fun k h=>⟨h,fun p hp=>by cases hp⟩) (fun k h=>⟨h,fun p hp=>by cases hp⟩) (fun k pl h=>h) (fun k ob _ h=>h.elim (fun h=> .inl ⟨h,fun p hp=>by cases hp⟩) .inr) (fun k h=>h)) hr0.below hcnt hn)
    ·cases h
   split at h
   ·exact anyR h
   split at h
   ·split at h
    ·rename_i hB
     have hB:=(Bool.and_eq_true_iff.1 hB).1
     refine jbw (C:=fun w' =>Below w.drew.heap.size w.drew w') hB (Below.refl _ _) ?_
     exact q7i hP hq hH0 h hr.tmps rfl hr.defers fun st' a' hk ht hh hd w' hb=>hn' M st' a' w' (Ext.refl M) hk (later st' a' w' ht hh hd hb)
    ·exact anyR h
   ·split at h
    ·rename_i hB
     refine zot (C:=fun w' =>Below w.drew.heap.size w.drew w') _ hB (Below.refl _ _) ?_
     exact q7i hP hq hH0 h hr.tmps rfl hr.defers fun st' a' hk ht hh hd w' hb=>qcl hP hcal hk (later st' a' w' ht hh hd hb) hn'
    ·exact anyR h
  ·cases h
abbrev Fence.rnd(l:Nat):Fence:=Fence.wide.inRound l
section
variable {P:Program} {l n:Nat} {Q:Exit→Go.Act→World→Prop}
theorem operR{o:Oper}(ho:∀c,o.op≠ .defer c){a:Go.Act}{w:World}{K:Go.Act→World→Prop}(h:o.wp P a w K Q):o.wpIn (Fence.rnd l) n P a w K Q:=by
 refine⟨fun f _=>trivial,?_⟩
 show o.uponIn _ n P a K Q ((Oper.semAt (some l) a.eval o).run P w)
 rw[Oper.semAt_some l _ o ho]
 unfold Oper.wp at h
 generalize (execOp a.eval o).run P w=r at h
 cases r with
 |ok nx w' =>
  cases nx with
  |value v=>exact h
  |skip=>exact h
  |defer d=>exact h
  |enter f args=>exact⟨fun hd=>by simp[Fence.rnd,Fence.inRound,Fence.wide]at hd,CallsIn.inRound l (callsIn_wide.2 h)⟩
  |row row args=>exact⟨fun hd=>by simp[Fence.rnd,Fence.inRound,Fence.wide]at hd,fun c cs _=>let⟨v,w',r,s⟩:=h c cs;⟨v,w',r,stepsIn_wide.2 s⟩⟩
  |_=>exact h.elim
 |halt e w' =>
  cases e with
  |panic v=>exact h
  |_=>exact h.elim
theorem listR{ops:Array Oper}(hQ:¬LetsOut Q):∀(L:List Oper),(∀o∈L,∀c,o.op≠ .defer c)→∀(a:Go.Act) (w:World),wpList P ops Q L a w→wpListIn (Fence.rnd l) n P ops Q L a w
 |[],_,a,w,h=>h
 |o::L,hL,a,w,h=>by
  unfold wpList at h
  unfold wpListIn
  by_cases hw:Region.wanted o (yielded ops a.tmps)=true
  ·rw[iP hw]at h⊢
   rcases h with h|h
   ·exact Oper.wpIn_mono (fun a w h=>listR hQ L (fun o ho=>hL o (List.mem_cons_of_mem _ ho)) a w h) (operR (hL o List.mem_cons_self) h)
   ·exact absurd h.2 hQ
  ·rw[iN hw]at h⊢
   exact⟨fun f _=>trivial,listR hQ L (fun o ho=>hL o (List.mem_cons_of_mem _ ho)) _ w h⟩
theorem anyR{ops:Array Oper}(hQ:¬LetsOut Q)(hd:∀(i:Nat) o,ops[i]? =some o→∀c,o.op≠ .defer c){md:Region.Mode}:∀(f:Nat) (listed:Array Bool) (a:Go.Act) (w:World),wpAny P md ops Q f listed a w→wpAnyIn (Fence.rnd l) n P md ops Q f listed a w
 |0,listed,a,w,h=>h
 |f+1,listed,a,w,h=>by
  refine⟨h.1,fun i hi=> ?_⟩
  have h2:=h.2 i hi
  unfold wpOp at h2
  unfold wpOpIn
  cases ho:ops[i]? with
  |none=>
   rw[ho]at h2
   exact anyR hQ hd f _ a w h2
  |some o=>
   rw[ho]at h2
   simp only at h2⊢
   by_cases hw:Region.wanted o (yielded ops a.tmps)=true
   ·rw[iP hw]at h2⊢
    rcases h2 with h2|h2
    ·exact Oper.wpIn_mono (fun a w h=>anyR hQ hd f _ a w h) (operR (hd i o ho) h2)
    ·exact absurd h2.2 hQ
   ·rw[iN hw]at h2⊢
    exact⟨fun f _=>trivial,anyR hQ hd f _ _ w h2⟩
theorem regionR{ops:Array Oper}{draw:Bool}(hQ:¬LetsOut Q)(hd:∀(i:Nat) o,ops[i]? =some o→∀c,o.op≠ .defer c){id:Nat}{a:Go.Act}{w:World}(h:Reg P ops draw Q a w):(Code.region id ops draw).wpIn (Fence.rnd l) n P Q a w:=by
 cases draw with
 |false=>exact wpIn_region_list (listR hQ _ (fun o ho=>by
   obtain⟨i,hi⟩:=List.getElem?_of_mem ho
   exact hd i o (by rw[←Array.getElem?_toList];exact hi)) a w h)
 |true=>exact wpIn_region_any h.1 (anyR hQ hd _ _ a _ h.2)
end
def jbx(o:Oper):Bool:=match o.op with
 | .defer _=>false
 |_=>true
theorem jby{o:Oper}(h:jbx o=true):∀c,o.op≠ .defer c:=fun c hc=>by
 unfold jbx at h
 rw[hc]at h
 cases h
def calm:Code→Bool
 | .skip=>true
 | .region _ ops _=>ops.toList.all jbx
 | .seq x y=>calm x&&calm y
 | .cond _ x y=>calm x&&calm y
 | .block _ c=>calm c
 | .loop c=>calm c
 | .exit _=>true
 | .ret=>true
 | .label _=>true
 |_=>false
theorem z51{F:Fence}{n:Nat}{P:Program}{c:Code}{Q:Exit→Go.Act→World→Prop}{a:Go.Act}{w:World}(I:Nat→Go.Act→World→Prop){m:Nat}(h0:I m a w)
  (round:∀m a w,I m a w→c.wpIn F n P (Exit.then (fun a' w' =>∃m',m' <m∧I m' a' w') Q) a w):(Code.loop c).wpIn F n P Q a w:=by
 intro b k cs hro hb hr
 have key:∀j a w,I j a w→∃e a' w',Q e a' w' ∧ArrivesIn (Machine.fenced P F) P (lone (b.atR a (.code c:: .inLoop c::k)) cs w) b k cs e a' w' :=by
  intro j
  induction j using Nat.strongRecOn with
  |_ j ih=>
   intro a w hI
   obtain⟨e,a₁,w₁,hq,harr⟩:=round j a w hI b (.inLoop c::k) cs hro hb hr
   cases e with
   |normal=>
    obtain⟨m',hm,hI₁⟩:=hq
    obtain⟨e₂,a₂,w₂,hq₂,harr₂⟩:=ih m' hm a₁ w₁ hI₁
    exact⟨e₂,a₂,w₂,hq₂,.of_steps (StepsIn.trans harr (.one (fenced_calm hb hr rfl) stepR_inLoop)) harr₂⟩
   |exit id=>exact⟨_,a₁,w₁,hq,.pass (x:= .inLoop c) rfl (fun _ _=> .inl (by simp)) harr⟩
   |goto l=>exact⟨_,a₁,w₁,hq,.pass (x:= .inLoop c) rfl (fun _ _=> .inl (by simp)) harr⟩
   |ret=>exact⟨_,a₁,w₁,hq,.pass (x:= .inLoop c) rfl (fun _ _=> .inl (by simp)) harr⟩
   |panic ch=>exact⟨_,a₁,w₁,hq,.pass (x:= .inLoop c) rfl (fun _ _=> .inl (by simp)) harr⟩
   |outgrown=>exact⟨_,a₁,w₁,hq,.pass (x:= .inLoop c) rfl (fun _ _=> .inl (by simp)) harr⟩
 obtain⟨e,a',w',hq,harr⟩:=key _ a w h0
 exact⟨e,a',w',hq,.of_steps (.one (fenced_calm hb hr rfl) stepR_loop) harr⟩
theorem z52{P:Program}(hP:q0u P){cal:Cal ρ}(hcal:∀f,qex P f (cal f)){qcal:QCal ρ}(hq:∀f,qb3 P f (qcal f)){l n:Nat}{B:Base}{w0:World}{r:ρ}:
  ∀(c:Code) (_:calm c=true) (st:St) (K:Exit→St→Option ρ),q2t P cal qcal (fun _=>none) c st K=some r→
   ∀(M:List Place) (a:Go.Act) (w:World) (Q:Exit→Go.Act→World→Prop),Rel M st B w0 a w→(∀e M' st' a' w',Ext M M' →K e st' =some r→Rel M' st' B w0 a' w' →Q e a' w')→c.wpIn (Fence.rnd l) n P Q a w:=by
 intro c
 induction c with
 |skip=>intro _ st K h M a w Q hr hn;exact wpIn_skip (hn _ M st a w (Ext.refl M) h hr)
 |region id ops draw=>
  intro hc st K h M a w Q hr hn
  have hd:∀(i:Nat) o,ops[i]? =some o→∀c,o.op≠ .defer c:=fun i o ho=>jby (List.all_eq_true.1 hc o (by
   rw[←Array.getElem?_toList]at ho
   exact List.mem_of_getElem? ho))
  exact Code.wpIn_mono (fun e a w h=>by obtain⟨rfl,h⟩:=h;exact h) (regionR (qn_shut Q) hd (j0u hP hcal hq h hr fun M' st' a' w' hE=>hn .normal M' st' a' w' hE))
 |seq x y ihx ihy=>
  intro hc st K h M a w Q hr hn
  have hc:=Bool.and_eq_true_iff.1 hc
  refine wpIn_seq (ihx hc.1 st _ h M a w _ hr fun e M' st' a' w' hE hk hr' => ?_)
  cases e with
  |normal=>exact ihy hc.2 st' K hk M' a' w' Q hr' fun e M2 st2 a2 w2 hE2=>hn e M2 st2 a2 w2 (hE.trans hE2)
  |exit id=>exact hn _ M' st' a' w' hE hk hr'
  |goto l=>exact hn _ M' st' a' w' hE hk hr'
  |ret=>exact hn _ M' st' a' w' hE hk hr'
  |panic ch=>exact hn _ M' st' a' w' hE hk hr'
  |outgrown=>exact hn _ M' st' a' w' hE hk hr'
 |cond c x y ihx ihy=>
  intro hc st K h M a w Q hr hn
  have hc:=Bool.and_eq_true_iff.1 hc
  have hg:=qwc hr.tmps c
  unfold q2t at h
  have lit:∀b:Bool,a.eval c= .bool b→Rel M (st.lit c b) B w0 a w:=by
   intro b hb
   cases c with
   |tmp t=>
    have h1:=hr.put (x:= .bool (some b) b) (v:= .bool b) (by simp[RelV,RelX]) (some t)
    simp only[Act.eval]at hb
    rw[←hb,qj3]at h1
    exact h1
   |_=>exact hr
  split at h
  ·rename_i b z hst
   rw[hst]at hg
   obtain⟨e,hl⟩:=q25 hg
   have:=hl b rfl
   subst this
   cases z
   ·exact wpIn_cond_false e (ihy hc.2 st K h M a w Q hr hn)
   ·exact wpIn_cond_true e (ihx hc.1 st K h M a w Q hr hn)
  ·rename_i b hst
   rw[hst]at hg
   obtain⟨e,_⟩:=q25 hg
   cases b
   ·exact wpIn_cond_false e (ihy hc.2 _ K h M a w Q (lit _ e) hn)
   ·exact wpIn_cond_true e (ihx hc.1 _ K h M a w Q (lit _ e) hn)
  ·cases h
 |block id c ih=>
  intro hc st K h M a w Q hr hn
  unfold q2t at h
  refine wpIn_block (ih hc st _ h M a w _ hr fun e M' st' a' w' hE hk hr' => ?_)
  cases e with
  |exit id' =>
   simp only at hk
   unfold Exit.inBlock
   split at hk
   ·rename_i hid
    simp only[hid,if_true]
    exact hn _ M' st' a' w' hE hk hr'
   ·rename_i hid
    simp only[hid,if_false]
    exact hn _ M' st' a' w' hE hk hr'
  |normal=>exact hn _ M' st' a' w' hE hk hr'
  |goto l=>exact hn _ M' st' a' w' hE hk hr'
  |ret=>exact hn _ M' st' a' w' hE hk hr'
  |panic ch=>exact hn _ M' st' a' w' hE hk hr'
  |outgrown=>exact hn _ M' st' a' w' hE hk hr'
 |loop c ih=>
  intro hc st K h M a w Q hr hn
  unfold q2t at h
  refine z51 (fun m a' w' =>∃st' M',zud m (fun st K=>q2t P cal qcal (fun _=>none) c st K) st' K=some r∧Ext M M' ∧Rel M' st' B w0 a' w') (m:=300) ⟨st,M,h,Ext.refl M,hr⟩ ?_
  rintro m a1 w1 ⟨st1,M1,h1,hE1,hr1⟩
  cases m with
  |zero=>cases h1
  |succ m=>
   unfold zud at h1
   refine ih hc st1 _ h1 M1 a1 w1 _ hr1 fun e M' st' a' w' hE hk hr' => ?_
   cases e with
   |normal=>exact⟨m,by omega,st',M',hk,hE1.trans hE,hr'⟩
   |exit id=>exact hn _ M' st' a' w' (hE1.trans hE) hk hr'
   |goto l=>exact hn _ M' st' a' w' (hE1.trans hE) hk hr'
   |ret=>exact hn _ M' st' a' w' (hE1.trans hE) hk hr'
   |panic ch=>exact hn _ M' st' a' w' (hE1.trans hE) hk hr'
   |outgrown=>exact hn _ M' st' a' w' (hE1.trans hE) hk hr'
 |exit id=>intro _ st K h M a w Q hr hn;exact wpIn_exit (hn _ M st a w (Ext.refl M) h hr)
 |ret=>intro _ st K h M a w Q hr hn;exact wpIn_ret (hn _ M st a w (Ext.refl M) h hr)
 |label l=>intro _ st K h M a w Q hr hn;exact wpIn_label (hn _ M st a w (Ext.refl M) h hr)
 |_=>intro hc;cases hc
end Go.AE
namespace Go.AE
open Go Go.RowKit
def OB(O:Nat→Prop):Base:=⟨O,fun _=>True,fun _ _=>True,fun _=>False,[]⟩
def grow(O:Nat→Prop)(W W' :World)(k:Nat):Prop:=O k∨(W.heap.size≤k∧k<W'.heap.size)
def Same(O:Nat→Prop)(W W' :World):Prop:=∀k,O k→W'.heap[k]? =W.heap[k]?
theorem Same.refl(O:Nat→Prop)(W:World):Same O W W:=fun _ _=>rfl
theorem Same.trans{O:Nat→Prop}{A B C:World}(h:Same O A B)(k:Same O B C):Same O A C:=fun i hi=>(k i hi).trans (h i hi)
theorem Same.putObj{O:Nat→Prop}{W:World}{l:Nat}(hl:¬O l)(o:Obj):Same O W (W.putObj l o):=fun k hk=>World.putObj_heap_other (fun e=>hl (e▸hk))
def ItAt{α:Type}(P:Program)(gf:FuncId)(lb:Array Value)(encs:α→Array Value)(ok:α→Prop)(xs:List α)(O0:Nat→Prop)(w:World):Prop:=
 ∀(l:Nat) (J Jx:List α→(Nat→Prop)→World→Prop) (W:World),Same O0 w W→w.heap.size≤W.heap.size→
  (∀pre O W W',J pre O W→Beneath (OB O) W W' →J pre (grow O W W') W')→
  (∀pre O W W',Jx pre O W→Beneath (OB O) W W' →Jx pre (grow O W W') W')→
  (∀pre x rest O W1,xs=pre++x::rest→ok x→J pre O W1→YieldAt Fence.wide 0 P l (encs x) W1 fun e W' =>
   W1.heap.size≤W'.heap.size∧Same O W1 W' ∧((e= .returned (.bool true)∧J (pre++[x]) O W')∨(e= .returned (.bool false)∧Jx (pre++[x]) O W')))→
  J [] O0 W→
  CallsIn Fence.wide 0 P gf (#[.func (.yield l) #[] #[]]++lb) W fun e W' =>(∃v,e= .returned v)∧((∃O,J xs O W')∨(∃pre O,pre<+:xs∧Jx pre O W'))
structure Kept (n0:Nat) (W W' :World):Prop where
 size:W.heap.size≤W'.heap.size
 same:∀k,n0≤k→k<n0+2→W'.heap[k]? =W.heap[k]?
def rndPost{α:Type}(n0:Nat)(O:Nat→Prop)(I:List α→(Nat→Prop)→World→Prop)(Ix:Code→List α→(Nat→Prop)→World→Prop)(xs:List α)(W:World):Exit→Go.Act→World→Prop
 | .normal,_,W' =>Kept n0 W W' ∧Same O W W' ∧I xs O W'
 | .ret,_,W' =>Kept n0 W W' ∧Same O W W' ∧Ix .ret xs O W'
 | .exit id,_,W' =>Kept n0 W W' ∧Same O W W' ∧Ix (.exit id) xs O W'
 | .goto t,_,W' =>Kept n0 W W' ∧Same O W W' ∧Ix (.goto t) xs O W'
 |_,_,_=>False
abbrev mark(D:Nat):Deferred:={target:= .collected D,args:= #[]}
theorem j9d{P:Program}{α:Type}{g:Operand}{ps:Array Tmp}{assign body:Code}{Q:Exit→Go.Act→World→Prop}{a:Go.Act}{w:World}
  {gf:Nat} {lb:Array Value} (hg:a.eval g= .func (.func gf) #[] lb) (eg:∀args w,(callFunc gf args).run P w= .ok (.enter gf args) w)
  {encs:α→Array Value} {ok:α→Prop} {xs:List α} {O0:Nat→Prop} (hit:ItAt P gf lb encs ok xs O0 w) (hO:∀k,O0 k→k<w.heap.size) (hps:∀x,(encs x).size=ps.size)
  (I:List α→(Nat→Prop)→World→Prop) (Ix:Code→List α→(Nat→Prop)→World→Prop)
  (hI:∀pre O W W',I pre O W→Beneath (OB O) W W' →I pre (grow O W W') W')
  (hIx:∀c pre O W W',Ix c pre O W→Beneath (OB O) W W' →Ix c pre (grow O W W') W')
  (hIp:∀pre O W l o o',I pre O W→w.heap.size≤l→l<w.heap.size+2→W.heap[l]? =some o→o.isCells=false→I pre O (W.putObj l o'))
  (hIxp:∀c pre O W l o o',Ix c pre O W→w.heap.size≤l→l<w.heap.size+2→W.heap[l]? =some o→o.isCells=false→Ix c pre O (W.putObj l o'))
  (h0:∀W,Below w.heap.size w W→w.heap.size+2≤W.heap.size→I [] O0 W) (Ax:List α→α→(Nat→Prop)→Go.Act→World→Prop)
  (hAp:∀pre x O a' W l o o',Ax pre x O a' W→w.heap.size≤l→l<w.heap.size+2→W.heap[l]? =some o→o.isCells=false→Ax pre x O a' (W.putObj l o'))
  (hassign:∀(l:Nat) pre x rest O W,xs=pre++x::rest→ok x→I pre O W→
   assign.wpIn (Fence.rnd l) 0 P (Exit.then (fun a' W' =>Kept w.heap.size W W' ∧Same O W W' ∧Ax pre x O a' W') (fun _ _ _=>False)) {tmps:=(ps.zip (encs x)).foldl (fun t (p,v)=>t.setIfInBounds p v) a.tmps,defers:=[]} W)
  (hbody:∀(l:Nat) pre x rest O a' W,xs=pre++x::rest→Ax pre x O a' W→body.wpIn (Fence.rnd l) 0 P (rndPost w.heap.size O I Ix (pre++[x]) W) a' W)
  (hdone:∀O W,I xs O W→W.heap[w.heap.size]? =some (.deferred (some []))→Q .normal {a with defers:=mark w.heap.size::a.defers} W)
  (hstop:∀c pre O W,pre<+:xs→Ix c pre O W→W.heap[w.heap.size]? =some (.deferred (some []))→c.wpIn Fence.wide 0 P Q {a with defers:=mark w.heap.size::a.defers} W):
  (Code.rangeFunc g ps assign body).wpIn Fence.wide 0 P Q a w:=by
 refine wpIn_rangeFunc ?_
 intro fn hfn
 rw[show Fence.wide.round=none from rfl]
 obtain⟨rec,hrec⟩:∃rec:LoopState→Option Code→Loop,rec=fun st pe=>{state:=st,pending:=pe,fn,tmps:=a.tmps,params:=ps,assign,body,defers:=w.heap.size}:=⟨_,rfl⟩
 obtain⟨W1,hW1⟩:∃W1,(w.alloc (.deferred (some []))).alloc (.loop (rec .ready none))=W1:=⟨_,rfl⟩
 have hL1:W1.heap[w.heap.size+1]? =some (.loop (rec .ready none)):=by
  rw[←hW1];have:=World.alloc_heap_new (w.alloc (.deferred (some []))) (.loop (rec .ready none));rwa [World.size_alloc]at this
 have hK1:W1.heap[w.heap.size]? =some (.deferred (some [])):=by
  rw[←hW1];exact(Below.heap_alloc _ _ _ (by simp)).trans (World.alloc_heap_new w _)
 have hb1:Below w.heap.size w W1:=by
  rw[←hW1];exact((Below.refl _ w).alloc (wa _) _).alloc (by simp) _
 have hI1:I [] O0 W1:=h0 W1 hb1 (by rw[←hW1];simp)
 refine⟨w.heap.size+1,[mark w.heap.size],W1,{target:= .fn (.func gf) lb,args:= #[.func (.yield (w.heap.size+1)) #[] #[]]},W1,gf,
  #[.func (.yield (w.heap.size+1)) #[] #[]]++lb,W1,?_,?_,?_,?_,?_,?_⟩
 ·rw[←hW1,hrec];exact run_enterLoop_outer _ _ _ _ _
 ·simp only[resolve,hg]
  simp[go_sem]
 ·intro f' hf';trivial
 ·simp[invoke,go_sem,eg]
 ·intro h;simp[Fence.wide]at h
 ·refine(hit (w.heap.size+1)
   (fun pre O W=>I pre O W∧W.heap[w.heap.size+1]? =some (.loop (rec .ready none))∧W.heap[w.heap.size]? =some (.deferred (some []))∧¬O (w.heap.size+1)∧¬O w.heap.size)
   (fun pre O W=>∃c,Ix c pre O W∧W.heap[w.heap.size+1]? =some (.loop (rec .done (some c)))∧W.heap[w.heap.size]? =some (.deferred (some []))∧¬O (w.heap.size+1)∧¬O w.heap.size)
   W1 (fun k hk=>hb1.block k (hO k hk)) hb1.size ?_ ?_ ?_ ⟨hI1,hL1,hK1,fun h=>by have:=hO _ h;omega,fun h=>by have:=hO _ h;omega⟩).mono ?_
  ·rintro pre O W W' ⟨h1,h2,h3,h4,h5⟩ hB
   have l2:=(Array.getElem?_eq_some_iff.1 h2).1
   have l3:=(Array.getElem?_eq_some_iff.1 h3).1
   exact⟨hI _ _ _ _ h1 hB,(hB.block _ l2 h4).trans h2,(hB.block _ l3 h5).trans h3,fun h=>h.elim h4 fun h=>by omega,fun h=>h.elim h5 fun h=>by omega⟩
  ·rintro pre O W W' ⟨c,h1,h2,h3,h4,h5⟩ hB
   have l2:=(Array.getElem?_eq_some_iff.1 h2).1
   have l3:=(Array.getElem?_eq_some_iff.1 h3).1
   exact⟨c,hIx _ _ _ _ _ h1 hB,(hB.block _ l2 h4).trans h2,(hB.block _ l3 h5).trans h3,fun h=>h.elim h4 fun h=>by omega,fun h=>h.elim h5 fun h=>by omega⟩
  ·rintro pre x rest O W hx hokx ⟨hi,hl,hk,hol,hok⟩
   have hy:=run_yield (P:=P) (args:=encs x) hl (by rw[hrec];exact hps x)
   rw[hrec]at hy
   refine⟨fn,_,assign,body,hy,roundIn_of_wpIn hfn (Code.wpIn_mono (fun e a' Wa h=> ?_) (hassign _ pre x rest O W hx hokx hi))⟩
   cases e with
   |normal=>
    obtain⟨hkfa,hsa,hax⟩:=h
    have hl:=(hkfa.same (w.heap.size+1) (by omega) (by omega)).trans hl
    have hk:=(hkfa.same w.heap.size (by omega) (by omega)).trans hk
    have hlt:w.heap.size+1<Wa.heap.size:=(Array.getElem?_eq_some_iff.1 hl).1
    refine⟨_,run_beginRound hl (by rw[hrec]),?_⟩
    have hl2:(Wa.putObj (w.heap.size+1) (.loop {rec .ready none with state:= .busy})).heap[w.heap.size+1]? =some (.loop {rec .ready none with state:= .busy}):=World.putObj_heap_same hlt
    have hk2:(Wa.putObj (w.heap.size+1) (.loop {rec .ready none with state:= .busy})).heap[w.heap.size]? =some (.deferred (some [])):=(World.putObj_heap_other (by omega)).trans hk
    have hs2:Same O Wa (Wa.putObj (w.heap.size+1) (.loop {rec .ready none with state:= .busy})):=Same.putObj hol _
    refine wpIn_mono (hbody _ pre x rest O a' _ hx (hAp _ _ _ _ _ _ _ _ hax (by omega) (by omega) hl rfl)) ?_
    have fin:∀(jump:Option Code) (W3:World),Kept w.heap.size (Wa.putObj (w.heap.size+1) (.loop {rec .ready none with state:= .busy})) W3→Same O (Wa.putObj (w.heap.size+1) (.loop {rec .ready none with state:= .busy})) W3→
      (Instr.endRound (w.heap.size+1) jump).run P W3= .ok (.bool jump.isNone) (W3.putObj (w.heap.size+1) (.loop (rec (if jump.isNone then .ready else .done) jump)))∧
      W3.heap[w.heap.size+1]? =some (.loop {rec .ready none with state:= .busy})∧
      (W3.putObj (w.heap.size+1) (.loop (rec (if jump.isNone then .ready else .done) jump))).heap[w.heap.size+1]? =some (.loop (rec (if jump.isNone then .ready else .done) jump))∧
      (W3.putObj (w.heap.size+1) (.loop (rec (if jump.isNone then .ready else .done) jump))).heap[w.heap.size]? =some (.deferred (some []))∧
      W.heap.size≤(W3.putObj (w.heap.size+1) (.loop (rec (if jump.isNone then .ready else .done) jump))).heap.size∧
      Same O W (W3.putObj (w.heap.size+1) (.loop (rec (if jump.isNone then .ready else .done) jump))):=fun jump W3 hk3 hs3=>by
     have hl3:=(hk3.same (w.heap.size+1) (by omega) (by omega)).trans hl2
     have:=run_endRound (P:=P) jump hl3
     have z1:=hkfa.size
     have z3:=hk3.size
     rw[World.putObj_size]at z3
     rw[hrec]at this⊢
     exact⟨this,by rw[hrec]at hl3;exact hl3,World.putObj_heap_same (Array.getElem?_eq_some_iff.1 hl3).1,(World.putObj_heap_other (by omega)).trans ((hk3.same w.heap.size (by omega) (by omega)).trans hk2),by rw[World.putObj_size];omega,
      by rw[hrec]at hs2 hs3;exact hsa.trans (hs2.trans (hs3.trans (Same.putObj hol _)))⟩
    rintro e a3 W3 hp
    cases e with
    |normal=>
     obtain⟨hk3,hs3,hi3⟩:=hp
     obtain⟨hr,hl3,hl4,hk4,hz4,hs4⟩:=fin none W3 hk3 hs3
     exact⟨_,_,hr,hz4,hs4,.inl ⟨rfl,hIp _ _ _ _ _ _ hi3 (by omega) (by omega) hl3 rfl,hl4,hk4,hol,hok⟩⟩
    |ret=>
     obtain⟨hk3,hs3,hi3⟩:=hp
     obtain⟨hr,hl3,hl4,hk4,hz4,hs4⟩:=fin (some .ret) W3 hk3 hs3
     exact⟨_,_,hr,hz4,hs4,.inr ⟨rfl,.ret,hIxp _ _ _ _ _ _ _ hi3 (by omega) (by omega) hl3 rfl,hl4,hk4,hol,hok⟩⟩
    |exit id=>
     obtain⟨hk3,hs3,hi3⟩:=hp
     obtain⟨hr,hl3,hl4,hk4,hz4,hs4⟩:=fin (some (.exit id)) W3 hk3 hs3
     exact⟨_,_,hr,hz4,hs4,.inr ⟨rfl,.exit id,hIxp _ _ _ _ _ _ _ hi3 (by omega) (by omega) hl3 rfl,hl4,hk4,hol,hok⟩⟩
    |goto t=>
     obtain⟨hk3,hs3,hi3⟩:=hp
     obtain⟨hr,hl3,hl4,hk4,hz4,hs4⟩:=fin (some (.goto t)) W3 hk3 hs3
     exact⟨_,_,hr,hz4,hs4,.inr ⟨rfl,.goto t,hIxp _ _ _ _ _ _ _ hi3 (by omega) (by omega) hl3 rfl,hl4,hk4,hol,hok⟩⟩
    |panic ch=>exact hp.elim
    |outgrown=>exact hp.elim
   |_=>exact h.elim
  ·rintro e W2 ⟨⟨v,rfl⟩,(⟨O,hi,hl,hk,_,_⟩|⟨pre,O,hSp,c,hi,hl,hk,_,_⟩)⟩
   ·exact⟨none,_,by have:=run_endLoop (P:=P) hl (by rw[hrec];simp);rw[hrec]at this;exact this,hdone O _ (hIp _ _ _ _ _ _ hi (by omega) (by omega) hl rfl) ((World.putObj_heap_other (by omega)).trans hk)⟩
   ·exact⟨some c,_,by have:=run_endLoop (P:=P) hl (by rw[hrec];simp);rw[hrec]at this;exact this,hstop c pre O _ hSp (hIxp _ _ _ _ _ _ _ hi (by omega) (by omega) hl rfl) ((World.putObj_heap_other (by omega)).trans hk)⟩
end Go.AE
namespace Go.AE
open Go Go.RowKit
theorem RelH.carry{M:List Place}{H:Heap}{B B' :Base}{w w' :World}(r:RelH M H B w)
  (hpl:∀(i:Nat) (o:AObj) (pl:Place),H[i]? =some (some o)→M[i]? =some pl→pl.nil=false→w'.heap[pl.blk]? =w.heap[pl.blk]?)
  (hz:∀k ob,FzAt M k ob→w'.heap[k]? =some ob∧(B'.w k∨B'.f k))
  (hw:∀(i:Nat) (o:AObj) (pl:Place),H[i]? =some (some o)→M[i]? =some pl→o.own=true→pl.nil=false→B.w pl.blk→B'.w pl.blk)
  (hv:∀k,B.vis k→B'.vis k) (hp:∀k pl,B.pin k pl→B'.pin k pl) (hf:∀k,B'.f k→B.f k)
  (hb:∀k,w'.heap.size≤k→B'.w k∧B'.vis k) (hbf:∀k,w'.heap.size≤k→¬B'.f k):RelH M H B' w' :=by
 refine⟨r.len,hb,fun i o ho=> ?_,r.sep,fun i o pl k h1 h2 h3=>hp _ _ (r.pin i o pl k h1 h2 h3),fun i o pl h1 h2 h3=>hv _ (r.vis i o pl h1 h2 h3),fun k ob h=>⟨(hz k ob h).1,hv _ (r.fz k ob h).2.1,(hz k ob h).2⟩,
  fun i o pl h1 h2 h3 h4=>⟨fun h=>(r.fo i o pl h1 h2 h3 h4).1 (hf _ h),(r.fo i o pl h1 h2 h3 h4).2⟩,hbf⟩
 obtain⟨pl,hpl',hok⟩:=r.obj i o ho
 refine⟨pl,hpl',?_⟩
 rcases hok with hok|⟨g1,cs,el,fz,g2,g3,g4,g5,g6⟩
 ·exact .inl hok
 ·exact .inr ⟨g1,cs,el,fz,(hpl i o pl ho hpl' g1).trans g2,g3,g4,g5,fun e=>⟨(g6 e).1,(g6 e).2.1,hw i o pl ho hpl' e g1 (g6 e).2.2⟩⟩
theorem RelH.cells{M:List Place}{H:Heap}{B:Base}{w:World}(r:RelH M H B w){i:Nat}{o:AObj}{pl:Place}(ho:H[i]? =some (some o))(hp:M[i]? =some pl)(hn:pl.nil=false):∃ob,w.heap[pl.blk]? =some ob∧ob.isCells=true:=by
 obtain⟨pl',hpl',hok⟩:=r.obj i o ho
 rw[hp]at hpl'
 cases hpl'
 rcases hok with⟨h,_⟩|⟨g1,cs,el,fz,g2,_⟩
 ·rw[hn]at h
  cases h
 ·exact⟨_,g2,rfl⟩
theorem RelH.putOther{M:List Place}{H:Heap}{B:Base}{w:World}(r:RelH M H B w){D:Nat}{ob:Obj}(hD:w.heap[D]? =some ob)(hc:ob.isCells=false)(hz:∀ob,¬FzAt M D ob)(ob' :Obj):RelH M H B (w.putObj D ob'):=
 r.carry (fun i o pl h1 h2 h3=>World.putObj_heap_other (fun e=>by
   obtain⟨x,hx,hx'⟩:=r.cells h1 h2 h3
   rw[e,hD]at hx
   cases hx
   rw[hc]at hx'
   cases hx'))
  (fun k x h=>⟨(World.putObj_heap_other (fun e=>hz x (by rw[←e];exact h))).trans (r.fz k x h).1,(r.fz k x h).2.2⟩) (fun _ _ _ _ _ _ _ h=>h) (fun _ h=>h) (fun _ _ h=>h) (fun _ h=>h)
  (fun k hk=>r.base k (by rwa [World.putObj_size]at hk)) (fun k hk=>r.bf k (by rwa [World.putObj_size]at hk))
def Base.marked(B:Base)(D:Nat):Base:=⟨fun k=>B.w k∧k≠D,B.vis,B.pin,B.f,[mark D]⟩
theorem RelH.marked{M:List Place}{H:Heap}{B:Base}{w:World}(r:RelH M H B w){D:Nat}{ob:Obj}(hD:w.heap[D]? =some ob)(hc:ob.isCells=false)(hz:∀ob,¬FzAt M D ob):RelH M H (B.marked D) w:=by
 have hlt:=(Array.getElem?_eq_some_iff.1 hD).1
 refine r.carry (fun _ _ _ _ _ _=>rfl) (fun k x h=>⟨(r.fz k x h).1,?_⟩) (fun i o pl h1 h2 h3 h4 h=>⟨h,fun e=> ?_⟩) (fun _ h=>h) (fun _ _ h=>h) (fun _ h=>h) (fun k hk=>⟨⟨(r.base k hk).1,by omega⟩,(r.base k hk).2⟩) r.bf
 ·rcases(r.fz k x h).2.2 with g|g
  ·exact .inl ⟨g,fun e=>hz x (by rw[←e];exact h)⟩
  ·exact .inr g
 ·obtain⟨x,hx,hx'⟩:=r.cells h1 h2 h4
  rw[e,hD]at hx
  cases hx
  rw[hc]at hx'
  cases hx'
theorem RelH.unmarked{M:List Place}{H:Heap}{B:Base}{w:World}{D:Nat}(r:RelH M H (B.marked D) w):RelH M H B w:=
 r.rebase (fun _ h=>h.1) (fun _ h=>h) (fun _ _ h=>h) (fun _ _ _ h=>h.imp (fun h=>h.1) id) (fun _ h=>h)
theorem Beneath.mark_kept{B:Base}{D:Nat}{w w' :World}(h:Beneath (B.marked D) w w'){ob:Obj}(hD:w.heap[D]? =some ob):w'.heap[D]? =some ob:=
 (h.block D (Array.getElem?_eq_some_iff.1 hD).1 (fun h=>h.2 rfl)).trans hD
theorem Beneath.unmarked{B:Base}{D:Nat}{w w' :World}(h:Beneath (B.marked D) w w'):Beneath B w w' :=⟨h.os,h.tape,h.output,h.size,fun k hk hn=>h.block k hk (fun h=>hn h.1)⟩
theorem j4x{P:Program}{fn:Func}{tmps:Array Value}{R:Ending→World→Prop}{D:Nat}{w:World}(hD:w.heap[D]? =some (.deferred (some []))){v:Value}
  (hr:(results fn tmps).run P (w.putObj D (.deferred none))= .ok v (w.putObj D (.deferred none))) (hR:R (.returned v) (w.putObj D (.deferred none))):LeavesInM Fence.wide 0 P fn tmps R [mark D] .returning w:=
 ⟨by simp,.inl ⟨D,_,rfl,run_takeDeferred hD,v,hr,hR⟩⟩
variable {ρ:Type}
end Go.AE
namespace Go.AE
open Go Go.RowKit
def itB(O:Nat→Prop)(W:World):Base:=⟨fun k=>O k∨W.heap.size≤k,fun _=>True,fun _ _=>True,fun _=>False,[]⟩
def zt6(H:Heap):Bool:=H.all fun x=>match x with
 |some o=>o.own
 |none=>true
theorem jbz{H:Heap}(h:zt6 H=true){i:Nat}{o:AObj}(ho:H[i]? =some (some o)):o.own=true:=
 List.all_eq_true.1 h (some o) (List.mem_of_getElem? ho)
theorem Beneath.it{O:Nat→Prop}{W W' :World}(h:Beneath (itB O W) W W'):Beneath (OB O) W W' :=
 ⟨h.os,h.tape,h.output,h.size,fun k hk hn=>h.block k hk fun h=>h.elim hn fun h=>absurd hk (by omega)⟩
theorem it_own{M:List Place}{H:Heap}{O:Nat→Prop}{W:World}(r:RelH M H (itB O W) W)(ho:zt6 H=true){i:Nat}{o:AObj}{pl:Place}(h1:H[i]? =some (some o))(h2:M[i]? =some pl)(h3:pl.nil=false):O pl.blk:=by
 obtain⟨pl',hpl',hok⟩:=r.obj i o h1
 rw[h2]at hpl'
 cases hpl'
 rcases hok with⟨h,_⟩|⟨g1,cs,el,fz,g2,g3,g4,g5,g6⟩
 ·rw[h3]at h
  cases h
 ·have hlt:=(Array.getElem?_eq_some_iff.1 g2).1
  rcases(g6 (jbz ho h1)).2.2 with h|h
  ·exact h
  ·omega
theorem j7g{M:List Place}{H:Heap}{O:Nat→Prop}{W W' :World}(r:RelH M H (itB O W) W)(ho:zt6 H=true)(hs:Same O W W')(hz:W.heap.size≤W'.heap.size):RelH M H (itB O W') W' :=
 r.carry (fun i o pl h1 h2 h3=>hs _ (it_own r ho h1 h2 h3))
  (fun k ob h=>by
   have hk:=(r.fz k ob h).1
   have hlt:=(Array.getElem?_eq_some_iff.1 hk).1
   have hO:O k:=(r.fz k ob h).2.2.elim (fun h=>h.elim id fun h=>absurd hlt (by omega)) False.elim
   exact⟨(hs k hO).trans hk,.inl (.inl hO)⟩)
  (fun i o pl h1 h2 h3 h4 _=> .inl (it_own r ho h1 h2 h4)) (fun _ h=>h) (fun _ _ h=>h) (fun _ h=>h) (fun k hk=>⟨.inr hk,trivial⟩) (fun _ _ h=>h)
theorem it_step{M:List Place}{H:Heap}{O:Nat→Prop}{W W' :World}(r:RelH M H (itB O W) W'):RelH M H (itB (grow O W W') W') W' :=by
 have tr:∀k,(O k∨W.heap.size≤k)→grow O W W' k∨W'.heap.size≤k:=fun k h=>by
  by_cases hk:W'.heap.size≤k
  ·exact .inr hk
  ·exact .inl (h.elim .inl fun h=> .inr ⟨h,by omega⟩)
 exact r.carry (fun _ _ _ _ _ _=>rfl) (fun k ob h=>⟨(r.fz k ob h).1,(r.fz k ob h).2.2.elim (fun h=> .inl (tr k h)) False.elim⟩) (fun i o pl h1 h2 h3 h4 h=>tr _ h) (fun _ h=>h) (fun _ _ h=>h) (fun _ h=>h) (fun k hk=>⟨.inr hk,trivial⟩) (fun _ _ h=>h)
theorem jc0{P:Program}{o:Oper}{t l:Nat}{args:Array Operand}{tys:Array TypeId}(ho:o.op= .call {callee:= .value (.tmp t),args:=args,argTypes:=tys}){a:Go.Act}(hv:a.eval (.tmp t)= .func (.yield l) #[] #[])(w:World):
  (execOp a.eval o).run P w=(Instr.yield l (args.map a.eval)).run P w:=by
 have hv2:=hv
 simp[Go.Act.eval]at hv2
 unfold execOp
 rw[ho]
 simp[go_sem,resolve,hv2]
end Go.AE
namespace Go.AE
open Go Go.RowKit
section
variable {P:Program} {ops:Array Oper} {Q:Exit→Go.Act→World→Prop}
theorem operW{Q' :Exit→Go.Act→World→Prop}{o:Oper}{a:Go.Act}{w:World}{K K' :Go.Act→World→Prop}(h:o.wp P a w K Q')(hK:∀a w,K a w→K' a w)(hp:∀ch a w,¬Q' (.panic ch) a w)(hq:¬LetsOut Q'):o.wpIn Fence.wide 0 P a w K' Q:=by
 refine⟨fun f _=>trivial,?_⟩
 show o.uponIn _ 0 P a K' Q ((Oper.semAt none a.eval o).run P w)
 rw[Oper.semAt_none]
 unfold Oper.wp at h
 generalize (execOp a.eval o).run P w=r at h
 cases r with
 |ok nx w' =>
  cases nx with
  |value v=>exact hK _ _ h
  |skip=>exact hK _ _ h
  |defer d=>exact hK _ _ h
  |enter f args=>
   refine⟨fun hd=>by simp[Fence.wide]at hd,callsIn_wide.2 (Calls.mono h fun e w'' h=> ?_)⟩
   cases e with
   |returned v=>exact hK _ _ h
   |panicked ch=>exact absurd h (hp _ _ _)
   |outgrown=>exact absurd h hq
  |row row args=>exact⟨fun hd=>by simp[Fence.wide]at hd,fun c cs _=>let⟨v,w',r,s⟩:=h c cs;⟨v,w',hK _ _ r,stepsIn_wide.2 s⟩⟩
  |_=>exact h.elim
 |halt e w' =>
  cases e with
  |panic v=>exact absurd h (hp _ _ _)
  |_=>exact h.elim
end
end Go.AE
namespace Go.AE
open Go Go.RowKit
theorem RelH.carryT{M:List Place}{H:Heap}{B B' :Base}{w w' :World}(r:RelH M H B w)
  (hpl:∀(i:Nat) (o:AObj) (pl:Place),H[i]? =some (some o)→M[i]? =some pl→pl.nil=false→w'.heap[pl.blk]? =w.heap[pl.blk]? ∧B'.vis pl.blk∧(o.own=true→¬B'.f pl.blk∧(B.w pl.blk→B'.w pl.blk)))
  (hz:∀k ob,FzAt M k ob→w'.heap[k]? =some ob∧B'.vis k∧(B'.w k∨B'.f k))
  (hp:∀k pl,B.pin k pl→B'.pin k pl)
  (hb:∀k,w'.heap.size≤k→B'.w k∧B'.vis k) (hbf:∀k,w'.heap.size≤k→¬B'.f k):RelH M H B' w' :=by
 refine⟨r.len,hb,fun i o ho=> ?_,r.sep,fun i o pl k h1 h2 h3=>hp _ _ (r.pin i o pl k h1 h2 h3),fun i o pl h1 h2 h3=>(hpl i o pl h1 h2 h3).2.1,hz,
  fun i o pl h1 h2 h3 h4=>⟨((hpl i o pl h1 h2 h4).2.2 h3).1,(r.fo i o pl h1 h2 h3 h4).2⟩,hbf⟩
 obtain⟨pl,hpl',hok⟩:=r.obj i o ho
 refine⟨pl,hpl',?_⟩
 rcases hok with hok|⟨g1,cs,el,fz,g2,g3,g4,g5,g6⟩
 ·exact .inl hok
 ·have h:=hpl i o pl ho hpl' g1
  exact .inr ⟨g1,cs,el,fz,h.1.trans g2,g3,g4,g5,fun e=>⟨(g6 e).1,(g6 e).2.1,(h.2.2 e).2 (g6 e).2.2⟩⟩
theorem RelH.lt{M:List Place}{H:Heap}{B:Base}{w:World}(r:RelH M H B w){i:Nat}{o:AObj}{pl:Place}(ho:H[i]? =some (some o))(hp:M[i]? =some pl)(hn:pl.nil=false):pl.blk<w.heap.size:=by
 obtain⟨ob,h,_⟩:=r.cells ho hp hn
 exact(Array.getElem?_eq_some_iff.1 h).1
mutual
def j4y:AV→Bool
 | .fsl _ _ _| .dsl _| .fref _ _ _ _| .dref _ _| .mapc _=>false
 | .fn _ x y=>zcj x&&zcj y
 | .agg cs=>zcj cs
 | .tup xs=>zcj xs
 | .iface _ x=>j4y x
 |_=>true
def zcj:List AV→Bool
 |[]=>true
 |x::r=>j4y x&&zcj r
end
def LikeM(M M' :List Place):Prop:=∀(b:Nat) (pl:Place),M[b]? =some pl→∃z,M'[b]? =some {pl with fz:=z}
mutual
theorem RelX.like{M M' :List Place}(h:LikeM M M'):∀(x:AV) (a:List Value),j4y x=true→RelX M x a→RelX M' x a
 | .undef,a,_,r=>by simpa only[RelX]using r
 | .int k lit x,a,_,r=>by simpa only[RelX]using r
 | .bool lit x,a,_,r=>by simpa only[RelX]using r
 | .str s,a,_,r=>by simpa only[RelX]using r
 | .nilp,a,_,r=>by simpa only[RelX]using r
 | .ptr b base dyn room span,a,_,r=>by
  simp only[RelX]at r⊢
  obtain⟨pl,e,r⟩:=r
  obtain⟨z,hz⟩:=h _ _ e
  exact⟨_,hz,r⟩
 | .rptr b off room,a,_,r=>by
  simp only[RelX]at r⊢
  obtain⟨pl,e,r⟩:=r
  obtain⟨z,hz⟩:=h _ _ e
  exact⟨_,hz,r⟩
 | .sl b off len sz c,a,_,r=>by
  simp only[RelX]at r⊢
  obtain⟨pl,A,cap,e,r⟩:=r
  obtain⟨z,hz⟩:=h _ _ e
  exact⟨_,A,cap,hz,r⟩
 | .nils,a,_,r=>by simpa only[RelX]using r
 | .fn f first cap,a,n,r=>by
  simp only[RelX]at r⊢
  simp only[j4y,yl]at n
  obtain⟨x,y,e,r1,r2⟩:=r
  exact⟨x,y,e,RelL.like h _ _ n.1 r1,RelL.like h _ _ n.2 r2⟩
 | .nilf,a,_,r=>by simpa only[RelX]using r
 | .agg cs,a,n,r=>by
  simp only[RelX]at r⊢
  simp only[j4y]at n
  obtain⟨x,e,r1⟩:=r
  exact⟨x,e,RelC.like h _ _ n r1⟩
 | .is k n l,a,_,r=>by simpa only[RelX]using r
 | .tup xs,a,n,r=>by
  simp only[RelX]at r⊢
  simp only[j4y]at n
  obtain⟨x,e,r1⟩:=r
  exact⟨x,e,RelL.like h _ _ n r1⟩
 | .iface t x,a,n,r=>by
  simp only[RelX]at r⊢
  simp only[j4y]at n
  obtain⟨y,e,r1⟩:=r
  exact⟨y,e,RelX.like h _ _ n r1⟩
 | .niface,a,_,r=>by simpa only[RelX]using r
 | .fsl k sz l,a,n,r=>by cases n
 | .dsl d,a,n,r=>by cases n
 | .fref k l off room,a,n,r=>by cases n
 | .dref d off,a,n,r=>by cases n
 | .mapc i,a,n,r=>by cases n
 | .mp b,a,_,r=>by simpa only[RelX]using r
 | .itr b,a,_,r=>by simpa only[RelX]using r
 | .yld l,a,_,r=>by simpa only[RelX]using r
theorem RelL.like{M M' :List Place}(h:LikeM M M'):∀(xs:List AV) (a:List Value),zcj xs=true→RelL M xs a→RelL M' xs a
 |[],a,_,r=>by simpa only[RelL]using r
 |x::xs,a,n,r=>by
  simp only[RelL]at r⊢
  simp only[zcj,yl]at n
  obtain⟨v,t,e,r1,r2⟩:=r
  exact⟨v,t,e,RelX.like h _ _ n.1 r1,RelL.like h _ _ n.2 r2⟩
theorem RelC.like{M M' :List Place}(h:LikeM M M'):∀(xs:List AV) (a:List Value),zcj xs=true→RelC M xs a→RelC M' xs a
 |[],a,_,r=>by simpa only[RelC]using r
 |x::xs,a,n,r=>by
  simp only[RelC]at r⊢
  simp only[zcj,yl]at n
  obtain⟨v,t,e,r1,r2⟩:=r
  exact⟨v,t,e,RelX.like h _ _ n.1 r1,RelC.like h _ _ n.2 r2⟩
end
def noFzC:Cont→Bool
 | .segs cs=>zcj cs
 | .row _ _=>true
 | .drow _=>false
def itSt(st:St):Bool:=zcj st.tmps&&st.heap.all fun x=>match x with
 |some o=>o.own&&noFzC o.c
 |none=>true
theorem jc1{st:St}(h:itSt st=true){i:Nat}{o:AObj}(ho:st.heap[i]? =some (some o)):o.own=true∧noFzC o.c=true:=by
 simp only[itSt,yl]at h
 have:=List.all_eq_true.1 h.2 (some o) (List.mem_of_getElem? ho)
 simpa using this
def qwp(M:List Place):List Place:=M.map fun p=>{p with fz:=noFz}
theorem zi7{M:List Place}{b:Nat}{pl:Place}(h:(qwp M)[b]? =some pl):∃p,M[b]? =some p∧pl={p with fz:=noFz}:=by
 simp only[qwp,List.getElem?_map,yi]at h
 obtain⟨p,h1,h2⟩:=h
 exact⟨p,h1,h2.symm⟩
theorem zi8(M:List Place):LikeM M (qwp M):=fun b pl h=>⟨noFz,by simp[qwp,h]⟩
theorem j0v{M:List Place}{k:Nat}{ob:Obj}:¬FzAt (qwp M) k ob:=fun⟨i,pl,h,e⟩=>by
 obtain⟨p,_,rfl⟩:=zi7 h
 cases e
theorem it_base{M:List Place}{st:St}{B:Base}{w:World}{O:Nat→Prop}(r:RelH M st.heap B w)(hs:itSt st=true)
  (hO:∀(i:Nat) (o:AObj) (pl:Place),st.heap[i]? =some (some o)→M[i]? =some pl→pl.nil=false→O pl.blk):RelH (qwp M) st.heap (itB O w) w:=by
 refine⟨by rw[r.len];simp[qwp],fun k hk=>⟨.inr hk,trivial⟩,fun i o ho=> ?_,fun i j oi oj pi pj h1 h2 h3 h4 h5 h6 h7 h8=> ?_,fun _ _ _ _ _ _ _=>trivial,fun _ _ _ _ _ _=>trivial,fun k ob h=>absurd h j0v,fun _ _ _ _ _ _ _=>⟨id,fun ob h=>j0v h⟩,fun _ _ h=>h⟩
 ·obtain⟨pl,hpl,hok⟩:=r.obj i o ho
  refine⟨{pl with fz:=noFz},by simp[qwp,hpl],?_⟩
  have hc:=(jc1 hs ho).2
  have rel:∀l,RelO M o.c l→RelO (qwp M) o.c l:=fun l h=>by
   cases hcc:o.c with
   |segs cs=>
    rw[hcc]at h hc
    exact RelC.like (zi8 M) _ _ hc h
   |row k l' =>
    rw[hcc]at h
    exact h
   |drow d=>
    rw[hcc]at hc
    cases hc
  rcases hok with⟨g1,g2,g3⟩|⟨g1,cs,el,fz,g2,g3,g4,g5,g6⟩
  ·exact .inl ⟨g1,g2,rel _ g3⟩
  ·exact .inr ⟨g1,cs,el,fz,g2,g3,g4,rel _ g5,fun e=>⟨(g6 e).1,(g6 e).2.1,.inl (hO i o pl ho hpl g1)⟩⟩
 ·obtain⟨p,hp,rfl⟩:=zi7 h3
  obtain⟨q,hq,rfl⟩:=zi7 h4
  exact r.sep i j oi oj p q h1 h2 hp hq h5 h6 h7 h8
def j7h{α:Type}(P:Program)(gf:FuncId)(encs:α→Array Value)(ok:α→Prop)(n:Nat)(ins:List Item)(F:D (tysI ins [])→Option (List α)):Prop:=
 ∀d xs,F d=some xs→∀(M:List Place) (w:World) (O0:Nat→Prop) (lb:Array Value),RelL M (bldS n ins d).tmps lb.toList→RelH M (bldS n ins d).heap (itB O0 w) w→(∀k,O0 k→k<w.heap.size)→ItAt P gf lb encs ok xs O0 w
def RB(B:Base)(n0:Nat)(O:Nat→Prop):Base:=⟨fun k=>B.w k∧¬O k∧¬(n0≤k∧k<n0+2),fun k=>B.vis k∧¬O k,B.pin,B.f,[]⟩
section
variable {α DI DX:Type}
def runL(step:α→DI→Option (DI⊕DX)):List α→DI→Option (DI⊕DX)
 |[],d=>some (.inl d)
 |x::r,d=>match step x d with
  |some (.inl d')=>runL step r d'
  |some (.inr e)=>some (.inr e)
  |none=>none
end
def jc2(ts:List AV):List Nat→List AV→List AV
 |p::ps,x::xs=>jc2 (ts.set p x) ps xs
 |_,_=>ts
theorem j0w{M:List Place}:∀{ps:List Nat} {xs:List AV} {vs:List Value} {ts:List AV} {a:Array Value},RelL M xs vs→RelT M ts a→RelT M (jc2 ts ps xs) ((ps.zip vs).foldl (fun t (p,v)=>t.setIfInBounds p v) a)
 |[],xs,vs,ts,a,_,h=>by cases xs<;>exact h
 |p::ps,[],vs,ts,a,hx,h=>by
  rw[RelL_nil]at hx
  subst hx
  exact h
 |p::ps,x::xs,vs,ts,a,hx,h=>by
  obtain⟨v,r,rfl,h1,h2⟩:=RelL_cons.1 hx
  simp only[List.zip_cons_cons,List.foldl_cons,jc2]
  exact j0w h2 (h.put h1 p)
def kR(nt:Nat)(its outX:List Item)(eX:Exit)(ts:List AV):Exit→St→Option (D (tysI its [])⊕D (tysI outX [])):=fun e st=>match e with
 | .normal=>(extS nt its ⟨ts,st.heap⟩).bind fun d=>some (.inl d)
 | .exit j=>(match eX with
  | .exit i=>if j=i then(extS nt outX ⟨ts,st.heap⟩).bind fun d=>some (.inr d)else none
  |_=>none)
 | .ret=>(match eX with
  | .ret=>(extS nt outX ⟨ts,st.heap⟩).bind fun d=>some (.inr d)
  |_=>none)
 |_=>none
def jc3(P:Program)(cal:Cals)(qcal:QCals)(nt:Nat)(its outX:List Item)(eX:Exit)(ps:List Nat)(assign body:Code)(xs:List AV)(d:D (tysI its [])):Option (D (tysI its [])⊕D (tysI outX [])):=
 q2t P (cal _) (qcal _) (fun _=>none) assign ⟨jc2 (bldS nt its d).tmps ps xs,(bldS nt its d).heap⟩ fun e st=>match e with
  | .normal=>q2t P (cal _) (qcal _) (fun _=>none) body st (kR nt its outX eX (bldS nt its d).tmps)
  |_=>none
def exitC:Exit→Code
 | .exit i=> .exit i
 | .ret=> .ret
 |_=> .skip
theorem j7i{M:List Place}{H:Heap}{B:Base}{n0:Nat}{O:Nat→Prop}{W W' :World}(r:RelH M H (RB B n0 O) W)(hO:∀k,O k→k<W.heap.size)(hn:n0+2≤W.heap.size)(hB:Beneath (OB O) W W'):RelH M H (RB B n0 (grow O W W')) W' :=by
 have hz:=hB.size
 refine r.carryT (fun i o pl h1 h2 h3=> ?_) (fun k ob h=> ?_) (fun _ _ h=>h) (fun k hk=> ?_) (fun k hk=>r.bf k (by omega))
 ·have hlt:=r.lt h1 h2 h3
  have hv:=r.vis i o pl h1 h2 h3
  refine⟨hB.block _ hlt hv.2,⟨hv.1,fun h=>h.elim hv.2 fun h=>by omega⟩,fun ho=>⟨(r.fo i o pl h1 h2 ho h3).1,fun h=>⟨h.1,fun g=>g.elim hv.2 fun h=>by omega,h.2.2⟩⟩⟩
 ·obtain⟨h1,h2,h3⟩:=r.fz k ob h
  have hlt:=(Array.getElem?_eq_some_iff.1 h1).1
  exact⟨(hB.block _ hlt h2.2).trans h1,⟨h2.1,fun h=>h.elim h2.2 fun h=>by omega⟩,h3.imp (fun h=>⟨h.1,fun g=>g.elim h2.2 fun h=>by omega,h.2.2⟩) id⟩
 ·have hb:=r.base k (by omega)
  have hno:¬grow O W W' k:=fun h=>h.elim (fun h=>by have:=hO k h;omega) fun h=>by omega
  exact⟨⟨hb.1.1,hno,by omega⟩,hb.2.1,hno⟩
theorem jc4{M:List Place}{H:Heap}{B:Base}{n0:Nat}{O:Nat→Prop}{W:World}(r:RelH M H (RB B n0 O) W):RelH M H B W:=
 r.rebase (fun _ h=>h.1) (fun _ h=>h.1) (fun _ _ h=>h) (fun _ _ _ h=>h.imp (fun h=>h.1) id) (fun _ h=>h)
theorem jc5{M:List Place}{H:Heap}{B:Base}{n0:Nat}{O:Nat→Prop}{W:World}(r:RelH M H (RB B n0 O) W)(hf:∀k,n0≤k→¬B.f k){l:Nat}{o o' :Obj}(h1:n0≤l)(h2:l<n0+2)(hl:W.heap[l]? =some o)(hc:o.isCells=false):RelH M H (RB B n0 O) (W.putObj l o'):=
 r.putOther hl hc (fun ob h=>(r.fz l ob h).2.2.elim (fun h=>h.2.2 ⟨h1,h2⟩) (hf l h1)) o'
theorem Beneath.put{B:Base}{w0 W:World}(h:Beneath B w0 W){l:Nat}(hl:w0.heap.size≤l)(o:Obj):Beneath B w0 (W.putObj l o):=
 ⟨h.os,h.tape,h.output,by rw[World.putObj_size];exact h.size,fun k hk hn=>(World.putObj_heap_other (by omega)).trans (h.block k hk hn)⟩
theorem Beneath.rb{B:Base}{n0:Nat}{O:Nat→Prop}{W W' :World}(h:Beneath (RB B n0 O) W W'):Beneath B W W' :=⟨h.os,h.tape,h.output,h.size,fun k hk hn=>h.block k hk fun h=>hn h.1⟩
theorem Beneath.ob{B:Base}{O:Nat→Prop}{W W' :World}(h:Beneath (OB O) W W')(hO:∀k,O k→B.w k):Beneath B W W' :=⟨h.os,h.tape,h.output,h.size,fun k hk hn=>h.block k hk fun h=>hn (hO k h)⟩
theorem Beneath.kept{B:Base}{n0:Nat}{O:Nat→Prop}{W W' :World}(h:Beneath (RB B n0 O) W W')(hn:n0+2≤W.heap.size):Kept n0 W W' :=⟨h.size,fun k h1 h2=>h.block k (by omega) fun h=>h.2.2 ⟨h1,h2⟩⟩
theorem Beneath.sameO{B:Base}{n0:Nat}{O:Nat→Prop}{W W' :World}(h:Beneath (RB B n0 O) W W')(hO:∀k,O k→k<W.heap.size):Same O W W' :=fun k hk=>h.block k (hO k hk) fun h=>h.2.1 hk
structure Between (B:Base) (w0:World) (n0:Nat) (O:Nat→Prop) (W:World):Prop where
 n:n0+2≤W.heap.size
 o:∀k,O k→k<W.heap.size∧B.w k
 below:Beneath B w0 W
theorem Between.step{B:Base}{w0:World}{n0:Nat}{O:Nat→Prop}{W W' :World}(h:Between B w0 n0 O W)(hb:∀k,W.heap.size≤k→B.w k)(hB:Beneath (OB O) W W'):Between B w0 n0 (grow O W W') W' :=
 ⟨Nat.le_trans h.n hB.size,fun k hk=>hk.elim (fun g=>⟨Nat.lt_of_lt_of_le (h.o k g).1 hB.size,(h.o k g).2⟩) fun g=>⟨g.2,hb k g.1⟩,h.below.trans (hB.ob fun k hk=>(h.o k hk).2)⟩
theorem Between.put{B:Base}{w0:World}{n0:Nat}{O:Nat→Prop}{W:World}(h:Between B w0 n0 O W)(hn:w0.heap.size≤n0){l:Nat}(hl:n0≤l)(o:Obj):Between B w0 n0 O (W.putObj l o):=
 ⟨by rw[World.putObj_size];exact h.n,fun k hk=>by rw[World.putObj_size];exact h.o k hk,h.below.put (by omega) o⟩
theorem Between.round{B:Base}{w0:World}{n0:Nat}{O:Nat→Prop}{W W' :World}(h:Between B w0 n0 O W)(hB:Beneath (RB B n0 O) W W'):Between B w0 n0 O W' :=
 ⟨Nat.le_trans h.n hB.size,fun k hk=>⟨Nat.lt_of_lt_of_le (h.o k hk).1 hB.size,(h.o k hk).2⟩,h.below.trans hB.rb⟩
theorem j4z{P:Program}(hP:q0u P){cal:Cals}(hcal:∀σ f,qex P f (cal σ f)){qcal:QCals}(hq:∀σ f,qb3 P f (qcal σ f)){α:Type}{g:Operand}{ps:Array Tmp}{assign body:Code}{Q:Exit→Go.Act→World→Prop}{a:Go.Act}{w:World}
  {gf:Nat} {lb:Array Value} (hg:a.eval g= .func (.func gf) #[] lb) (eg:∀args w,(callFunc gf args).run P w= .ok (.enter gf args) w)
  {encs:α→Array Value} {enc:α→List AV} {ok:α→Prop} {xs:List α} {O0:Nat→Prop} (hit:ItAt P gf lb encs ok xs O0 w) (hps:∀x,(encs x).size=ps.size) (henc:∀x,ok x→∀M,RelL M (enc x) (encs x).toList)
  (hca:calm assign=true) (hcb:calm body=true) {nt:Nat} {its outX:List Item} {eX:Exit} {step:α→D (tysI its [])→Option (D (tysI its [])⊕D (tysI outX []))}
  (hs:∀x d,jc3 P cal qcal nt its outX eX ps.toList assign body (enc x) d=step x d) {B:Base} {w0:World} (hw0:w0.heap.size≤w.heap.size) (hbf:∀k,w.heap.size≤k→¬B.f k)
  {d:D (tysI its [])} {r:D (tysI its [])⊕D (tysI outX [])} (hr:runL step xs d=some r)
  (hO:∀k,O0 k→k<w.heap.size∧B.w k) {M:List Place} (hT:RelT M (bldS nt its d).tmps a.tmps)
  (hH:∀W,Below w.heap.size w W→w.heap.size+2≤W.heap.size→RelH M (bldS nt its d).heap (RB B w.heap.size O0) W) (hB:Beneath B w0 w)
  (hdone:∀d' M' W,r= .inl d' →RelT M' (bldS nt its d').tmps a.tmps→RelH M' (bldS nt its d').heap B W→Beneath B w0 W→W.heap[w.heap.size]? =some (.deferred (some []))→(∀ob,¬FzAt M' w.heap.size ob)→Q .normal {a with defers:=mark w.heap.size::a.defers} W)
  (hstop:∀d' M' W,r= .inr d' →RelT M' (bldS nt outX d').tmps a.tmps→RelH M' (bldS nt outX d').heap B W→Beneath B w0 W→W.heap[w.heap.size]? =some (.deferred (some []))→(∀ob,¬FzAt M' w.heap.size ob)→(exitC eX).wpIn Fence.wide 0 P Q {a with defers:=mark w.heap.size::a.defers} W):
  (Code.rangeFunc g ps assign body).wpIn Fence.wide 0 P Q a w:=by
 have noFzD:∀{M' :List Place} {H:Heap} {O:Nat→Prop} {W:World},RelH M' H (RB B w.heap.size O) W→∀ob,¬FzAt M' w.heap.size ob:=fun r ob h=>(r.fz _ ob h).2.2.elim (fun h=>h.2.2 ⟨by omega,by omega⟩) (hbf _ (wa _))
 refine j9d hg eg hit (fun k hk=>(hO k hk).1) hps
  (fun pre O W=>Between B w0 w.heap.size O W∧∃d' M' rest,xs=pre++rest∧runL step rest d' =some r∧RelT M' (bldS nt its d').tmps a.tmps∧RelH M' (bldS nt its d').heap (RB B w.heap.size O) W)
  (fun c pre O W=>c=exitC eX∧Between B w0 w.heap.size O W∧∃d' M',r= .inr d' ∧RelT M' (bldS nt outX d').tmps a.tmps∧RelH M' (bldS nt outX d').heap (RB B w.heap.size O) W)
  ?_ ?_ ?_ ?_ ?_
  (fun pre x O a' W=>Between B w0 w.heap.size O W∧∃d' M' st' rest y,xs=pre++x::rest∧q2t P (cal _) (qcal _) (fun _=>none) body st' (kR nt its outX eX (bldS nt its d').tmps)=some y∧(∀d2,y= .inl d2→runL step rest d2=some r)∧(∀d2,y= .inr d2→r= .inr d2)∧
   RelT M' (bldS nt its d').tmps a.tmps∧RelT M' st'.tmps a'.tmps∧a'.defers=[]∧RelH M' st'.heap (RB B w.heap.size O) W)
  ?_ ?_ ?_ ?_ ?_
 ·rintro pre O W W' ⟨hb,d',M',rest,h1,h2,h3,h4⟩ hB
  exact⟨hb.step (fun k hk=>(h4.base k hk).1.1) hB,d',M',rest,h1,h2,h3,j7i h4 (fun k hk=>(hb.o k hk).1) hb.n hB⟩
 ·rintro c pre O W W' ⟨hc,hb,d',M',h1,h3,h4⟩ hB
  exact⟨hc,hb.step (fun k hk=>(h4.base k hk).1.1) hB,d',M',h1,h3,j7i h4 (fun k hk=>(hb.o k hk).1) hb.n hB⟩
 ·rintro pre O W l o o' ⟨hb,d',M',rest,h1,h2,h3,h4⟩ g1 g2 g3 g4
  exact⟨hb.put hw0 g1 o',d',M',rest,h1,h2,h3,jc5 h4 hbf g1 g2 g3 g4⟩
 ·rintro c pre O W l o o' ⟨hc,hb,d',M',h1,h3,h4⟩ g1 g2 g3 g4
  exact⟨hc,hb.put hw0 g1 o',d',M',h1,h3,jc5 h4 hbf g1 g2 g3 g4⟩
 ·intro W hW hn
  exact⟨⟨hn,fun k hk=>⟨Nat.lt_of_lt_of_le (hO k hk).1 hW.size,(hO k hk).2⟩,hB.trans (Beneath.of hW)⟩,d,M,xs,rfl,hr,hT,hH W hW hn⟩
 ·rintro pre x O a' W l o o' ⟨hb,d',M',st',rest,y,h1,h2,h3,h4,h5,h6,h7,h8⟩ g1 g2 g3 g4
  exact⟨hb.put hw0 g1 o',d',M',st',rest,y,h1,h2,h3,h4,h5,h6,h7,jc5 h8 hbf g1 g2 g3 g4⟩
 ·rintro l pre x rest O W hx hok ⟨hb,d',M',rest',h1,h2,h3,h4⟩
  have hrest:rest' =x::rest:=by
   rw[hx]at h1
   exact(List.append_cancel_left h1).symm
  subst hrest
  unfold runL at h2
  have hy:∃y,step x d' =some y∧(∀d2,y= .inl d2→runL step rest d2=some r)∧(∀d2,y= .inr d2→r= .inr d2):=by
   cases hst:step x d' with
   |none=>rw[hst]at h2;cases h2
   |some y=>
    rw[hst]at h2
    cases y with
    |inl d2=>exact⟨_,rfl,fun d3 e=>(by cases e;exact h2),fun d3 e=>(by cases e)⟩
    |inr d2=>exact⟨_,rfl,fun d3 e=>(by cases e),fun d3 e=>(by cases e;simpa using h2.symm)⟩
  obtain⟨y,hy,hy1,hy2⟩:=hy
  rw[←hs]at hy
  have ht1:RelT M' (jc2 (bldS nt its d').tmps ps.toList (enc x)) ((ps.zip (encs x)).foldl (fun t (p,v)=>t.setIfInBounds p v) a.tmps):=by
   have h:=j0w (ps:=ps.toList) (henc x hok M') h3
   rw[←Array.toList_zip,Array.foldl_toList]at h
   exact h
  refine z52 hP (hcal _) (hq _) assign hca _ _ hy M' _ W _ ⟨ht1,rfl,h4,Beneath.refl _ _⟩ fun e M2 st2 a2 W2 hE hk hr2=> ?_
  cases e<;>simp only[reduceCtorEq]at hk
  exact⟨hr2.below.kept hb.n,hr2.below.sameO (fun k hk=>(hb.o k hk).1),hb.round hr2.below,d',M2,st2,rest,y,hx,hk,hy1,hy2,h3.mono hE,hr2.tmps,hr2.defers,hr2.heap⟩
 ·rintro l pre x rest O a' W hx ⟨hb,d',M',st',rest',y,h1,h2,h3,h4,h5,h6,h7,h8⟩
  have hrest:rest' =rest:=by
   rw[hx]at h1
   exact(List.cons.inj (List.append_cancel_left h1)).2.symm
  subst hrest
  refine z52 hP (hcal _) (hq _) body hcb _ _ h2 M' _ W _ ⟨h6,h7,h8,Beneath.refl _ _⟩ fun e M2 st2 a2 W2 hE hk hr2=> ?_
  have hb2:=hb.round hr2.below
  have k2:=hr2.below.kept hb.n
  have s2:=hr2.below.sameO (fun k hk=>(hb.o k hk).1)
  have rel2:Rel M2 ⟨(bldS nt its d').tmps,st2.heap⟩ (RB B w.heap.size O) W {tmps:=a.tmps,defers:=[]} W2:=⟨h5.mono hE,rfl,hr2.heap,hr2.below⟩
  have stop:∀{c:Code},c=exitC eX→(extS nt outX ⟨(bldS nt its d').tmps,st2.heap⟩).bind (fun d=>(some (.inr d):Option (D (tysI its [])⊕D (tysI outX []))))=some y→Kept w.heap.size W W2∧Same O W W2∧(c=exitC eX∧Between B w0 w.heap.size O W2∧∃d' M',r= .inr d' ∧RelT M' (bldS nt outX d').tmps a.tmps∧RelH M' (bldS nt outX d').heap (RB B w.heap.size O) W2):=by
   intro c hc hk
   simp only[Option.bind_eq_some_iff,yf]at hk
   obtain⟨d2,hd2,rfl⟩:=hk
   obtain⟨M3,hr3⟩:=qg2 rel2 hd2
   exact⟨k2,s2,hc,hb2,d2,M3,h4 _ rfl,hr3.tmps,hr3.heap⟩
  cases e with
  |normal=>
   simp only[kR,Option.bind_eq_some_iff,yf]at hk
   obtain⟨d2,hd2,rfl⟩:=hk
   obtain⟨M3,hr3⟩:=qg2 rel2 hd2
   exact⟨k2,s2,hb2,d2,M3,rest',by rw[hx];simp,h3 _ rfl,hr3.tmps,hr3.heap⟩
  |exit j=>
   simp only[kR]at hk
   split at hk
   ·split at hk
    ·rename_i i hj
     subst hj
     exact stop rfl hk
    ·cases hk
   ·cases hk
  |ret=>
   simp only[kR]at hk
   split at hk
   ·exact stop rfl hk
   ·cases hk
  |goto t=>simp only[kR]at hk;cases hk
  |panic ch=>simp only[kR]at hk;cases hk
  |outgrown=>simp only[kR]at hk;cases hk
 ·rintro O W ⟨hb,d',M',rest,h1,h2,h3,h4⟩ hD
  have hrest:rest=[]:=by
   have:=congrArg ya h1
   simp at this
   exact this
  subst hrest
  simp only[runL,yf]at h2
  exact hdone d' M' W h2.symm h3 (jc4 h4) hb.below hD (noFzD h4)
 ·rintro c pre O W _ ⟨rfl,hb,d',M',h1,h3,h4⟩ hD
  exact hstop d' M' W h1 h3 (jc4 h4) hb.below hD (noFzD h4)
end Go.AE
namespace Go.AE
open Go Go.RowKit
def qdd:Code→List Code
 | .seq x y=>qdd x++qdd y
 |c=>[c]
section
variable {P:Program} {Q:Exit→Go.Act→World→Prop}
def WL(P:Program)(Q:Exit→Go.Act→World→Prop):List Code→Go.Act→World→Prop
 |[],a,w=>Q .normal a w
 |c::r,a,w=>c.wpIn Fence.wide 0 P (Exit.then (WL P Q r) Q) a w
theorem qti{c:Code}{r:List Code}{a:Go.Act}{w:World}:∀(h:qdd c=[c]) (_:WL P Q (qdd c++r) a w),c.wpIn Fence.wide 0 P (Exit.then (WL P Q r) Q) a w:=fun h k=>by
 rw[h]at k
 exact k
theorem jc6:∀(c:Code) (r:List Code) (a:Go.Act) (w:World),WL P Q (qdd c++r) a w→c.wpIn Fence.wide 0 P (Exit.then (WL P Q r) Q) a w
 | .seq x y,r,a,w,h=>by
  unfold qdd at h
  rw[List.append_assoc]at h
  refine wpIn_seq (wpIn_mono (jc6 x _ a w h) fun e a' w' h=> ?_)
  cases e with
  |normal=>exact jc6 y r a' w' h
  |_=>exact h
 | .skip,r,a,w,h=>qti (by simp[qdd]) h
 | .region _ _ _,r,a,w,h=>qti (by simp[qdd]) h
 | .cond _ _ _,r,a,w,h=>qti (by simp[qdd]) h
 | .block _ _,r,a,w,h=>qti (by simp[qdd]) h
 | .loop _,r,a,w,h=>qti (by simp[qdd]) h
 | .exit _,r,a,w,h=>qti (by simp[qdd]) h
 | .ret,r,a,w,h=>qti (by simp[qdd]) h
 | .label _,r,a,w,h=>qti (by simp[qdd]) h
 | .goto _,r,a,w,h=>qti (by simp[qdd]) h
 | .scope _,r,a,w,h=>qti (by simp[qdd]) h
 | .rangeFunc _ _ _ _,r,a,w,h=>qti (by simp[qdd]) h
 | .refuse _,r,a,w,h=>qti (by simp[qdd]) h
theorem wl_code{c:Code}{a:Go.Act}{w:World}(h:WL P Q (qdd c) a w):c.wpIn Fence.wide 0 P Q a w:=by
 refine wpIn_mono (jc6 c [] a w (by simpa using h)) fun e a' w' h=> ?_
 cases e<;>exact h
end
variable {ρ:Type}
def evL(P:Program)(cal:Cal ρ)(qcal:QCal ρ):List Code→St→(Exit→St→Option ρ)→Option ρ
 |[],st,K=>K .normal st
 |c::r,st,K=>q2t P cal qcal (fun _=>none) c st fun e st' =>match e with
  | .normal=>evL P cal qcal r st' K
  |e=>K e st'
theorem zi9{P:Program}(hP:q0u P){cal:Cal ρ}(hcal:∀f,qex P f (cal f)){qcal:QCal ρ}(hq:∀f,qb3 P f (qcal f)){B:Base}{w0:World}{r:ρ}{Q:Exit→Go.Act→World→Prop}{more:List Code}:
  ∀(l:List Code) (st:St) (K:Exit→St→Option ρ),evL P cal qcal l st K=some r→∀(M:List Place) (a:Go.Act) (w:World),Rel M st B w0 a w→
   (∀e M' st' a' w',K e st' =some r→Rel M' st' B w0 a' w' →Exit.then (WL P Q more) Q e a' w')→WL P Q (l++more) a w
 |[],st,K,h,M,a,w,hr,hn=>hn .normal M st a w h hr
 |c::l,st,K,h,M,a,w,hr,hn=>by
  show c.wpIn Fence.wide 0 P (Exit.then (WL P Q (l++more)) Q) a w
  refine wpIn_wide.2 (qcm hP hcal hq c (fun _ _ _ h=>by cases h) st _ h M a w _ hr fun e M' st' a' w' (_:ExtO true M M') hk hr' => ?_)
  cases e with
  |normal=>exact zi9 hP hcal hq l st' K hk M' a' w' hr' hn
  |exit id=>exact hn (.exit id) M' st' a' w' hk hr'
  |goto l=>exact hn (.goto l) M' st' a' w' hk hr'
  |ret=>exact hn .ret M' st' a' w' hk hr'
  |panic ch=>exact hn (.panic ch) M' st' a' w' hk hr'
  |outgrown=>exact hn .outgrown M' st' a' w' hk hr'
def kEnd(P:Program)(fn:Func)(K:List AV→Heap→Option ρ):Exit→St→Option ρ:=fun e st=>match e with
 | .normal| .ret=>match qwl P st fn.results.toList with
  |some l=>K l st.heap
  |none=>none
 |_=>none
def EndR(B:Base)(w0:World)(K:List AV→Heap→Option ρ)(r:ρ):Ending→World→Prop:=fun e w' =>
 ∃(rs:Array Value) (l:List AV) (H' :Heap) (M' :List Place),e= .returned (retV rs)∧K l H' =some r∧RelL M' l rs.toList∧RelH M' H' B w' ∧Beneath B w0 w'
theorem z53{P:Program}{fn:Func}{K:List AV→Heap→Option ρ}{r:ρ}{e:Exit}{st:St}(h:kEnd P fn K e st=some r){M:List Place}{B:Base}{w0:World}{a:Go.Act}{w:World}(hr:Rel M st B.clean w0 a w):
  bodyPostM Fence.wide 0 P fn (EndR B w0 K r) e a w:=by
 have fin:(match qwl P st fn.results.toList with|some l=>K l st.heap|none=>none)=some r→LeavesInM Fence.wide 0 P fn a.tmps (EndR B w0 K r) a.defers .returning w:=by
  intro h
  split at h
  ·rename_i l hl
   obtain⟨rs,h1,h2⟩:=qkl (fn:=fn) hr.tmps hr.heap hl
   have hd:a.defers=[]:=hr.defers
   rw[hd]
   exact⟨retV rs,h2,rs,l,st.heap,M,rfl,h,h1,hr.heap.unclean,hr.below.unclean⟩
  ·cases h
 cases e<;>simp only[kEnd,reduceCtorEq]at h
 case normal=>exact fin h
 case ret=>exact fin h
theorem zia{P:Program}{fn:Func}{K:List AV→Heap→Option ρ}{r:ρ}{e:Exit}{st:St}(h:kEnd P fn K e st=some r){M:List Place}{B:Base}{w0 w1:World}{a:Go.Act}{w:World}{D:Nat}(hr:Rel M st (B.marked D) w1 a w)
  (hD:w1.heap[D]? =some (.deferred (some []))) (hBf:¬B.f D) (hD0:w0.heap.size≤D) (hB:Beneath B w0 w1):bodyPostM Fence.wide 0 P fn (EndR B w0 K r) e a w:=by
 have fin:(match qwl P st fn.results.toList with|some l=>K l st.heap|none=>none)=some r→LeavesInM Fence.wide 0 P fn a.tmps (EndR B w0 K r) a.defers .returning w:=by
  intro h
  split at h
  ·rename_i l hl
   have hD' :=hr.below.mark_kept hD
   have hz' :∀ob,¬FzAt M D ob:=fun ob h=>(hr.heap.fz D ob h).2.2.elim (fun h=>h.2 rfl) hBf
   have hH2:RelH M st.heap B (w.putObj D (.deferred none)):=hr.heap.unmarked.putOther hD' rfl hz' _
   obtain⟨rs,h1,h2⟩:=qkl hr.tmps hH2 hl
   have hB2:Beneath B w0 (w.putObj D (.deferred none)):=(hB.trans hr.below.unmarked).put hD0 _
   have hde:a.defers=[mark D]:=hr.defers
   rw[hde]
   exact j4x hD' h2 ⟨rs,l,_,M,rfl,h,h1,hH2,hB2⟩
  ·cases h
 cases e<;>simp only[kEnd,reduceCtorEq]at h
 case normal=>exact fin h
 case ret=>exact fin h
def killL(H:Heap)(bs:List Nat):Heap:=bs.foldl (fun H b=>H.set b none) H
theorem j7j:∀{bs:List Nat} {H:Heap} {i:Nat} {o:AObj},(killL H bs)[i]? =some (some o)→i∉bs∧H[i]? =some (some o)
 |[],H,i,o,h=>⟨by simp,h⟩
 |b::bs,H,i,o,h=>by
  obtain⟨h1,h2⟩:=j7j (bs:=bs) (H:=H.set b none) h
  rcases z4x h2 with⟨_,h3⟩|⟨h3,h4⟩
  ·cases h3
  ·exact⟨by simp[h1,Ne.symm h3],h4⟩
theorem RelH.killL{M:List Place}{B:Base}{w:World}:∀{bs:List Nat} {H:Heap},RelH M H B w→RelH M (AE.killL H bs) B w
 |[],H,r=>r
 |b::bs,H,r=>RelH.killL (bs:=bs) (r.kill b)
def itBs(args:List AV)(H:Heap)(ins:List Item):List Nat:=(zoq::qkk ⟨args,H⟩ false ins).filterMap fun ac=>if ac.own=true then ac.id else none
def evRng{α:Type}(gf g ni:Nat)(insI:List Item)(FI:D (tysI insI [])→Option (List α))(nt:Nat)(its outX:List Item)(step:α→D (tysI its [])→Option (D (tysI its [])⊕D (tysI outX [])))
  (st:St) (Kn:D (tysI its [])→Option ρ) (Kx:D (tysI outX [])→Option ρ):Option ρ:=
 match st.tmps.getD g .undef with
 | .fn gf' [] caps=>if gf' =gf then
   match extA ni insI caps st.heap with
   |some di=>(FI di).bind fun xs=>(extS nt its ⟨st.tmps,killL st.heap (itBs caps st.heap insI)⟩).bind fun d=>(runL step xs d).bind fun r=>match r with
    | .inl d=>Kn d
    | .inr d=>Kx d
   |none=>none
  else none
 |_=>none
def jc7{α:Type}(P:Program)(cal:Cals)(qcal:QCals)(fn:Func)(l1 l2:List Code)(out gf g ni:Nat)(insI:List Item)(FI:D (tysI insI [])→Option (List α))(nt:Nat)(its outX:List Item)(eX:Exit)
  (step:α→D (tysI its [])→Option (D (tysI its [])⊕D (tysI outX []))) (args:List AV) (H:Heap) (K:List AV→Heap→Option ρ):Option ρ:=
 evL P (cal _) (qcal _) l1 ⟨args++yx (fn.ntmps-args.length) .undef,H⟩ fun e st=>match e with
  | .normal=>evRng gf g ni insI FI nt its outX step st
    (fun d=>evL P (cal _) (qcal _) l2 (bldS nt its d) (kEnd P fn K))
    (fun d=>match eX with
     | .ret=>kEnd P fn K .ret (bldS nt outX d)
     | .exit j=>if j=out then evL P (cal _) (qcal _) l2 (bldS nt outX d) (kEnd P fn K)else none
     |_=>none)
  |e=>kEnd P fn K e st
theorem j0x{P:Program}(hP:q0u P){gf:Nat}{gfn:Func}(hf:P.funcs[gf]? =some gfn)(hb:gfn.body.isSome=true)(args:Array Value)(w:World):(callFunc gf args).run P w= .ok (.enter gf args) w:=by
 have hn:=hP gf gfn hf hb
 cases hq:gfn.body with
 |none=>simp[hq]at hb
 |some cd=>simp[callFunc,hf,hn,hq]
theorem j0y{P:Program}(hP:q0u P){cal:Cals}(hcal:∀σ f,qex P f (cal σ f)){qcal:QCals}(hq:∀σ f,qb3 P f (qcal σ f)){α:Type}{f n:Nat}{ins:List Item}{os:List Out}{F:D (tysI ins [])→Option (D (tysO os))}{fn gfn:Func}{c:Code}
  (hf:P.funcs[f]? =some fn) (hb:fn.body=some c) {l1 l2:List Code} {out gf g ni:Nat} {ps:Array Tmp} {assign body:Code} (hc:qdd c=l1++ .block out (.rangeFunc (.tmp g) ps assign body)::l2)
  (hgf:P.funcs[gf]? =some gfn) (hgb:gfn.body.isSome=true) {encs:α→Array Value} {enc:α→List AV} {ok:α→Prop} (hps:∀x,(encs x).size=ps.size) (henc:∀x,ok x→∀M,RelL M (enc x) (encs x).toList) {insI:List Item} {FI:D (tysI insI [])→Option (List α)} (hit:j7h P gf encs ok ni insI FI)
  (hca:calm assign=true) (hcb:calm body=true) {nt:Nat} {its outX:List Item} {eX:Exit} {step:α→D (tysI its [])→Option (D (tysI its [])⊕D (tysI outX []))}
  (hs:∀x d,jc3 P cal qcal nt its outX eX ps.toList assign body (enc x) d=step x d) (hown:∀d,itSt (bldS ni insI d)=true)
  (h:∀d,jc7 P cal qcal fn l1 l2 out gf g ni insI FI nt its outX eX step (bldS n ins d).tmps (bldS n ins d).heap (endO os)=F d):zt5 P f n ins os F:=by
 intro d r hd M B w vs hl hH
 rw[←h]at hd
 have key:Calls P f vs w (EndR B w (endO os) r):=by
  refine callsIn_wide.1 (callsIn_of_wp_marks hf hb trivial (wl_code ?_))
  rw[hc]
  unfold jc7 at hd
  have hsz:=qp5 hl
  simp at hsz
  have hr0:Rel M ⟨(bldS n ins d).tmps++yx (fn.ntmps-(bldS n ins d).tmps.length) .undef,(bldS n ins d).heap⟩ B.clean w {tmps:=vs++Array.replicate (fn.ntmps-vs.size) undef,defers:=[]} w:=
   ⟨by rw[hsz];exact qwm hl _,rfl,hH.clean,Beneath.refl _ _⟩
  refine zi9 hP (hcal _) (hq _) l1 _ _ hd M _ w hr0 fun e M' st' a' w' hk hr=> ?_
  cases e with
  |normal=>
   show(Code.block out (.rangeFunc (.tmp g) ps assign body)).wpIn Fence.wide 0 P (Exit.then (WL P (bodyPostM Fence.wide 0 P fn (EndR B w (endO os) r)) l2) (bodyPostM Fence.wide 0 P fn (EndR B w (endO os) r))) a' w'
   refine wpIn_block ?_
   simp only at hk
   unfold evRng at hk
   split at hk
   ·rename_i gf' caps hg
    split at hk
    ·rename_i hgf'
     subst hgf'
     split at hk
     ·rename_i di hdi
      simp only[Option.bind_eq_some_iff]at hk
      obtain⟨xs,hxs,d1,hd1,r1,hr1,hk⟩:=hk
      have hv:=hr.tmps.2 g
      rw[hg]at hv
      simp only[RelV,RelX]at hv
      obtain⟨x,y,hv,h1,h2⟩:=hv
      have hv:a'.tmps.getD g undef= .func (.func gf') x y:=by simpa using hv
      have hx:x= #[]:=by
       rw[RelL_nil]at h1
       exact Array.toList_eq_nil_iff.1 h1
      subst hx
      obtain⟨M2,t⟩:=zhz h2 hr.heap hdi
      obtain⟨bs,hbs⟩:∃bs,bs=itBs caps st'.heap insI:=⟨_,rfl⟩
      rw[←hbs]at hd1
      obtain⟨O0,hO0⟩:∃O0:Nat→Prop,O0=fun k=>∃b∈bs,∃pl,M'[b]? =some pl∧pl.nil=false∧pl.blk=k:=⟨_,rfl⟩
      have hbown:∀b∈bs,∃o,st'.heap[b]? =some (some o)∧o.own=true:=by
       intro b hb
       rw[hbs]at hb
       unfold itBs at hb
       obtain⟨ac,hac,hid⟩:=List.mem_filterMap.1 hb
       split at hid
       ·rename_i how
        obtain⟨i,hi⟩:=List.getElem?_of_mem hac
        obtain⟨p1,_,g2,_⟩:=t.act i ac hi
        obtain⟨o,p,k1,k2,_,_,k5,_⟩:=g2 b hid
        exact⟨o,k1,k5 how⟩
       ·cases hid
      have hOk:∀k,O0 k→k<w'.heap.size∧B.clean.w k:=by
       intro k hk
       rw[hO0]at hk
       obtain⟨b,hb,pl,k1,k2,rfl⟩:=hk
       obtain⟨o,ho,how⟩:=hbown b hb
       obtain⟨pl',hpl',hok⟩:=hr.heap.obj b o ho
       rw[k1]at hpl'
       cases hpl'
       rcases hok with⟨q,_⟩|⟨_,cs,el,fz,q2,_,_,_,q6⟩
       ·rw[k2]at q
        cases q
       ·exact⟨(Array.getElem?_eq_some_iff.1 q2).1,(q6 how).2.2⟩
      have hOf:∀k,O0 k→∀ob,¬FzAt M' k ob:=by
       intro k hk
       rw[hO0]at hk
       obtain⟨b,hb,pl,k1,k2,rfl⟩:=hk
       obtain⟨o,ho,how⟩:=hbown b hb
       exact(hr.heap.fo b o pl ho k1 how k2).2
      have hOo:∀(i:Nat) (o:AObj) (pl:Place),(killL st'.heap bs)[i]? =some (some o)→M'[i]? =some pl→pl.nil=false→¬O0 pl.blk:=by
       intro i o pl hi hpl hnil hk
       rw[hO0]at hk
       obtain⟨b,hb,plb,k1,k2,k3⟩:=hk
       obtain⟨ob,hob,how⟩:=hbown b hb
       obtain⟨j1,j2⟩:=j7j hi
       exact hr.heap.sep b i ob o plb pl hob j2 k1 hpl (fun e=>j1 (e▸hb)) how k2 hnil k3
      have hib:RelH (qwp M2) (bldS ni insI di).heap (itB O0 w') w' :=by
       refine it_base t.heap (hown di) fun i o pl hi hpl hnil=> ?_
       have hlt:i<(zoq::qkk ⟨caps,st'.heap⟩ false insI).length:=by rw[t.len];exact(List.getElem?_eq_some_iff.1 hpl).1
       obtain⟨p1,g1,g2,g3,g4,_⟩:=t.act i _ (yj hlt)
       rw[hpl]at g1
       cases g1
       have how:=(jc1 (hown di) hi).1
       have hac:=g4 o hi
       rw[how]at hac
       cases hid:((zoq::qkk ⟨caps,st'.heap⟩ false insI)[i]).id with
       |none=>
        obtain⟨q,_⟩:=(g3.1 hid).2 hnil
        rw[q]at hac
        cases hac
       |some b=>
        obtain⟨o',p,k1,k2,k3,k4,_⟩:=g2 b hid
        rw[hO0]
        refine⟨b,?_,p,k2,by rw[←k3];exact hnil,k4.symm⟩
        rw[hbs]
        unfold itBs
        refine List.mem_filterMap.2 ⟨_,List.getElem_mem hlt,?_⟩
        rw[←hac,iP rfl]
        exact hid
      have hnf:zcj (bldS ni insI di).tmps=true:=by
       have:=hown di
       simp only[itSt,yl]at this
       exact this.1
      have hitat:=hit di xs hxs (qwp M2) w' O0 y (RelL.like (zi8 M2) _ _ hnf (qwo t.tmps)) hib fun k hk=>(hOk k hk).1
      have hk1:RelH M' (killL st'.heap bs) ⟨fun k=>B.w k∧¬O0 k,fun k=>B.vis k∧¬O0 k,B.pin,B.f,[]⟩ w' :=by
       have hkl:RelH M' (killL st'.heap bs) B.clean w' :=RelH.killL hr.heap
       refine hkl.carryT (fun i o pl h1 h2 h3=>⟨rfl,⟨hkl.vis i o pl h1 h2 h3,hOo i o pl h1 h2 h3⟩,fun ho=>⟨(hkl.fo i o pl h1 h2 ho h3).1,fun h=>⟨h,hOo i o pl h1 h2 h3⟩⟩⟩)
        (fun k ob h=> ?_) (fun _ _ h=>h) (fun k hk=> ?_) hkl.bf
       ·obtain⟨q1,q2,q3⟩:=hkl.fz k ob h
        have hno:¬O0 k:=fun h' =>hOf k h' ob h
        exact⟨q1,⟨q2,hno⟩,q3.imp (fun h=>⟨h,hno⟩) id⟩
       ·have hno:¬O0 k:=fun h' =>by have:=(hOk k h').1;omega
        exact⟨⟨(hkl.base k hk).1,hno⟩,(hkl.base k hk).2,hno⟩
      obtain⟨M3,hr3⟩:=qg2 (st:=⟨st'.tmps,killL st'.heap bs⟩) (B:=⟨fun k=>B.w k∧¬O0 k,fun k=>B.vis k∧¬O0 k,B.pin,B.f,[]⟩) (w0:=w') (a:=a') (w:=w') ⟨hr.tmps,hr.defers,hk1,Beneath.refl _ _⟩ hd1
      have ha' :a'.defers=[]:=hr.defers
      have more:∀{its' :List Item} {d' :D (tysI its' [])} {M4:List Place} {W:World},evL P (cal _) (qcal _) l2 (bldS nt its' d') (kEnd P fn (endO os))=some r→RelT M4 (bldS nt its' d').tmps a'.tmps→RelH M4 (bldS nt its' d').heap B.clean W→Beneath B.clean w W→
        W.heap[w'.heap.size]? =some (.deferred (some []))→(∀ob,¬FzAt M4 w'.heap.size ob)→WL P (bodyPostM Fence.wide 0 P fn (EndR B w (endO os) r)) l2 {a' with defers:=mark w'.heap.size::a'.defers} W:=by
       intro its' d' M4 W hk hT4 hH4 hB4 hD hz
       rw[←List.append_nil l2]
       refine zi9 hP (hcal _) (hq _) l2 _ _ hk M4 _ W (B:=B.marked w'.heap.size) (w0:=W) ⟨hT4,by rw[ha'];rfl,hH4.unclean.marked hD rfl hz,Beneath.refl _ _⟩ fun e M5 st5 a5 w5 hk5 hr5=> ?_
       have hbf:¬B.f w'.heap.size:=hr.heap.bf _ (wa _)
       have:=zia hk5 hr5 hD hbf hr.below.size hB4.unclean
       cases e<;>exact this
      refine j4z (B:=B.clean) (w0:=w) (d:=d1) (r:=r1) (M:=M3) hP hcal hq hv (j0x hP hgf hgb) hitat hps henc hca hcb hs hr.below.size hr.heap.bf hr1 hOk hr3.tmps ?_ hr.below ?_ ?_
      ·intro W hW hn
       refine hr3.heap.carryT (fun i o pl h1 h2 h3=> ?_) (fun k ob h=> ?_) (fun _ _ h=>h) (fun k hk=> ?_) (fun k hk=>hr.heap.bf k (Nat.le_trans hW.size hk))
       ·have hlt:=hr3.heap.lt h1 h2 h3
        have hvv:=hr3.heap.vis i o pl h1 h2 h3
        exact⟨hW.block _ hlt,hvv,fun ho=>⟨(hr3.heap.fo i o pl h1 h2 ho h3).1,fun h=>⟨h.1,h.2,by omega⟩⟩⟩
       ·obtain⟨q1,q2,q3⟩:=hr3.heap.fz k ob h
        have hlt:=(Array.getElem?_eq_some_iff.1 q1).1
        exact⟨(hW.block _ hlt).trans q1,q2,q3.imp (fun h=>⟨h.1,h.2,by omega⟩) id⟩
       ·have hno:¬O0 k:=fun h' =>by have:=(hOk k h').1;omega
        have:=hr.heap.base k (by omega)
        exact⟨⟨this.1,hno,by omega⟩,this.2,hno⟩
      ·intro d' M4 W hrd hT4 hH4 hB4 hD hz
       subst hrd
       exact more hk hT4 hH4 hB4 hD hz
      ·intro d' M4 W hrd hT4 hH4 hB4 hD hz
       subst hrd
       simp only at hk
       split at hk
       ·refine wpIn_ret ?_
        have hr5:Rel M4 (bldS nt outX d') (B.marked w'.heap.size) W {a' with defers:=mark w'.heap.size::a'.defers} W:=⟨hT4,by rw[ha'];rfl,hH4.unclean.marked hD rfl hz,Beneath.refl _ _⟩
        exact zia hk hr5 hD (hr.heap.bf _ (wa _)) hr.below.size hB4.unclean
       ·split at hk
        ·rename_i j hj
         subst hj
         refine wpIn_exit ?_
         show if j=j then _ else _
         rw[iP rfl]
         exact more hk hT4 hH4 hB4 hD hz
        ·cases hk
       ·cases hk
     ·cases hk
    ·cases hk
   ·cases hk
  |ret=>exact z53 hk hr
  |exit id=>exact z53 hk hr
  |goto l=>exact z53 hk hr
  |panic ch=>exact z53 hk hr
  |outgrown=>exact z53 hk hr
 refine key.mono ?_
 rintro e w' ⟨rs,l,H',M',rfl,hk,hl',hH',hb⟩
 exact⟨rs,rfl,hb,zhw hH' hk hl'⟩
end Go.AE
namespace Go.AE
open Go Go.RowKit
variable {α:Type}
def yldOf(st:St):Op→Option (Nat×List AV)
 | .call c=>match c.callee with
  | .value (.tmp t)=>match st.tmps.getD t .undef with
   | .yld l=>some (l,c.args.toList.map st.get)
   |_=>none
  |_=>none
 |_=>none
def j50(P:Program)(cal:Cal (List (Nat×α)))(dec:List AV→Option α)(o:Oper)(st:St)(K:St→Option (List (Nat×α))):Option (List (Nat×α)):=
 match yldOf st o.op with
 |some (l,args)=>match zt6 st.heap with
  |true=>(dec args).bind fun x=>(K (st.put o.dst (.bool (some true) true))).bind fun L=>(K (st.put o.dst (.bool (some false) false))).bind fun L2=>match L2 with
   |[]=>some ((l,x)::L)
   |_=>none
  |false=>none
 |none=>zbi P cal o st K
def zul(P:Program)(cal:Cal (List (Nat×α)))(dec:List AV→Option α)(ops:Array Oper):List Oper→St→(St→Option (List (Nat×α)))→Option (List (Nat×α))
 |[],st,K=>K st
 |o::l,st,K=>z81 ops o st (j50 P cal dec o) fun st' =>zul P cal dec ops l st' K
def isDyn(o:Oper):Bool:=match o.op with
 | .call c=>match c.callee with
  | .value (.tmp _)=>true
  |_=>false
 |_=>false
def dynIx(ops:Array Oper):Option Nat:=ops.toList.findIdx? isDyn
def zib(P:Program)(cal:Cal (List (Nat×α)))(qcal:QCal (List (Nat×α)))(dec:List AV→Option α)(ops:Array Oper)(draw:Bool)(st:St)(K:St→Option (List (Nat×α))):Option (List (Nat×α)):=
 match dynIx ops with
 |none=>qzx P cal qcal ops draw st K
 |some n=>match draw with
  |false=>zul P cal dec ops ops.toList st K
  |true=>if P.follows .mixedOrders=true then
    if Region.lexTailB .any ops n=true then zhe P qcal ops (ops.toList.take n) st fun st' =>zul P cal dec ops (ops.toList.drop n) st' K else none
   else none
def qde(P:Program)(cal:Cal (List (Nat×α)))(qcal:QCal (List (Nat×α)))(dec:List AV→Option α):Code→St→(Exit→St→Option (List (Nat×α)))→Option (List (Nat×α))
 | .skip,st,K=>K .normal st
 | .region _ ops draw,st,K=>zib P cal qcal dec ops draw st (K .normal)
 | .seq x y,st,K=>qde P cal qcal dec x st fun e st' =>match e with
  | .normal=>qde P cal qcal dec y st' K
  |e=>K e st'
 | .cond c x y,st,K=>match st.get c with
  | .bool (some b) _=>cond b (qde P cal qcal dec x st K) (qde P cal qcal dec y st K)
  | .bool none b=>cond b (qde P cal qcal dec x (st.lit c true) K) (qde P cal qcal dec y (st.lit c false) K)
  |_=>none
 | .block id c,st,K=>qde P cal qcal dec c st fun e st' =>match e with
  | .exit id' =>if id' =id then K .normal st' else K (.exit id') st'
  |e=>K e st'
 | .loop c,st,K=>zud 300 (fun st K=>qde P cal qcal dec c st K) st K
 | .exit id,st,K=>K (.exit id) st
 | .ret,st,K=>K .ret st
 | .label _,st,K=>K .normal st
 |_,_,_=>none
structure Yields (P:Program) (l0:Nat) (encs:α→Array Value) (ok:α→Prop) (xs:List α) (J Jx:List α→(Nat→Prop)→World→Prop):Prop where
 j:∀pre O W W',J pre O W→Beneath (OB O) W W' →J pre (grow O W W') W'
 jx:∀pre O W W',Jx pre O W→Beneath (OB O) W W' →Jx pre (grow O W W') W'
 y:∀pre x rest O W1,xs=pre++x::rest→ok x→J pre O W1→YieldAt Fence.wide 0 P l0 (encs x) W1 fun e W' =>
   W1.heap.size≤W'.heap.size∧Same O W1 W' ∧((e= .returned (.bool true)∧J (pre++[x]) O W')∨(e= .returned (.bool false)∧Jx (pre++[x]) O W'))
def Going(xs:List α)(l0:Nat)(J Jx:List α→(Nat→Prop)→World→Prop)(L:List (Nat×α))(O:Nat→Prop)(W:World):Prop:=
 (∃pre rest,xs=pre++rest∧L=rest.map (fun x=>(l0,x))∧J pre O W)∨(L=[]∧∃pre,pre<+:xs∧Jx pre O W)
structure ItRel (xs:List α) (l0:Nat) (J Jx:List α→(Nat→Prop)→World→Prop) (M:List Place) (st:St) (O:Nat→Prop) (L:List (Nat×α)) (a:Go.Act) (W:World):Prop where
 tmps:RelT M st.tmps a.tmps
 defers:a.defers=[]
 heap:RelH M st.heap (itB O W) W
 o:∀k,O k→k<W.heap.size
 go:Going xs l0 J Jx L O W
section
variable {P:Program} {l0:Nat} {encs:α→Array Value} {ok:α→Prop} {xs:List α} {J Jx:List α→(Nat→Prop)→World→Prop} {ops:Array Oper} {Q:Exit→Go.Act→World→Prop}
theorem ItRel.rel{M:List Place}{st:St}{O:Nat→Prop}{L:List (Nat×α)}{a:Go.Act}{W:World}(r:ItRel xs l0 J Jx M st O L a W):Rel M st (itB O W) W a W:=⟨r.tmps,r.defers,r.heap,Beneath.refl _ _⟩
theorem ItRel.step(hy:Yields P l0 encs ok xs J Jx){M M' :List Place}{st st' :St}{O:Nat→Prop}{L:List (Nat×α)}{a a' :Go.Act}{W W' :World}(r:ItRel xs l0 J Jx M st O L a W)(r' :Rel M' st' (itB O W) W a' W'):ItRel xs l0 J Jx M' st' (grow O W W') L a' W' :=by
 have hB:=r'.below.it
 refine⟨r'.tmps,r'.defers,it_step r'.heap,fun k hk=>hk.elim (fun h=>Nat.lt_of_lt_of_le (r.o k h) hB.size) fun h=>h.2,?_⟩
 rcases r.go with⟨pre,rest,h1,h2,h3⟩|⟨h1,pre,h2,h3⟩
 ·exact .inl ⟨pre,rest,h1,h2,hy.j _ _ _ _ h3 hB⟩
 ·exact .inr ⟨h1,pre,h2,hy.jx _ _ _ _ h3 hB⟩
theorem j9e{o:Oper}{t l:Nat}{args:Array Operand}{tys:Array TypeId}(ho:o.op= .call {callee:= .value (.tmp t),args:=args,argTypes:=tys}){a:Go.Act}{w:World}
  (hv:a.eval (.tmp t)= .func (.yield l) #[] #[]) {R:Ending→World→Prop} (hy:YieldAt Fence.wide 0 P l (args.map a.eval) w R) {K:Go.Act→World→Prop} (hR:∀e w',R e w' →∃b,e= .returned (.bool b)∧K (a.put o.dst (.bool b)) w'):
  o.wpIn Fence.wide 0 P a w K Q:=by
 refine⟨fun f _=>trivial,?_⟩
 show o.uponIn _ 0 P a _ Q ((Oper.semAt none a.eval o).run P w)
 rw[Oper.semAt_none,jc0 ho hv]
 obtain⟨fn,tmps,assign,body,hrun,hr⟩:=hy
 rw[hrun,Oper.uponIn_round]
 refine⟨fun hd=>by simp[Fence.wide]at hd,hr.mono fun e w' h=> ?_⟩
 obtain⟨b,rfl,h2⟩:=hR e w' h
 exact h2
theorem j0z(M:List Place)(b:Bool):RelV M (.bool (some b) b) (.bool b):=by simp[RelV,RelX]
variable {dec:List AV→Option α}
def j9f(dec:List AV→Option α)(encs:α→Array Value)(ok:α→Prop):Prop:=∀(M:List Place) (args:List AV) (vs:List Value) (x:α),RelL M args vs→dec args=some x→vs=(encs x).toList∧ok x
theorem zum(hP:q0u P){cal:Cal (List (Nat×α))}(hcal:∀f,qex P f (cal f))(hy:Yields P l0 encs ok xs J Jx)(hdec:j9f dec encs ok){o:Oper}{st:St}{K:St→Option (List (Nat×α))}{L:List (Nat×α)}(h:j50 P cal dec o st K=some L)
  {M:List Place} {O:Nat→Prop} {a:Go.Act} {W:World} (hr:ItRel xs l0 J Jx M st O L a W) {next:Go.Act→World→Prop} (hn:∀M' st' O' L' a' W',K st' =some L' →ItRel xs l0 J Jx M' st' O' L' a' W' →next a' W'):o.wpIn Fence.wide 0 P a W next Q:=by
 unfold j50 at h
 split at h
 ·rename_i l args hyl
  split at h
  ·rename_i hown
   simp only[Option.bind_eq_some_iff]at h
   obtain⟨x,hx,L1,hL1,L2,hL2,h⟩:=h
   split at h
   ·cases h
    unfold yldOf at hyl
    split at hyl
    ·rename_i c hop
     split at hyl
     ·rename_i t hc
      split at hyl
      ·rename_i l' hl'
       cases hyl
       have hv:=hr.tmps.2 t
       rw[hl']at hv
       simp only[RelV,RelX]at hv
       have hv:a.eval (.tmp t)= .func (.yield l) #[] #[]:=by simpa[Go.Act.eval]using hv
       rcases hr.go with⟨pre,rest,g1,g2,g3⟩|⟨g1,_⟩
       ·cases rest with
        |nil=>cases g2
        |cons x' rest=>
         simp only[List.map_cons,List.cons.injEq,ym]at g2
         obtain⟨⟨rfl,rfl⟩,rfl⟩:=g2
         have hargs:(c.args.map a.eval).toList=(encs x).toList∧ok x:=by
          refine hdec M _ _ _ ?_ hx
          rw[Array.toList_map]
          exact qzu (fun y=>qwc hr.tmps y) _
         have hargs2:c.args.map a.eval=encs x:=Array.toList_inj.1 hargs.1
         obtain⟨callee,cargs,tys⟩:=c
         simp only at hc hargs2
         subst hc
         refine j9e (tys:=tys) hop hv (by rw[hargs2];exact hy.y pre x rest O W g1 hargs.2 g3) ?_
         rintro e W' ⟨hz,hs,h⟩
         have hH:RelH M st.heap (itB O W') W' :=j7g hr.heap hown hs hz
         have put:∀(b:Bool),(st.put o.dst (.bool (some b) b)).heap=st.heap∧RelT M (st.put o.dst (.bool (some b) b)).tmps (a.put o.dst (.bool b)).tmps∧(a.put o.dst (.bool b)).defers=[]:=fun b=>by
          cases o.dst with
          |none=>exact⟨rfl,hr.tmps,hr.defers⟩
          |some d=>exact⟨rfl,hr.tmps.put (j0z M b) d,hr.defers⟩
         have ho:∀k,O k→k<W'.heap.size:=fun k hk=>Nat.lt_of_lt_of_le (hr.o k hk) hz
         rcases h with⟨rfl,h⟩|⟨rfl,h⟩
         ·obtain⟨p1,p2,p3⟩:=put true
          exact⟨true,rfl,hn M _ O _ _ W' hL1 ⟨p2,p3,by rw[p1];exact hH,ho,.inl ⟨pre++[x],rest,by rw[g1];simp,rfl,h⟩⟩⟩
         ·obtain⟨p1,p2,p3⟩:=put false
          exact⟨false,rfl,hn M _ O _ _ W' hL2 ⟨p2,p3,by rw[p1];exact hH,ho,.inr ⟨rfl,pre++[x],⟨rest,by rw[g1];simp⟩,h⟩⟩⟩
       ·cases g1
      ·cases hyl
     ·cases hyl
    ·cases hyl
   ·cases h
  ·cases h
 ·exact operW (qwf hP hcal h hr.rel (Q:=fun _ _ _=>False) fun M' st' a' w' _ hk hr' =>hn M' st' _ L a' w' hk (hr.step hy hr')) (fun _ _ h=>h) (fun _ _ _ h=>h) (fun⟨_,_,h⟩=>h)
theorem qj4(hP:q0u P){cal:Cal (List (Nat×α))}(hcal:∀f,qex P f (cal f))(hy:Yields P l0 encs ok xs J Jx)(hdec:j9f dec encs ok){K:St→Option (List (Nat×α))}:∀{l:List Oper} {st:St} {L:List (Nat×α)} {M:List Place} {O:Nat→Prop} {a:Go.Act} {W:World},
  zul P cal dec ops l st K=some L→ItRel xs l0 J Jx M st O L a W→(∀M' st' O' L' a' W',K st' =some L' →ItRel xs l0 J Jx M' st' O' L' a' W' →Q .normal a' W')→wpListIn Fence.wide 0 P ops Q l a W
 |[],st,L,M,O,a,W,h,hr,hn=>hn M st O L a W h hr
 |o::l,st,L,M,O,a,W,h,hr,hn=>by
  unfold wpListIn
  rcases qdc h hr.tmps with⟨hw,st',h',ht,hh⟩|⟨hw,st',h',ht,hh⟩
  ·rw[iP hw]
   exact zum hP hcal hy hdec h' ⟨ht,hr.defers,by rw[hh];exact hr.heap,hr.o,hr.go⟩ fun M' st2 O' L' a' w' hk hr2=>qj4 hP hcal hy hdec hk hr2 hn
  ·rw[iN (by rw[hw];simp)]
   have hr' :Rel M st' (itB O W) W a W:=⟨ht,hr.defers,by rw[hh];exact hr.heap,Beneath.refl _ _⟩
   have hr2:=hr'.put (qp4 M) o.dst
   exact⟨fun f _=>trivial,qj4 hP hcal hy hdec h' ⟨hr2.tmps,hr2.defers,hr2.heap,hr.o,hr.go⟩ hn⟩
theorem opInW{i:Nat}{K:Go.Act→World→Prop}{a:Go.Act}{w:World}(h:wpOp P ops (fun _ _ _=>False) i K a w):wpOpIn Fence.wide 0 P ops Q i K a w:=by
 unfold wpOp at h
 unfold wpOpIn
 cases ho:ops[i]? with
 |none=>
  rw[ho]at h
  exact h
 |some o=>
  rw[ho]at h
  simp only at h⊢
  by_cases hw:Region.wanted o (yielded ops a.tmps)=true
  ·rw[iP hw]at h⊢
   rcases h with h|h
   ·exact operW h (fun _ _ h=>h) (fun _ _ _ h=>h) (fun⟨_,_,h⟩=>h)
   ·exact absurd h.2 (fun⟨_,_,h⟩=>h)
  ·rw[iN hw]at h⊢
   exact⟨fun f _=>trivial,h⟩
theorem qtj{md:Region.Mode}{C:World→Prop}{n g:Nat}{L:Array Bool→Go.Act→Prop}(hL:∀listed a w,C w→L listed a→wpAnyIn Fence.wide 0 P md ops Q g listed a w):
  ∀(f:Nat) (listed:Array Bool) (a:Go.Act) (w:World),C w→z85 P md ops C n L f listed a→wpAnyIn Fence.wide 0 P md ops Q (f+g) listed a w
 |0,listed,a,w,hw,h=>by rw[Nat.zero_add];exact hL _ _ _ hw h
 |f+1,listed,a,w,hw,h=>by
  rw[show f+1+g=(f+g)+1 by omega]
  exact⟨fun h0=>absurd h0 h.1,fun i hi=>opInW (wpOp_of_qOp hw (fun a' w' hw' h' =>qtj hL f _ a' w' hw' h') (h.2 i hi).2)⟩
theorem z1g{md:Region.Mode}:∀(l:List Oper) (k:Nat) (listed:Array Bool) (a:Go.Act) (w:World),(∀j,l[j]? =ops[k+j]?)→
  Region.seqB md ops l.length k listed=true→wpListIn Fence.wide 0 P ops Q l a w→wpAnyIn Fence.wide 0 P md ops Q l.length listed a w
 |[],_,_,_,_,_,hB,h=>⟨by simpa[Region.seqB]using hB,h⟩
 |o::l,k,listed,a,w,hl,hB,h=>by
  have h0:ops[k]? =some o:=by simpa using(hl 0).symm
  simp only[List.length_cons,Region.seqB,yl,decide_eq_true_eq]at hB
  refine⟨fun h1=>(by rw[hB.1]at h1;cases h1),fun i hi=> ?_⟩
  rw[hB.1]at hi
  have hik:i=k:=by simpa using hi
  subst hik
  have hw:wpOpIn Fence.wide 0 P ops Q i (wpListIn Fence.wide 0 P ops Q l) a w:=by unfold wpOpIn;simp only[h0];exact h
  exact wpOpIn_mono (fun a' w' h' =>z1g l (i+1) _ a' w' (fun j=>by have:=hl (j+1);simpa[we,Nat.add_comm 1 j]using this) hB.2 h') hw
theorem zck(n:Nat){C:World→Prop}{a:Go.Act}{w:World}(hB:Region.lexTailB .any ops n=true)(hC:C w.drew)
  (h:wpQuiet P ops C (fun a' =>∀w',C w' →wpListIn Fence.wide 0 P ops Q (ops.toList.drop n) a' w') (ops.toList.take n) a):wpAnyIn Fence.wide 0 P .any ops Q ops.size (Array.replicate ops.size false) a w.drew:=by
 simp only[Region.lexTailB,yl,decide_eq_true_eq]at hB
 obtain⟨⟨⟨⟨hsel,hn⟩,hs⟩,hc⟩,hlex⟩:=hB
 have htl:(ops.toList.take n).length=n:=by simp;omega
 have hdl:(ops.toList.drop n).length=ops.size-n:=by simp
 have inv0:HeadInv .any ops n (Array.replicate ops.size false):=
  ⟨by simp,fun j oj _ hl=>(by rw[getD_replicate_false]at hl;cases hl),fun t _ ht=>getD_in (by simpa using ht) (getD_replicate_false _ _)⟩
 have H:=qrl (md:= .any) (g:=ops.size-n) hsel hs hc hn (ops.toList.take n) 0 _ a (fun j hj=>by
  have hj' :j<n:=by rw[htl]at hj;exact hj
  simp[hj']) (by simpa using htl) inv0 (by rw[htl];exact hlex) h
 have:=qtj (Q:=Q) (g:=ops.size-n) (fun listed a' w' hw' hL=>by
  have:=z1g (md:= .any) (Q:=Q) (ops.toList.drop n) n listed a' w' (fun j=>by simp[List.getElem?_drop]) (by rw[hdl];exact hL.1) (hL.2 w' hw')
  rwa [hdl]at this) _ _ _ _ hC H
 rw[htl,show n+(ops.size-n)=ops.size by omega]at this
 exact this
theorem zic(hP:q0u P){cal:Cal (List (Nat×α))}(hcal:∀f,qex P f (cal f)){qcal:QCal (List (Nat×α))}(hq:∀f,qb3 P f (qcal f))(hy:Yields P l0 encs ok xs J Jx)(hdec:j9f dec encs ok){draw:Bool}{id:Nat}{st:St}{K:St→Option (List (Nat×α))}{L:List (Nat×α)}
  (h:zib P cal qcal dec ops draw st K=some L) {M:List Place} {O:Nat→Prop} {a:Go.Act} {W:World} (hr:ItRel xs l0 J Jx M st O L a W) (hn:∀M' st' O' L' a' W',K st' =some L' →ItRel xs l0 J Jx M' st' O' L' a' W' →Q .normal a' W'):(Code.region id ops draw).wpIn Fence.wide 0 P Q a W:=by
 unfold zib at h
 split at h
 ·exact wpIn_wide.2 (z1e hP hcal hq h hr.rel fun M' st' a' w' _ hk hr' =>hn M' st' _ L a' w' hk (hr.step hy hr'))
 ·rename_i n _
  split at h
  ·exact wpIn_region_list (qj4 hP hcal hy hdec h hr hn)
  ·split at h
   ·rename_i hm
    split at h
    ·rename_i hB
     refine wpIn_region_any hm (zck n (C:=fun w' =>Below W.drew.heap.size W.drew w') hB (Below.refl _ _) ?_)
     have hb0:Below W.heap.size W W.drew:=(Below.refl _ _).drew
     exact q7i hP hq (hr.heap.below hb0) h hr.tmps rfl hr.defers fun st' a' hk ht hh hd w' hb=>qj4 hP hcal hy hdec hk
      (hr.step hy (a' :=a') (W' :=w') ⟨ht,hd,by rw[hh];exact(hr.heap.below hb0).below hb,(Beneath.of hb0).trans (Beneath.of hb)⟩) hn
    ·cases h
   ·cases h
theorem ItRel.lit{M:List Place}{st:St}{O:Nat→Prop}{L:List (Nat×α)}{a:Go.Act}{W:World}(r:ItRel xs l0 J Jx M st O L a W){c:Operand}{b:Bool}(hb:a.eval c= .bool b):ItRel xs l0 J Jx M (st.lit c b) O L a W:=by
 cases c with
 |tmp t=>
  have h1:=r.rel.put (x:= .bool (some b) b) (v:= .bool b) (by simp[RelV,RelX]) (some t)
  simp only[Go.Act.eval]at hb
  rw[←hb,qj3]at h1
  exact⟨h1.tmps,h1.defers,h1.heap,r.o,r.go⟩
 |_=>exact r
theorem zun(hP:q0u P){cal:Cal (List (Nat×α))}(hcal:∀f,qex P f (cal f)){qcal:QCal (List (Nat×α))}(hq:∀f,qb3 P f (qcal f))(hy:Yields P l0 encs ok xs J Jx)(hdec:j9f dec encs ok):
  ∀(c:Code) (st:St) (K:Exit→St→Option (List (Nat×α))) (L:List (Nat×α)),qde P cal qcal dec c st K=some L→∀(M:List Place) (O:Nat→Prop) (a:Go.Act) (W:World) (Q:Exit→Go.Act→World→Prop),ItRel xs l0 J Jx M st O L a W→
   (∀e M' st' O' L' a' W',K e st' =some L' →ItRel xs l0 J Jx M' st' O' L' a' W' →Q e a' W')→c.wpIn Fence.wide 0 P Q a W:=by
 intro c
 induction c with
 |skip=>intro st K L h M O a W Q hr hn;exact wpIn_skip (hn _ M st O L a W h hr)
 |region id ops draw=>intro st K L h M O a W Q hr hn;exact zic hP hcal hq hy hdec h hr fun M' st' O' L' a' W' =>hn .normal M' st' O' L' a' W'
 |seq x y ihx ihy=>
  intro st K L h M O a W Q hr hn
  refine wpIn_seq (ihx st _ L h M O a W _ hr fun e M' st' O' L' a' W' hk hr' => ?_)
  cases e with
  |normal=>exact ihy st' K L' hk M' O' a' W' Q hr' hn
  |exit id=>exact hn _ M' st' O' L' a' W' hk hr'
  |goto l=>exact hn _ M' st' O' L' a' W' hk hr'
  |ret=>exact hn _ M' st' O' L' a' W' hk hr'
  |panic ch=>exact hn _ M' st' O' L' a' W' hk hr'
  |outgrown=>exact hn _ M' st' O' L' a' W' hk hr'
 |cond c x y ihx ihy=>
  intro st K L h M O a W Q hr hn
  have hg:=qwc hr.tmps c
  unfold qde at h
  split at h
  ·rename_i b z hst
   rw[hst]at hg
   obtain⟨e,hl⟩:=q25 hg
   have:=hl b rfl
   subst this
   cases z
   ·exact wpIn_cond_false e (ihy st K L h M O a W Q hr hn)
   ·exact wpIn_cond_true e (ihx st K L h M O a W Q hr hn)
  ·rename_i b hst
   rw[hst]at hg
   obtain⟨e,_⟩:=q25 hg
   cases b
   ·exact wpIn_cond_false e (ihy _ K L h M O a W Q (hr.lit e) hn)
   ·exact wpIn_cond_true e (ihx _ K L h M O a W Q (hr.lit e) hn)
  ·cases h
 |block id c ih=>
  intro st K L h M O a W Q hr hn
  unfold qde at h
  refine wpIn_block (ih st _ L h M O a W _ hr fun e M' st' O' L' a' W' hk hr' => ?_)
  cases e with
  |exit id' =>
   simp only at hk
   unfold Exit.inBlock
   split at hk
   ·rename_i hid
    simp only[hid,if_true]
    exact hn _ M' st' O' L' a' W' hk hr'
   ·rename_i hid
    simp only[hid,if_false]
    exact hn _ M' st' O' L' a' W' hk hr'
  |normal=>exact hn _ M' st' O' L' a' W' hk hr'
  |goto l=>exact hn _ M' st' O' L' a' W' hk hr'
  |ret=>exact hn _ M' st' O' L' a' W' hk hr'
  |panic ch=>exact hn _ M' st' O' L' a' W' hk hr'
  |outgrown=>exact hn _ M' st' O' L' a' W' hk hr'
 |loop c ih=>
  intro st K L h M O a W Q hr hn
  unfold qde at h
  refine z51 (fun m a' w' =>∃st' M' O' L',zud m (fun st K=>qde P cal qcal dec c st K) st' K=some L' ∧ItRel xs l0 J Jx M' st' O' L' a' w') (m:=300) ⟨st,M,O,L,h,hr⟩ ?_
  rintro m a1 w1 ⟨st1,M1,O1,L1,h1,hr1⟩
  cases m with
  |zero=>cases h1
  |succ m=>
   unfold zud at h1
   refine ih st1 _ L1 h1 M1 O1 a1 w1 _ hr1 fun e M' st' O' L' a' W' hk hr' => ?_
   cases e with
   |normal=>exact⟨m,by omega,st',M',O',L',hk,hr'⟩
   |exit id=>exact hn _ M' st' O' L' a' W' hk hr'
   |goto l=>exact hn _ M' st' O' L' a' W' hk hr'
   |ret=>exact hn _ M' st' O' L' a' W' hk hr'
   |panic ch=>exact hn _ M' st' O' L' a' W' hk hr'
   |outgrown=>exact hn _ M' st' O' L' a' W' hk hr'
 |exit id=>intro st K L h M O a W Q hr hn;exact wpIn_exit (hn _ M st O L a W h hr)
 |ret=>intro st K L h M O a W Q hr hn;exact wpIn_ret (hn _ M st O L a W h hr)
 |label l=>intro st K L h M O a W Q hr hn;exact wpIn_label (hn _ M st O L a W h hr)
 |_=>intro st K L h;cases h
end
def kIEnd(P:Program)(fn:Func):Exit→St→Option (List (Nat×α)):=fun e st=>match e with
 | .normal| .ret=>match qwl P st fn.results.toList with
  |some _=>some []
  |none=>none
 |_=>none
def itHead(fn:Func)(n:Nat)(ins:List Item)(l:Nat)(d:D (tysI ins [])):St:=⟨(.yld l::(bldS n ins d).tmps)++yx (fn.ntmps-(n+1)) .undef,(bldS n ins d).heap⟩
theorem jc8{P:Program}{gf:FuncId}{fn:Func}{c:Code}(hf:P.funcs[gf]? =some fn)(hb:fn.body=some c){encs:α→Array Value}{ok:α→Prop}{n:Nat}{ins:List Item}{F:D (tysI ins [])→Option (List α)}
  (hlen:∀d,(bldS n ins d).tmps.length=n) (hown:∀d,zt6 (bldS n ins d).heap=true)
  (h:∀(d:D (tysI ins [])) (xs:List α) (l0:Nat) (J Jx:List α→(Nat→Prop)→World→Prop),F d=some xs→Yields P l0 encs ok xs J Jx→∀(M:List Place) (O:Nat→Prop) (a:Go.Act) (W:World),ItRel xs l0 J Jx M (itHead fn n ins l0 d) O (xs.map fun x=>(l0,x)) a W→
   c.wpIn Fence.wide 0 P (fun e a' W' =>∃M' st' O',kIEnd (α:=α) P fn e st' =some []∧ItRel xs l0 J Jx M' st' O' [] a' W') a W):j7h P gf encs ok n ins F:=by
 intro d xs hd M w O0 lb hl hH hO
 intro l J Jx W hs hz hJ hJx hY hJ0
 have hsz:=qp5 hl
 simp at hsz
 refine callsIn_of_wp hf hb trivial ?_
 have hy:Yields P l encs ok xs J Jx:=⟨hJ,hJx,hY⟩
 have hH' :RelH M (bldS n ins d).heap (itB O0 W) W:=j7g hH (hown d) hs hz
 ·refine wpIn_mono (h d xs l J Jx hd hy M O0 _ W ⟨?_,rfl,hH',fun k hk=>Nat.lt_of_lt_of_le (hO k hk) hz,.inl ⟨[],xs,rfl,rfl,hJ0⟩⟩) ?_
  ·have h1:RelL M (.yld l::(bldS n ins d).tmps) (#[Value.func (.yield l) #[] #[]]++lb).toList:=by
    rw[Array.toList_append]
    exact RelL_cons.2 ⟨_,_,rfl,by simp[RelX],hl⟩
   have h2:=qwm h1 (fn.ntmps-(n+1))
   have e:(#[Value.func (.yield l) #[] #[]]++lb).size=n+1:=by
    have:=hlen d
    simp
    omega
   rw[e]
   exact h2
  ·rintro e a' W' ⟨M',st',O',hk,hr⟩
   have fin:(match qwl P st' fn.results.toList with|some _=>some []|none=>none)=some ([]:List (Nat×α))→a'.defers=[]∧∃v,(results fn a'.tmps).run P W' = .ok v W' ∧((∃v',Ending.returned v= .returned v')∧((∃O,J xs O W')∨∃pre O,pre<+:xs∧Jx pre O W')):=by
    intro hk
    split at hk
    ·rename_i lr hlr
     obtain⟨rs,h1,h2⟩:=qkl (fn:=fn) hr.tmps hr.heap hlr
     refine⟨hr.defers,_,h2,⟨_,rfl⟩,?_⟩
     rcases hr.go with⟨pre,rest,g1,g2,g3⟩|⟨_,pre,g2,g3⟩
     ·have:rest=[]:=by simpa using g2.symm
      subst this
      simp at g1
      subst g1
      exact .inl ⟨_,g3⟩
     ·exact .inr ⟨pre,_,g2,g3⟩
    ·cases hk
   cases e<;>simp only[kIEnd,reduceCtorEq]at hk
   case normal=>exact fin hk
   case ret=>exact fin hk
theorem j51{P:Program}(hP:q0u P){cal:Cals}(hcal:∀σ f,qex P f (cal σ f)){qcal:QCals}(hq:∀σ f,qb3 P f (qcal σ f)){gf:FuncId}{fn:Func}{c:Code}(hf:P.funcs[gf]? =some fn)(hb:fn.body=some c){encs:α→Array Value}{ok:α→Prop}{dec:List AV→Option α}(hdec:j9f dec encs ok)
  {n:Nat} {ins:List Item} {F:D (tysI ins [])→Option (List α)} (hlen:∀d,(bldS n ins d).tmps.length=n) (hown:∀d,zt6 (bldS n ins d).heap=true)
  (h:∀l d,qde P (cal _) (qcal _) dec c (itHead fn n ins l d) (kIEnd P fn)=(F d).map (List.map fun x=>(l,x))):j7h P gf encs ok n ins F:=by
 refine jc8 hf hb hlen hown fun d xs l0 J Jx hd hy M O a W hr=> ?_
 have h1:=h l0 d
 rw[hd]at h1
 refine zun hP (hcal _) (hq _) hy hdec c _ _ _ h1 M O a W _ hr fun e M' st' O' L' a' W' hk hr' => ?_
 have hL:L' =[]:=by
  unfold kIEnd at hk
  split at hk
  ·split at hk
   ·cases hk;rfl
   ·cases hk
  ·split at hk
   ·cases hk;rfl
   ·cases hk
  ·cases hk
 subst hL
 exact⟨M',st',O',hk,hr'⟩
end Go.AE
namespace Go.AE
open Go Go.RowKit
def texV(l:LI):Value:= .agg (l.map (Value.int .i64)).toArray
def jc9(x:LI×LI):Array Value:= #[texV x.1,texV x.2]
def encTT(x:LI×LI):List AV:=[.agg [.is .i64 4 x.1],.agg [.is .i64 4 x.2]]
def okT(l:LI):Prop:=l.length=4∧∀x∈l,IntKind.i64.has x
def okTT(x:LI×LI):Prop:=okT x.1∧okT x.2
def decTT:List AV→Option (LI×LI)
 |[x,y]=>match getT (.is .i64 4) x,getT (.is .i64 4) y with
  |some a,some b=>some (a,b)
  |_,_=>none
 |_=>none
theorem jca{M:List Place}{x:AV}{v:Value}{l:LI}(h:getT (.is .i64 4) x=some l)(hr:RelV M x v):v=texV l∧okT l:=by
 have:=zue (t:= .is .i64 4) (M' :=M) (fun h=>by cases h) h hr
 obtain⟨vs,e,hc⟩:=RelX_agg.1 this
 obtain⟨h1,h2,h3⟩:=RelX_is.1 (RelC_single.1 hc)
 refine⟨?_,h1,h3⟩
 have e:v= .agg vs:=by simpa using e
 rw[e]
 unfold texV
 congr 1
 apply Array.toList_inj.1
 rw[h2]
theorem j7k(l:LI)(h:okT l)(M:List Place):RelV M (.agg [.is .i64 4 l]) (texV l):=
 RelX_agg.2 ⟨_,rfl,RelC_single.2 (RelX_is.2 ⟨h.1,by simp,h.2⟩)⟩
theorem decTT_ok:j9f decTT jc9 okTT:=by
 intro M args vs x hl h
 unfold decTT at h
 split at h
 ·split at h
  ·rename_i a b ha hb
   cases h
   obtain⟨v,r,rfl,h1,h2⟩:=RelL_cons.1 hl
   obtain⟨v2,r2,rfl,h3,h4⟩:=RelL_cons.1 h2
   rw[RelL_nil]at h4
   subst h4
   obtain⟨e1,g1⟩:=jca ha h1
   obtain⟨e2,g2⟩:=jca hb h3
   subst e1 e2
   exact⟨rfl,g1,g2⟩
  ·cases h
 ·cases h
theorem jcb(x:LI×LI)(h:okTT x)(M:List Place):RelL M (encTT x) (jc9 x).toList:=
 RelL_cons.2 ⟨_,_,rfl,j7k _ h.1 M,RelL_cons.2 ⟨_,_,rfl,j7k _ h.2 M,RelL_nil.2 rfl⟩⟩
def txt(t:LI)(i:Nat):LI:=(t.drop (4*i)).take 4
def zt7(t:LI):List (LI×LI):=(yy 16).flatMap fun i=>(yy (15-i)).map fun j=>(txt t i,txt t (i+1+j))
def rngPs:List Code→Array Tmp
 | .block _ (.rangeFunc _ ps _ _)::_=>ps
 |_=> #[]
def jcc:List Code→Code
 | .block _ (.rangeFunc _ _ a _)::_=>a
 |_=> .skip
def rngBody:List Code→Code
 | .block _ (.rangeFunc _ _ _ b)::_=>b
 |_=> .skip
def isRng(out g:Nat):List Code→Bool
 | .block o (.rangeFunc (.tmp t) _ _ _)::_=>o==out&&t==g
 |_=>false
theorem jcd{c:Code}{k out g:Nat}(h:isRng out g ((qdd c).drop k)=true):qdd c=(qdd c).take k++ .block out (.rangeFunc (.tmp g) (rngPs ((qdd c).drop k)) (jcc ((qdd c).drop k)) (rngBody ((qdd c).drop k)))::(qdd c).drop (k+1):=by
 conv=>lhs;rw[←List.take_append_drop k (qdd c)]
 congr 1
 rw[←List.drop_drop (i:=1) (j:=k)]
 generalize (qdd c).drop k=l at h⊢
 unfold isRng at h
 split at h
 ·simp only[yl,beq_iff_eq]at h
  obtain⟨rfl,rfl⟩:=h
  rfl
 ·cases h
end Go.AE

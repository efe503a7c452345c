/- A part of the proof, put together of my texts: Fw16, Fw17, Fw18, Fw19, Fw20, Fw21, Fw22, Fw23, Fw24, A02defs, A07defs, B06defs, B10defs. -/
import Derived.OpenShut
import GoSem.ClaimWide
import Derived.Maps.Range
import Derived.DeepKeys5
import Derived.Test.YtdnccegimipapaaGreatRowEtcfitLessP2
set_option linter.unusedVariables false
set_option linter.unusedSimpArgs false
open List renaming replicate → yz, getD_eq_getElem?_getD → ye, getElem?_append_left → yg, getElem?_eq_getElem → yj, getElem?_append_right → w9, mem_cons → yr, mem_append → yk, length → ya, length_append → yo, getElem?_eq_none → wa, set → yy, take → y8, drop → y9, getD → y7
open Option.some renaming injEq → yf
open Nat renaming le_refl → wc
open Prod.mk renaming injEq → ym
open Bool renaming and_eq_true → yl
open Go.IntKind renaming wrap → y0
open Int renaming toNat → y6, tdiv → yx, tmod → yw
namespace Go.AE
open Go Go.RowKit
variable {ρ:Type}
def st0(n:Nat):St:=⟨yz n .undef,[none]⟩
def zpn:Act:=⟨none,false,false,false⟩
noncomputable def fzOf(M:List Place)(k:Nat):Option Obj:=by
 classical exact if h:∃ob,FzAt M k ob then some h.choose else none
noncomputable def qze(M:List Place):Place:=⟨true,0,0,0,0,fzOf M⟩
theorem zv2{M:List Place}{k:Nat}{ob:Obj}(h:fzOf M k=some ob):FzAt M k ob:=by
 unfold fzOf at h
 split at h
 ·rename_i hx
  cases h
  exact hx.choose_spec
 ·cases h
theorem qzf{M:List Place}:FzSub [qze M] M:=fun k ob ⟨i,pl,h1,h2⟩=>by
 have:pl=qze M:=by simpa using List.mem_of_getElem? h1
 subst this
 exact zv2 h2
theorem z91{M:List Place}{H:Heap}{B:Base}{w:World}(r:RelH M H B w):FzSub M [qze M]:=fun k ob h=>by
 refine⟨0,qze M,rfl,?_⟩
 show fzOf M k=some ob
 have hx:∃ob,FzAt M k ob:=⟨ob,h⟩
 have e:fzOf M k=some hx.choose:=by
  unfold fzOf
  rw[dif_pos hx]
 have h1:=(r.fz k ob h).1
 have h2:=(r.fz k _ hx.choose_spec).1
 rw[h1]at h2
 rw[e,Option.some.inj h2]
theorem told0{M:List Place}{st:St}{B:Base}{w:World}{a:Array Value}(hH:RelH M st.heap B w)(n:Nat)(hn:n=a.size):Told M st B w a [zpn] [qze M] (st0 n):=by
 refine⟨⟨by simp[st0,hn],fun t=> ?_⟩,⟨rfl,hH.base,fun i o h=> ?_,fun i j oi oj pi pj h=> ?_,fun i o pl k h=> ?_,fun i o pl h=> ?_,fun k ob h=>hH.fz k ob (qzf k ob h),fun i o pl h=> ?_,hH.bf⟩,rfl,fun i ac h=> ?_,z91 hH,qzf⟩
 ·have:(yz n AV.undef).getD t .undef= .undef:=by
   rw[ye,List.getElem?_replicate]
   split<;>rfl
  show RelV _ ((yz n AV.undef).getD t .undef) _
  rw[this]
  exact q49 _ _
 all_goals try (cases i<;>simp[st0]at h)
 subst h
 refine⟨qze M,rfl,fun b h=>(by cases h),⟨fun _=>⟨fun h=>(by cases h),fun h=>(by cases h)⟩,fun k ob h=>zv2 h⟩,fun oi h=>(by simp[st0]at h),fun h=>(by cases h)⟩
theorem ext_rel{M:List Place}{st:St}{B:Base}{w0:World}{a:Go.Act}{w:World}(r:Rel M st B w0 a w){its:List Item}{d:D (tysI its [])}(h:extI st true its [] () [zpn]=some d){n:Nat}(hn:st.tmps.length=n):∃M',Rel M' (bldI its [] d (st0 n)).1 B w0 a w:=by
 obtain⟨⟨M2,t⟩,_⟩:=q66 r.tmps r.heap (fun h=>by cases h) (told0 (a:=a.tmps) r.heap n (by rw[←hn];exact r.tmps.1)) h
 exact⟨M2,t.tmps,r.defers,t.heap,r.below⟩
def z5o(P:Program)(st:St):List ResultVar→Option (List AV)
 |[]=>some []
 | .tmp t::r=>match z5o P st r with
  |some l=>some (st.tmps.getD t .undef::l)
  |none=>none
 | .cell t ty::r=>match zsm P st.heap ty (st.tmps.getD t .undef),z5o P st r with
  |some x,some l=>some (x::l)
  |_,_=>none
def retV(rs:Array Value):Value:=if h:rs.size=1 then rs[0]else .tuple rs
def retA:List AV→AV
 |[x]=>x
 |l=> .tup l
def z92(a:Array Value)(x:ResultVar):Sem Value:=
 match x with
 | .tmp t=>pure (a.getD t undef)
 | .cell c t=>(do loadVar t (←asAddr (a.getD c undef)):Sem Value)
theorem qzg{P:Program}{M:List Place}{st:St}{B:Base}{w:World}{a:Array Value}(ht:RelT M st.tmps a)(hH:RelH M st.heap B w):∀{rs:List ResultVar} {l:List AV},z5o P st rs=some l→
  ∃vs:List Value,RelL M l vs∧(rs.mapM (z92 a)).run P w= .ok vs w
 |[],l,h=>by
  simp only[z5o,yf]at h
  subst h
  exact⟨[],RelL_nil.2 rfl,by simp⟩
 | .tmp t::r,l,h=>by
  simp only[z5o]at h
  split at h
  ·rename_i l' hl
   cases h
   obtain⟨vs,h1,h2⟩:=qzg ht hH hl
   have h3:(z92 a (.tmp t)).run P w= .ok (a.getD t undef) w:=rfl
   exact⟨a.getD t undef::vs,RelL_cons.2 ⟨_,_,rfl,ht.2 t,h1⟩,by rw[List.mapM_cons];simp only[Sem.run_bind,Sem.run_pure,Result.andThen_ok,h2,h3]⟩
  ·cases h
 | .cell c t::r,l,h=>by
  simp only[z5o]at h
  split at h
  ·rename_i x l' hx hl
   cases h
   obtain⟨vs,h1,h2⟩:=qzg ht hH hl
   obtain⟨A,u,e,hu,hrun⟩:=z8g hH (ht.2 c) hx
   have h3:(z92 a (.cell c t)).run P w= .ok u w:=by
    show((do loadVar t (←asAddr (a.getD c undef)):Sem Value)).run P w=_
    rw[Sem.run_bind,e]
    simp only[asAddr,Sem.run_pure,Result.andThen_ok]
    exact hrun w (Below.refl _ _)
   exact⟨u::vs,RelL_cons.2 ⟨_,_,rfl,hu,h1⟩,by rw[List.mapM_cons];simp only[Sem.run_bind,Sem.run_pure,Result.andThen_ok,h2,h3]⟩
  ·cases h
theorem z93{P:Program}{M:List Place}{st:St}{B:Base}{w:World}{a:Array Value}(ht:RelT M st.tmps a)(hH:RelH M st.heap B w){fn:Func}{l:List AV}(h:z5o P st fn.results.toList=some l):
  ∃vs:Array Value,RelL M l vs.toList∧(results fn a).run P w= .ok (retV vs) w:=by
 obtain⟨vs,h1,h2⟩:=qzg ht hH h
 refine⟨vs.toArray,by simpa using h1,?_⟩
 have h3:(fn.results.mapM (z92 a)).run P w= .ok vs.toArray w:=by
  rw[Array.mapM_eq_mapM_toList]
  show((List.toArray<$>fn.results.toList.mapM (z92 a):Sem (Array Value))).run P w=_
  rw[map_eq_pure_bind,Sem.run_bind,h2]
  rfl
 have h4:results fn a=(do
   let vs←fn.results.mapM (z92 a)
   pure (if h:vs.size=1 then vs[0]else .tuple vs)):=by
  unfold results
  have:(fun(x:ResultVar)=>(match x with| .tmp t=>pure (a.getD t undef)| .cell c t=>(do loadVar t (←asAddr (a.getD c undef)):Sem Value):Sem Value))=z92 a:=by
   funext x
   cases x<;>rfl
  rw[←this]
  rfl
 rw[h4,Sem.run_bind,h3]
 rfl
theorem zhw{M:List Place}{l:List AV}{vs:Array Value}(h:RelL M l vs.toList):RelV M (retA l) (retV vs):=by
 have hlen:∀{l:List AV} {vs:List Value},RelL M l vs→l.length=vs.length:=by
  intro l
  induction l with
  |nil=>intro vs h;rw[RelL_nil]at h;subst h;rfl
  |cons x l ih=>intro vs h;obtain⟨v,r,rfl,_,hr⟩:=RelL_cons.1 h;simp[ih hr]
 have hl:=hlen h
 simp at hl
 unfold retA retV
 split
 ·rename_i x
  simp at hl
  rw[dif_pos hl.symm]
  obtain⟨v,r,e,hx,hr⟩:=RelL_cons.1 h
  rw[RelL_nil]at hr
  subst hr
  have:vs[0]'(by omega)=v:=by
   have:=congrArg (fun l:List Value=>l[0]?) e
   simpa[hl.symm]using this
  rw[this]
  exact hx
 ·rename_i hne
  rw[dif_neg]
  ·simp only[RelV,RelX]
   exact⟨vs,rfl,h⟩
  ·intro h1
   rw[h1]at hl
   obtain⟨x,rfl⟩:=List.length_eq_one_iff.1 hl
   exact hne x rfl
def zgs(P:Program)(cal:Cal ρ)(qcal:QCal ρ)(ann:Nat→Option (Ann ρ))(f:FuncId)(args:List AV)(H:Heap)(K:List AV→Heap→Option ρ):Option ρ:=
 match P.funcs[f]? with
 |some fn=>match fn.body with
  |some c=>q76 P cal qcal ann c ⟨args++yz (fn.ntmps-args.length) .undef,H⟩ fun e st=>match e with
   | .normal| .ret=>match z5o P st fn.results.toList with
    |some l=>K l st.heap
    |none=>none
   |_=>none
  |none=>none
 |none=>none
theorem z0m{M:List Place}:∀{l:List AV} {vs:List Value},RelL M l vs→l.length=vs.length
 |[],vs,h=>by rw[RelL_nil]at h;subst h;rfl
 |x::l,vs,h=>by obtain⟨v,r,rfl,_,hr⟩:=RelL_cons.1 h;simp[z0m hr]
theorem z94{M:List Place}{args:List AV}{vs:Array Value}(h:RelL M args vs.toList)(n:Nat):RelT M (args++yz n .undef) (vs++Array.replicate n undef):=by
 have hs:=z0m h
 simp at hs
 refine⟨by simp[hs],fun t=> ?_⟩
 by_cases ht:t<args.length
 ·have e1:(args++yz n AV.undef).getD t .undef=args[t]:=by simp[ye,yg ht,ht]
  rw[e1]
  obtain⟨v,hv,hr⟩:=zhi h (yj ht)
  have e2:(vs++Array.replicate n undef).getD t undef=v:=by
   have hv' :vs[t]? =some v:=by simpa using hv
   simp[Array.getElem?_append_left (show t<vs.size by omega),hv']
  rw[e2]
  exact hr
 ·have e1:(args++yz n AV.undef).getD t .undef= .undef:=by
   rw[ye,w9 (by omega),List.getElem?_replicate]
   split<;>rfl
  rw[e1]
  exact q49 _ _
theorem z4w{P:Program}(hP:q21 P){cal:Cal ρ}(hcal:∀f,qs8 P f (cal f)){qcal:QCal ρ}(hq:∀f,qlj P f (qcal f)){ann:Nat→Option (Ann ρ)}{x:Bool}{f:FuncId}{args:List AV}{H:Heap}{K:List AV→Heap→Option ρ}{r:ρ}
  (h:zgs P cal qcal ann f args H K=some r) {M:List Place} {B:Base} {w:World} {vs:Array Value}
  (hann:∀fn c,P.funcs[f]? =some fn→fn.body=some c→∀id an c',ann id=some an→(id,c')∈q9i c→z38 P x B w (.block id c') an)
  (hl:RelL M args vs.toList) (hH:RelH M H B w):
  Calls P f vs w fun e w' =>∃rs l H' M',e= .returned (retV rs)∧K l H' =some r∧ExtO x M M' ∧RelL M' l rs.toList∧RelH M' H' B w' ∧Beneath B w w' :=by
 unfold zgs at h
 split at h
 ·rename_i fn hf
  split at h
  ·rename_i c hb
   have hs:=z0m hl
   simp at hs
   refine calls_of_wp hf hb ?_
   have hr0:Rel M ⟨args++yz (fn.ntmps-args.length) .undef,H⟩ B w {tmps:=vs++Array.replicate (fn.ntmps-vs.size) undef,defers:=[]} w:=
    ⟨by rw[hs];exact z94 hl _,rfl,hH,Beneath.refl _ _⟩
   refine qgq hP hcal hq c (hann fn c hf hb) _ _ h M _ w _ hr0 fun e M' st' a' w' hE hk hr=> ?_
   have fin:(match z5o P st' fn.results.toList with|some l=>K l st'.heap|none=>none)=some r→
     a'.defers=[]∧∃v,(results fn a'.tmps).run P w' = .ok v w' ∧∃rs l H' M',Ending.returned v= .returned (retV rs)∧K l H' =some r∧ExtO x M M' ∧RelL M' l rs.toList∧RelH M' H' B w' ∧Beneath B w w' :=by
    intro hk
    split at hk
    ·rename_i l hres
     obtain⟨rs,h1,h2⟩:=z93 hr.tmps hr.heap hres
     exact⟨hr.defers,_,h2,rs,l,_,M',rfl,hk,hE,h1,hr.heap,hr.below⟩
    ·cases hk
   cases e<;>simp only[reduceCtorEq]at hk
   case normal=>exact fin hk
   case ret=>exact fin hk
  ·cases h
 ·cases h
structure Env (ρ:Type) where
 sum:FuncId→Option (List AV→Heap→(AV→Heap→Option ρ)→Option ρ)
 qsum:FuncId→Option (List AV→Heap→(AV→Option ρ)→Option ρ)
structure EnvOk (P:Program) (E:Env ρ):Prop where
 sum:∀f s,E.sum f=some s→qs8 P f s
 qsum:∀f s,E.qsum f=some s→qlj P f s
def qof(E:Env ρ):QCal ρ:=fun f args H K=>match E.qsum f with
 |some s=>s args H K
 |none=>none
def evFn(P:Program)(E:Env ρ):Nat→Cal ρ
 |0=>fun _ _ _ _=>none
 |n+1=>fun f args H K=>match E.sum f with
  |some s=>s args H K
  |none=>zgs P (evFn P E n) (qof E) (fun _=>none) f args H fun l H' =>K (retA l) H'
theorem zrm{P:Program}{E:Env ρ}(hE:EnvOk P E)(f:FuncId):qlj P f (qof E f):=by
 intro args H K r h M B w vs hl hH
 unfold qof at h
 split at h
 ·rename_i s hs
  exact hE.qsum f s hs args H K r h M B w vs hl hH
 ·cases h
theorem z95{P:Program}(hP:q21 P){E:Env ρ}(hE:EnvOk P E):∀(n:Nat) (f:FuncId),qs8 P f (evFn P E n f)
 |0,f=>fun args H K r h=>by cases h
 |n+1,f=>by
  intro args H K r h M B w vs hl hH
  unfold evFn at h
  split at h
  ·rename_i s hs
   exact hE.sum f s hs args H K r h M B w vs hl hH
  ·refine(z4w hP (z95 hP hE n) (zrm hE) (x:=true) h (fun _ _ _ _ id an c' h1=>(by cases h1)) hl hH).mono ?_
   rintro e w' ⟨rs,l,H',M',h1,h2,h3,h4,h5,h6⟩
   exact⟨retV rs,retA l,H',M',h1,h2,h3 rfl,h5,h6,zhw h4⟩
inductive CO where
 |hole (t:Ty)
 |const (a:AV)
 |row (k:IntKind) (sz:Nat) (own:Bool)
inductive Out where
 |ty (t:Ty)
 |row (k:IntKind) (sz:Nat) (own:Bool:=true)
 |agg (cs:List CO)
 |prow (pin:Nat) (k:IntKind)
 |psegs (pin:Nat) (cs:List CO)
@[reducible] def z3c:List CO→List Ty→List Ty
 |[],acc=>acc
 | .hole t::r,acc=>t::z3c r acc
 | .const _::r,acc=>z3c r acc
 | .row k _ _::r,acc=> .row k::z3c r acc
@[reducible] def tysO:List Out→List Ty
 |[]=>[]
 | .ty t::r=>t::tysO r
 | .row k _ _::r=> .row k::tysO r
 | .agg cs::r=>z3c cs (tysO r)
 | .prow _ k::r=> .row k::tysO r
 | .psegs _ cs::r=>z3c cs (tysO r)
def zdl:List CO→Nat
 |[]=>0
 | .row _ _ _::r=>zdl r+1
 |_::r=>zdl r
def slO(b sz:Nat)(l:LI)(own:Bool):AV:= .sl b 0 (div1 l.length sz) sz (if own then .own else .whole)
def qzh:(cs:List CO)→(acc:List Ty)→D (z3c cs acc)→Nat→List AV
 |[],_,_,_=>[]
 | .hole t::r,acc,d,b=>mkC t d.1::qzh r acc d.2 b
 | .const a::r,acc,d,b=>a::qzh r acc d b
 | .row _ sz own::r,acc,d,b=>slO b sz d.1 own::qzh r acc d.2 (b+1)
def qi9:(cs:List CO)→(acc:List Ty)→D (z3c cs acc)→Heap
 |[],_,_=>[]
 | .hole _::r,acc,d=>qi9 r acc d.2
 | .const _::r,acc,d=>qi9 r acc d
 | .row k _ own::r,acc,d=>some ⟨.row k d.1,own,none⟩::qi9 r acc d.2
def qqr:(cs:List CO)→(acc:List Ty)→D (z3c cs acc)→D acc
 |[],_,d=>d
 | .hole _::r,acc,d=>qqr r acc d.2
 | .const _::r,acc,d=>qqr r acc d
 | .row _ _ _::r,acc,d=>qqr r acc d.2
def avsO:(os:List Out)→D (tysO os)→Nat→List AV
 |[],_,_=>[]
 | .ty t::r,d,b=>mkT t d.1::avsO r d.2 b
 | .row _ sz own::r,d,b=>slO b sz d.1 own::avsO r d.2 (b+1)
 | .agg cs::r,d,b=> .agg (qzh cs (tysO r) d b)::avsO r (qqr cs (tysO r) d) (b+zdl cs)
 | .prow _ _::r,d,b=>avsO r d.2 b
 | .psegs _ cs::r,d,b=>avsO r (qqr cs (tysO r) d) (b+zdl cs)
def qd8:(os:List Out)→D (tysO os)→Heap
 |[],_=>[]
 | .ty _::r,d=>qd8 r d.2
 | .row k _ own::r,d=>some ⟨.row k d.1,own,none⟩::qd8 r d.2
 | .agg cs::r,d=>qi9 cs (tysO r) d++qd8 r (qqr cs (tysO r) d)
 | .prow _ _::r,d=>qd8 r d.2
 | .psegs _ cs::r,d=>qi9 cs (tysO r) d++qd8 r (qqr cs (tysO r) d)
def upsO:(os:List Out)→D (tysO os)→Nat→List (Nat×Cont)
 |[],_,_=>[]
 | .ty _::r,d,b=>upsO r d.2 b
 | .row _ _ _::r,d,b=>upsO r d.2 (b+1)
 | .agg cs::r,d,b=>upsO r (qqr cs (tysO r) d) (b+zdl cs)
 | .prow pin k::r,d,b=>(pin,.row k d.1)::upsO r d.2 b
 | .psegs pin cs::r,d,b=>(pin,.segs (qzh cs (tysO r) d b))::upsO r (qqr cs (tysO r) d) (b+zdl cs)
theorem qnk:∀{cs:List CO} {acc:List Ty} {d:D (z3c cs acc)},(qi9 cs acc d).length=zdl cs
 |[],_,_=>rfl
 | .hole _::r,acc,d=>qnk (cs:=r) (d:=d.2)
 | .const _::r,acc,d=>qnk (cs:=r) (d:=d)
 | .row _ _ _::r,acc,d=>by simp[qi9,zdl,qnk (cs:=r) (d:=d.2)]
theorem qju:∀{cs:List CO} {acc:List Ty} {d:D (z3c cs acc)},∀x∈qi9 cs acc d,x≠none
 |[],_,_=>by simp[qi9]
 | .hole _::r,acc,d=>qju (cs:=r) (d:=d.2)
 | .const _::r,acc,d=>qju (cs:=r) (d:=d)
 | .row _ _ _::r,acc,d=>by
  intro x hx
  simp only[qi9,yr]at hx
  rcases hx with rfl|hx
  ·simp
  ·exact qju (cs:=r) (d:=d.2) x hx
theorem qnl:∀{os:List Out} {d:D (tysO os)},∀x∈qd8 os d,x≠none
 |[],_=>by simp[qd8]
 | .ty _::r,d=>qnl (os:=r) (d:=d.2)
 | .row _ _ _::r,d=>by
  intro x hx
  simp only[qd8,yr]at hx
  rcases hx with rfl|hx
  ·simp
  ·exact qnl (os:=r) (d:=d.2) x hx
 | .agg cs::r,d=>by
  intro x hx
  simp only[qd8,yk]at hx
  rcases hx with hx|hx
  ·exact qju x hx
  ·exact qnl x hx
 | .prow _ _::r,d=>qnl (os:=r) (d:=d.2)
 | .psegs _ cs::r,d=>by
  intro x hx
  simp only[qd8,yk]at hx
  rcases hx with hx|hx
  ·exact qju x hx
  ·exact qnl x hx
theorem zt0{os:List Out}{d:D (tysO os)}(i:Nat)(hi:i<(qd8 os d).length):(qd8 os d)[i]≠none:=qnl _ (List.getElem_mem hi)
def z5p:Heap→Nat→Nat→Option Nat
 |[],_,_=>none
 |o::r,k,i=>match o with
  |some ob=>if ob.pin=some k then some i else z5p r k (i+1)
  |none=>z5p r k (i+1)
theorem z3d:∀{H:Heap} {k i b:Nat},z5p H k i=some b→i≤b∧∃o,H[b-i]? =some (some o)∧o.pin=some k
 |[],k,i,b,h=>by cases h
 |o::r,k,i,b,h=>by
  have next:z5p r k (i+1)=some b→i≤b∧∃o',(o::r)[b-i]? =some (some o')∧o'.pin=some k:=by
   intro h
   obtain⟨h1,o',h2,h3⟩:=z3d h
   refine⟨by omega,o',?_,h3⟩
   rw[show b-i=(b-(i+1))+1 by omega]
   simpa using h2
  unfold z5p at h
  split at h
  ·rename_i ob
   split at h
   ·rename_i hk
    cases h
    exact⟨wc _,ob,by simp,hk⟩
   ·exact next h
  ·exact next h
def zv3(H:Heap)(k:IntKind)(sz:Nat)(own:Bool)(x:AV)(used:List Nat):Option (LI×List Nat):=
 match x with
 | .nils=>if 1≤sz then some ([],used)else none
 | .sl b off len s c=>if s=sz∧1≤sz∧used.contains b=false∧(own=true→c= .own)then
   match H[b]? with
   |some (some ⟨_,o,_⟩)=>if own=true→o=true then
     match z4o H (.sl b off len s c)with
     |some (.row k' l)=>if k' =k then some (l,b::used)else none
     |_=>none
    else none
   |_=>none
  else none
 |_=>none
def exCO(H:Heap):(cs:List CO)→(acc:List Ty)→(List Nat→Option (D acc))→List AV→List Nat→Option (D (z3c cs acc))
 |[],_,rest,[],used=>rest used
 | .hole t::r,acc,rest,xs,used=>match popC t xs with
  |some (v,ys)=>match exCO H r acc rest ys used with
   |some d=>some (v,d)
   |none=>none
  |none=>none
 | .const a::r,acc,rest,x::xs,used=>if zhu a x then exCO H r acc rest xs used else none
 | .row k sz own::r,acc,rest,x::xs,used=>match zv3 H k sz own x used with
  |some (l,used')=>match exCO H r acc rest xs used' with
   |some d=>some (l,d)
   |none=>none
  |none=>none
 |_,_,_,_,_=>none
def exO(H:Heap)(kept:List Nat):(os:List Out)→List AV→List Nat→Option (D (tysO os))
 |[],[],_=>some ()
 | .ty t::r,x::xs,used=>match getT t x,exO H kept r xs used with
  |some v,some d=>some (v,d)
  |_,_=>none
 | .row k sz own::r,x::xs,used=>match zv3 H k sz own x used with
  |some (l,used')=>match exO H kept r xs used' with
   |some d=>some (l,d)
   |none=>none
  |none=>none
 | .agg cs::r,x::xs,used=>match x with
  | .agg ys=>exCO H cs (tysO r) (exO H kept r xs) ys used
  |_=>none
 | .prow pin k::r,xs,used=>match z5p H pin 0 with
  |some b=>match H[b]? with
   |some (some ⟨.row k' l,true,_⟩)=>if k' =k∧kept.contains b=true then(match exO H kept r xs used with|some d=>some (l,d)|none=>none)else none
   |_=>none
  |none=>none
 | .psegs pin cs::r,xs,used=>match z5p H pin 0 with
  |some b=>match H[b]? with
   |some (some ⟨.segs ys,true,_⟩)=>if kept.contains b=true then exCO H cs (tysO r) (exO H kept r xs) ys used else none
   |_=>none
  |none=>none
 |_,_,_=>none
def z96(H:Heap):List Out→List Nat
 |[]=>[]
 | .prow pin _::r=>(match z5p H pin 0 with|some b=>[b]|none=>[])++z96 H r
 | .psegs pin _::r=>(match z5p H pin 0 with|some b=>[b]|none=>[])++z96 H r
 |_::r=>z96 H r
structure News (B:Base) (w:World) (N:List Place) (H:Heap):Prop where
 len:N.length=H.length
 obj:∀(i:Nat) (o:AObj),H[i]? =some (some o)→o.pin=none∧(∃k l,o.c= .row k l)∧∃pl,N[i]? =some pl∧ql8 [] o pl B w∧(pl.nil=false→B.vis pl.blk)
 sep:∀(i j:Nat) (oi oj:AObj) (pi pj:Place),H[i]? =some (some oi)→H[j]? =some (some oj)→N[i]? =some pi→N[j]? =some pj→i≠j→oi.own=true→pi.nil=false→pj.nil=false→pi.blk≠pj.blk
def z0n:List CO→Bool
 |[]=>false
 | .hole t::r=>t.deep||z0n r
 |_::r=>z0n r
def qt7:List Out→Bool
 |[]=>false
 | .ty t::r=>t.deep||qt7 r
 | .agg cs::r=>z0n cs||qt7 r
 | .psegs _ cs::r=>z0n cs||qt7 r
 |_::r=>qt7 r
def fzH(os:List Out):Heap:=if qt7 os then[none]else[]
def zv4(B:Base)(w:World)(os:List Out)(d:D (tysO os))(vs:List Value):Prop:=
 ∃N F:List Place,News B w N (qd8 os d)∧F.length=(fzH os).length∧(∀k ob,¬FzAt N k ob)∧
  (∀k ob,FzAt F k ob→w.heap[k]? =some ob∧B.vis k∧(B.w k∨B.f k))∧
  (∀(i:Nat) (pi:Place) (oi:AObj),N[i]? =some pi→(qd8 os d)[i]? =some (some oi)→oi.own=true→pi.nil=false→¬B.f pi.blk∧∀ob,¬FzAt F pi.blk ob)∧
  (∀M:List Place,RelL (M++(N++F)) (avsO os d M.length) vs)∧
  ∀(M:List Place) (pin:Nat) (c:Cont),(pin,c)∈upsO os d M.length→∃pl,B.pin pin pl∧ql8 (M++(N++F)) ⟨c,true,none⟩ pl B w∧
   (∀(i:Nat) (pi:Place),N[i]? =some pi→pi.nil=false→pl.nil=false→pi.blk≠pl.blk)∧(pl.nil=false→∀ob,¬FzAt F pl.blk ob)
theorem News.nil(B:Base)(w:World):News B w [] []:=⟨rfl,fun i o h=>(by simp at h),fun i j oi oj pi pj h=>(by simp at h)⟩
def IntoB(M:List Place)(H:Heap)(used:List Nat)(N:List Place)(Hn:Heap):Prop:=
 ∀(i:Nat) (pi:Place) (oi:AObj),N[i]? =some pi→Hn[i]? =some (some oi)→pi.nil=false→∃b o p,b∈used∧H[b]? =some (some o)∧M[b]? =some p∧p.nil=false∧pi.blk=p.blk∧(oi.own=true→o.own=true)
def FromB(M:List Place)(H:Heap)(used:List Nat)(N:List Place)(Hn:Heap):Prop:=
 ∀(i:Nat) (pi:Place) (oi:AObj),N[i]? =some pi→Hn[i]? =some (some oi)→pi.nil=false→∃b o p,b∉used∧H[b]? =some (some o)∧M[b]? =some p∧p.nil=false∧pi.blk=p.blk∧(oi.own=true→o.own=true)
theorem News.append{B:Base}{w:World}{M:List Place}{H:Heap}(hH:RelH M H B w){N1 N2:List Place}{H1 H2:Heap}{used used2:List Nat}(h1:News B w N1 H1)(h2:News B w N2 H2)(f1:FromB M H used N1 H1)(f2:FromB M H used2 N2 H2)
  (hu:IntoB M H used2 N1 H1):News B w (N1++N2) (H1++H2):=by
 have hl:=h1.len
 have part:∀(i:Nat) (o:AObj),(H1++H2)[i]? =some (some o)→(i<N1.length∧H1[i]? =some (some o)∧(N1++N2)[i]? =N1[i]?)∨(N1.length≤i∧H2[i-N1.length]? =some (some o)∧(N1++N2)[i]? =N2[i-N1.length]?):=by
  intro i o h
  by_cases hi:i<N1.length
  ·rw[yg (by omega)]at h
   exact .inl ⟨hi,h,yg hi⟩
  ·rw[w9 (by omega)]at h
   rw[←hl]at h
   exact .inr ⟨by omega,h,w9 (by omega)⟩
 have cross:∀(i j:Nat) (oi oj:AObj) (pi pj:Place),N1[i]? =some pi→H1[i]? =some (some oi)→N2[j]? =some pj→H2[j]? =some (some oj)→(oi.own=true∨oj.own=true)→pi.nil=false→pj.nil=false→pi.blk≠pj.blk:=by
  intro i j oi oj pi pj a1 a2 b1 b2 ho n1 n2
  obtain⟨b,o,p,c1,c2,c3,c4,c5,c6⟩:=hu i pi oi a1 a2 n1
  obtain⟨b',o',p',e1,e2,e3,e4,e5,e6⟩:=f2 j pj oj b1 b2 n2
  have hne:b≠b' :=fun e=>e1 (e▸c1)
  rw[c5,e5]
  rcases ho with ho|ho
  ·exact hH.sep b b' o o' p p' c2 e2 c3 e3 hne (c6 ho) c4 e4
  ·exact fun e=>hH.sep b' b o' o p' p e2 c2 e3 c3 (fun e=>hne e.symm) (e6 ho) e4 c4 e.symm
 refine⟨by simp[hl,h2.len],fun i o h=> ?_,fun i j oi oj pi pj hi hj hpi hpj hne how hni hnj=> ?_⟩
 ·rcases part i o h with⟨_,g1,g2⟩|⟨_,g1,g2⟩
  ·obtain⟨a1,a2,pl,a3,a4⟩:=h1.obj i o g1
   exact⟨a1,a2,pl,by rw[g2];exact a3,a4⟩
  ·obtain⟨a1,a2,pl,a3,a4⟩:=h2.obj _ o g1
   exact⟨a1,a2,pl,by rw[g2];exact a3,a4⟩
 ·rcases part i oi hi with⟨l1,g1,g2⟩|⟨l1,g1,g2⟩<;>rcases part j oj hj with⟨l2,k1,k2⟩|⟨l2,k1,k2⟩
  ·exact h1.sep i j oi oj pi pj g1 k1 (by rw[←g2];exact hpi) (by rw[←k2];exact hpj) hne how hni hnj
  ·exact cross i _ oi oj pi pj (by rw[←g2];exact hpi) g1 (by rw[←k2];exact hpj) k1 (.inl how) hni hnj
  ·exact fun e=>cross j _ oj oi pj pi (by rw[←k2];exact hpj) k1 (by rw[←g2];exact hpi) g1 (.inr how) hnj hni e.symm
  ·exact h2.sep _ _ oi oj pi pj g1 k1 (by rw[←g2];exact hpi) (by rw[←k2];exact hpj) (by omega) how hni hnj
theorem z97{M:List Place}{H:Heap}{B:Base}{w:World}(hH:RelH M H B w){k:IntKind}{sz:Nat}{own:Bool}{x:AV}{used used' :List Nat}{l:LI}(h:zv3 H k sz own x used=some (l,used')){v:Value}(hx:RelV M x v):
  ∃pl,pl.fz=noFz∧News B w [pl] [some ⟨.row k l,own,none⟩]∧FromB M H used [pl] [some ⟨.row k l,own,none⟩]∧(∀b∈used,b∈used')∧
   IntoB M H used' [pl] [some ⟨.row k l,own,none⟩]∧
   ∀M' :List Place,∀b,M'[b]? =some pl→RelV M' (slO b sz l own) v:=by
 have one:∀(pl:Place),ql8 [] ⟨.row k l,own,none⟩ pl B w→(pl.nil=false→B.vis pl.blk)→News B w [pl] [some ⟨.row k l,own,none⟩]:=by
  intro pl h1 h2
  refine⟨rfl,fun i o ho=> ?_,fun i j oi oj pi pj hi hj _ _ hne=> ?_⟩
  ·cases i with
   |zero=>simp at ho;subst ho;exact⟨rfl,⟨k,l,rfl⟩,pl,rfl,h1,h2⟩
   |succ i=>simp at ho
  ·have h1:=(List.getElem?_eq_some_iff.1 hi).1
   have h2:=(List.getElem?_eq_some_iff.1 hj).1
   simp at h1 h2
   omega
 have at0:∀(pl pi:Place) (oi:AObj) (i:Nat),[pl][i]? =some pi→[some (⟨.row k l,own,none⟩:AObj)][i]? =some (some oi)→pi=pl∧oi=⟨.row k l,own,none⟩:=by
  intro pl pi oi i h1 h2
  cases i with
  |zero=>simp at h1 h2;exact⟨h1.symm,h2.symm⟩
  |succ i=>simp at h1
 unfold zv3 at h
 split at h
 ·split at h
  ·rename_i hs
   cases h
   have hv:v= .slice none 0 0:=by simpa[RelV,RelX]using hx
   subst hv
   refine⟨⟨true,0,0,0,0,noFz⟩,rfl,one _ (.inl ⟨rfl,rfl,by simp[RelO]⟩) (fun h=>(by cases h)),fun i pi oi h1 h2 hn=> ?_,fun b hb=>hb,fun i pi oi h1 h2 hn=> ?_,fun M' b hb=> ?_⟩
   ·rw[(at0 _ _ _ _ h1 h2).1]at hn;cases hn
   ·rw[(at0 _ _ _ _ h1 h2).1]at hn;cases hn
   ·unfold slO
    rw[qp7 (n:=([]:LI).length) (len:=0) (by simp) hs]
    simp only[RelV,RelX]
    exact⟨⟨true,0,0,0,0,noFz⟩,none,0,hb,rfl,by simp,wc _,fun _=>⟨fun _=>rfl,rfl⟩,fun h=>(by cases h),fun hf=>(by cases own<;>simp at hf),fun _=>⟨trivial,rfl,by simp,by simp⟩,fun _=>⟨trivial,by simp⟩,by rw[has_iff];simp[loB,hiB]⟩
  ·cases h
 ·rename_i b off len s c
  split at h
  ·rename_i hcond
   obtain⟨rfl,hs,hnu,hco⟩:=hcond
   split at h
   ·rename_i oc o op hob
    split at h
    ·rename_i hoo
     split at h
     ·rename_i k' l' hwc
      split at h
      ·rename_i hk
       subst hk
       cases h
       obtain⟨us,hus,lus⟩:=qni hH hx hwc (fun _ _ _ _ _ e=>by cases e;rfl)
       obtain⟨pl0,hpl0,hok0⟩:=hH.obj b _ hob
       have hx0:=hx
       simp only[RelV,RelX]at hx0
       obtain⟨pl,A,cap,hpl,hv,hb,hcap,hnil,hnn,hfull,hown,hwhole,hhas⟩:=hx0
       rw[hpl0]at hpl
       cases hpl
       have hv:v= .slice A len cap:=by simpa using hv
       have hlus:=lus.1
       simp only[qii]at hlus
       have hll:l.length=len*s:=by have:=congrArg ya hus.1;simp at this;omega
       have hdiv:=qp7 hll hs
       have hnb:b∉used:=fun hm=>by
        have:used.contains b=true:=by simpa using hm
        rw[this]at hnu;cases hnu
       have off0:own=true→off=0∧pl0.off=0∧len*s=pl0.n∧cap*s≤pl0.size:=fun ho=>hown (hco ho)
       refine⟨⟨pl0.nil,pl0.blk,pl0.off+off,len*s,pl0.size,noFz⟩,rfl,one _ ?_ (fun hn=>hH.vis b _ pl0 hob hpl0 hn),fun i pi oi h1 h2 hn=> ?_,fun b' hb' =>by simp[hb'],fun i pi oi h1 h2 hn=> ?_,fun M' b' hb' => ?_⟩
       ·cases hn:pl0.nil with
        |true=>
         have h1:=(hnil hn).2
         have hl0:len=0:=by omega
         have:l=[]:=List.eq_nil_of_length_eq_zero (by rw[hll];simp[hl0])
         subst this
         exact .inl ⟨rfl,by simp[hl0],by simp[RelO]⟩
        |false=>
         rcases hok0 with⟨n1,_⟩|⟨_,cs,el,fz,g1,g2,g3,g4,g5⟩
         ·rw[hn]at n1;cases n1
         ·refine .inr ⟨rfl,cs,el,fz,g1,g2,by simp only;omega,?_,fun ho=> ?_⟩
          ·simp only
           have hu:us=(cs.toList.drop (pl0.off+off)).take (len*s):=by
            obtain⟨_,A2,cap2,hv2,_,hm⟩:=lus
            simp only[qii]at hv2 hm
            by_cases hz:len*s=0
            ·rw[hz]at hlus⊢
             have:us=[]:=List.eq_nil_of_length_eq_zero hlus
             rw[this];simp
            ·rcases hm with hm|⟨blk,o2,cs2,el2,fz2,e,hg2,hle2,hus2⟩
             ·exact absurd hm hz
             ·have hl0:0<len:=by
               rcases Nat.eq_zero_or_pos len with h0|h0
               ·rw[h0]at hz;simp at hz
               ·exact h0
              have hA:=(hnn hn).2 (.inl hl0)
              rw[hv]at hv2
              injection hv2 with e1
              rw[←e1,hA]at e
              injection e with e
              injection e with e2 e3
              rw[←e2,g1]at hg2
              cases hg2
              rw[hus2,←e3]
           rw[←hu]
           exact hus
          ·simp only at ho
           obtain⟨z1,z2,z3⟩:=g5 (hoo ho)
           obtain⟨y1,y2,y3,y4⟩:=off0 ho
           exact⟨z1,by simp[y1,y2],z3⟩
       ·obtain⟨e1,e2⟩:=at0 _ _ _ _ h1 h2
        subst e1;subst e2
        exact⟨b,_,pl0,hnb,hob,hpl0,hn,rfl,hoo⟩
       ·obtain⟨e1,e2⟩:=at0 _ _ _ _ h1 h2
        subst e1;subst e2
        exact⟨b,_,pl0,by simp,hob,hpl0,hn,rfl,hoo⟩
       ·unfold slO
        rw[hdiv]
        simp only[RelV,RelX]
        refine⟨⟨pl0.nil,pl0.blk,pl0.off+off,len*s,pl0.size,noFz⟩,A,cap,hb',by rw[hv],by simp,hcap,fun hn=>⟨fun hf=> ?_,(hnil hn).2⟩,fun hn=>⟨(hnn hn).1,fun hq=> ?_⟩,fun hf=>(by cases own<;>simp at hf),fun hf=> ?_,fun _=>⟨trivial,rfl⟩,hhas⟩
        ·exact(hnil hn).1 (hco (by cases own with|true=>rfl|false=>simp at hf))
        ·have h1:0<len∨c= .own:=by
          rcases hq with hq|hq
          ·exact .inl hq
          ·exact .inr (hco (by cases own with|true=>rfl|false=>simp at hq))
         simpa using(hnn hn).2 h1
        ·have ho:own=true:=by cases own with|true=>rfl|false=>simp at hf
         obtain⟨y1,y2,y3,y4⟩:=off0 ho
         exact⟨trivial,by simp[y1,y2],rfl,y4⟩
      ·cases h
     ·cases h
    ·cases h
   ·cases h
  ·cases h
 ·cases h
theorem FromB.append{M:List Place}{H:Heap}{used used2:List Nat}{N1 N2:List Place}{H1 H2:Heap}(hl:N1.length=H1.length)(f1:FromB M H used N1 H1)(f2:FromB M H used2 N2 H2)(hu:∀b∈used,b∈used2):FromB M H used (N1++N2) (H1++H2):=by
 intro i pi oi h1 h2 hn
 by_cases hi:i<N1.length
 ·rw[yg hi]at h1
  rw[yg (by omega)]at h2
  exact f1 i pi oi h1 h2 hn
 ·rw[w9 (by omega)]at h1
  rw[w9 (by omega),←hl]at h2
  obtain⟨b,o,p,a1,a2⟩:=f2 _ pi oi h1 h2 hn
  exact⟨b,o,p,fun h=>a1 (hu b h),a2⟩
theorem IntoB.append{M:List Place}{H:Heap}{used used2:List Nat}{N1 N2:List Place}{H1 H2:Heap}(hl:N1.length=H1.length)(f1:IntoB M H used N1 H1)(f2:IntoB M H used2 N2 H2)(hu:∀b∈used,b∈used2):IntoB M H used2 (N1++N2) (H1++H2):=by
 intro i pi oi h1 h2 hn
 by_cases hi:i<N1.length
 ·rw[yg hi]at h1
  rw[yg (by omega)]at h2
  obtain⟨b,o,p,a1,a2⟩:=f1 i pi oi h1 h2 hn
  exact⟨b,o,p,hu b a1,a2⟩
 ·rw[w9 (by omega)]at h1
  rw[w9 (by omega),←hl]at h2
  exact f2 _ pi oi h1 h2 hn
theorem FromB.nil(M:List Place)(H:Heap)(used:List Nat):FromB M H used [] []:=fun i pi oi h=>by simp at h
theorem IntoB.nil(M:List Place)(H:Heap)(used:List Nat):IntoB M H used [] []:=fun i pi oi h=>by simp at h
theorem qjh{M:List Place}{H:Heap}{B:Base}{w:World}(hH:RelH M H B w):∀{cs:List CO} {acc:List Ty} {rest:List Nat→Option (D acc)} {xs:List AV} {vs:List Value} {used:List Nat} {d:D (z3c cs acc)},exCO H cs acc rest xs used=some d→RelC M xs vs→
  ∃N used',(∀k ob,¬FzAt N k ob)∧News B w N (qi9 cs acc d)∧FromB M H used N (qi9 cs acc d)∧(∀b∈used,b∈used')∧IntoB M H used' N (qi9 cs acc d)∧
   (∀M' Nr:List Place,(z0n cs=true→FzSub M Nr)→RelC (M' ++N++Nr) (qzh cs acc d M'.length) vs)∧rest used' =some (qqr cs acc d)
 |[],acc,rest,xs,vs,used,d,h,hr=>by
  cases xs with
  |nil=>
   simp only[exCO]at h
   rw[RelC_nil]at hr
   exact⟨[],used,fun k ob h=>FzAt.nil h,News.nil B w,FromB.nil _ _ _,fun b hb=>hb,IntoB.nil _ _ _,fun M' Nr _=>by simp only[qzh];rw[RelC_nil];exact hr,h⟩
  |cons _ _=>simp[exCO]at h
 | .hole ty::cs,acc,rest,xs,vs,used,d,h,hr=>by
  simp only[exCO]at h
  split at h
  ·rename_i v ys hp
   split at h
   ·rename_i d' hd
    cases h
    obtain⟨a,r,rfl,h1,h2⟩:=z7y (M' :=M) (fun _=>FzSub.refl M) hp hr
    obtain⟨N,used',a0,a1,a2,a3,a4,a5,a6⟩:=qjh hH hd h2
    exact⟨N,used',a0,a1,a2,a3,a4,fun M' Nr hz=>RelC_cons.2 ⟨a,r,rfl,zrl (fun hd k ob h=>FzAt.right _ (hz (by simp[z0n,hd]) k ob h)) h1,a5 M' Nr fun hd=>hz (by simp[z0n,hd])⟩,a6⟩
   ·cases h
  ·cases h
 | .const _::cs,acc,rest,[],vs,used,d,h,hr=>by simp[exCO]at h
 | .row _ _ _::cs,acc,rest,[],vs,used,d,h,hr=>by simp[exCO]at h
 |c::cs,acc,rest,x::xs,vs,used,d,h,hr=>by
  obtain⟨u,r,rfl,hx,hr'⟩:=RelC_cons.1 hr
  cases c with
  |hole ty=>
   simp only[exCO]at h
   split at h
   ·rename_i v ys hp
    split at h
    ·rename_i d' hd
     cases h
     obtain⟨a,r',e,h1,h2⟩:=z7y (M' :=M) (fun _=>FzSub.refl M) hp hr
     obtain⟨N,used',a0,a1,a2,a3,a4,a5,a6⟩:=qjh hH hd h2
     exact⟨N,used',a0,a1,a2,a3,a4,fun M' Nr hz=>RelC_cons.2 ⟨a,r',e,zrl (fun hd k ob h=>FzAt.right _ (hz (by simp[z0n,hd]) k ob h)) h1,a5 M' Nr fun hd=>hz (by simp[z0n,hd])⟩,a6⟩
    ·cases h
   ·cases h
  |const k=>
   simp only[exCO]at h
   split at h
   ·rename_i hs
    obtain⟨N,used',a0,a1,a2,a3,a4,a5,a6⟩:=qjh hH h hr'
    have:∃v,u=[v]:=by
     have hl:=q1r hx
     have:qfi x=1:=by
      cases x<;>first|rfl|(exfalso;cases k<;>simp[zhu]at hs)
     rw[this]at hl
     exact List.length_eq_one_iff.1 hl
    obtain⟨v,rfl⟩:=this
    exact⟨N,used',a0,a1,a2,a3,a4,fun M' Nr hz=>RelC_cons.2 ⟨[v],r,rfl,z0k hs hx,a5 M' Nr hz⟩,a6⟩
   ·cases h
  |row k sz own=>
   simp only[exCO]at h
   split at h
   ·rename_i l used1 hrow
    split at h
    ·rename_i d' hd
     cases h
     have:∃v,u=[v]:=by
      have hl:=q1r hx
      have:qfi x=1:=by
       unfold zv3 at hrow
       split at hrow<;>first|rfl|(cases hrow)
      rw[this]at hl
      exact List.length_eq_one_iff.1 hl
     obtain⟨v,rfl⟩:=this
     obtain⟨pl,b0,b1,b2,b3,b4,b5⟩:=z97 hH hrow hx
     obtain⟨N,used',a0,a1,a2,a3,a4,a5,a6⟩:=qjh hH hd hr'
     refine⟨[pl]++N,used',fun k ob h=>(h.append).elim (fun h=>FzAt.nil (FzAt.snoc (M:=[]) b0 h)) (a0 k ob),?_,?_,fun b hb=>a3 b (b3 b hb),?_,fun M' Nr hz=> ?_,a6⟩
     ·exact News.append hH (H1:=[some ⟨.row k l,own,none⟩]) b1 a1 b2 a2 b4
     ·exact FromB.append (H1:=[some ⟨.row k l,own,none⟩]) rfl b2 a2 b3
     ·exact IntoB.append (H1:=[some ⟨.row k l,own,none⟩]) rfl b4 a4 a3
     ·have:=a5 (M' ++[pl]) Nr hz
      rw[yo]at this
      refine RelC_cons.2 ⟨[v],r,rfl,b5 _ _ (by simp),?_⟩
      simpa using this
    ·cases h
   ·cases h
theorem qnm{M:List Place}{H:Heap}{B:Base}{w:World}(hH:RelH M H B w){kept:List Nat}:∀{os:List Out} {xs:List AV} {used:List Nat} {d:D (tysO os)} {vs:List Value},exO H kept os xs used=some d→RelL M xs vs→(∀b∈kept,b∈used)→
  ∃N,(∀k ob,¬FzAt N k ob)∧News B w N (qd8 os d)∧FromB M H used N (qd8 os d)∧(∀M' Nr:List Place,(qt7 os=true→FzSub M Nr)→RelL (M' ++N++Nr) (avsO os d M'.length) vs)∧
   ∀(M' Nr:List Place),(qt7 os=true→FzSub M Nr)→∀(pin:Nat) (c:Cont),(pin,c)∈upsO os d M'.length→∃pl b o,B.pin pin pl∧ql8 (M' ++N++Nr) ⟨c,true,none⟩ pl B w∧b∈kept∧H[b]? =some (some o)∧o.own=true∧M[b]? =some pl
 |[],xs,used,d,vs,h,hl,hk=>by
  cases xs with
  |nil=>
   rw[RelL_nil]at hl
   exact⟨[],fun k ob h=>FzAt.nil h,News.nil B w,FromB.nil _ _ _,fun M' Nr _=>by simp only[avsO];rw[RelL_nil];exact hl,fun M' Nr _ pin c hm=>by simp[upsO]at hm⟩
  |cons _ _=>simp[exO]at h
 | .ty t::r,[],used,d,vs,h,hl,hk=>by simp[exO]at h
 | .row k sz own::r,[],used,d,vs,h,hl,hk=>by simp[exO]at h
 | .agg cs::r,[],used,d,vs,h,hl,hk=>by simp[exO]at h
 | .ty t::r,x::xs,used,d,vs,h,hl,hk=>by
  simp only[exO]at h
  split at h
  ·rename_i v d' hv hd
   cases h
   obtain⟨u,vs',rfl,hx,hr⟩:=RelL_cons.1 hl
   obtain⟨N,a0,a1,a2,a3,a4⟩:=qnm hH hd hr hk
   exact⟨N,a0,a1,a2,fun M' Nr hz=>RelL_cons.2 ⟨u,vs',rfl,zrj (fun hd k ob h=>FzAt.right _ (hz (by simp[qt7,hd]) k ob h)) hv hx,a3 M' Nr fun hd=>hz (by simp[qt7,hd])⟩,fun M' Nr hz=>a4 M' Nr fun hd=>hz (by simp[qt7,hd])⟩
  ·cases h
 | .row k sz own::r,x::xs,used,d,vs,h,hl,hk=>by
  simp only[exO]at h
  split at h
  ·rename_i l used1 hrow
   split at h
   ·rename_i d' hd
    cases h
    obtain⟨u,vs',rfl,hx,hr⟩:=RelL_cons.1 hl
    obtain⟨pl,b0,b1,b2,b3,b4,b5⟩:=z97 hH hrow hx
    obtain⟨N,a0,a1,a2,a3,a4⟩:=qnm hH hd hr (fun b hb=>b3 b (hk b hb))
    refine⟨[pl]++N,fun k ob h=>(h.append).elim (fun h=>FzAt.nil (FzAt.snoc (M:=[]) b0 h)) (a0 k ob),?_,?_,fun M' Nr hz=> ?_,fun M' Nr hz pin c hm=> ?_⟩
    ·exact News.append hH (H1:=[some ⟨.row k l,own,none⟩]) b1 a1 b2 a2 b4
    ·exact FromB.append (H1:=[some ⟨.row k l,own,none⟩]) rfl b2 a2 b3
    ·have:=a3 (M' ++[pl]) Nr hz
     rw[yo]at this
     refine RelL_cons.2 ⟨u,vs',rfl,b5 _ _ (by simp),?_⟩
     simpa using this
    ·have:=a4 (M' ++[pl]) Nr hz pin c (by rw[yo];simpa[upsO]using hm)
     simpa using this
   ·cases h
  ·cases h
 | .agg cs::r,x::xs,used,d,vs,h,hl,hk=>by
  simp only[exO]at h
  split at h
  ·rename_i ys
   obtain⟨u,vs',rfl,hx,hr⟩:=RelL_cons.1 hl
   obtain⟨us,hu,hc⟩:=RelX_agg.1 hx
   obtain⟨N1,used1,b0,b1,b2,b3,b4,b5,b6⟩:=qjh hH h hc
   obtain⟨N,a0,a1,a2,a3,a4⟩:=qnm hH b6 hr (fun b hb=>b3 b (hk b hb))
   have hln:N1.length=zdl cs:=by rw[b1.len,qnk]
   refine⟨N1++N,fun k ob h=>(h.append).elim (b0 k ob) (a0 k ob),News.append hH b1 a1 b2 a2 b4,FromB.append b1.len b2 a2 b3,fun M' Nr hz=> ?_,fun M' Nr hz pin c hm=> ?_⟩
   ·refine RelL_cons.2 ⟨u,vs',rfl,RelX_agg.2 ⟨us,hu,?_⟩,?_⟩
    ·have:=b5 M' (N++Nr) (fun hd k ob h=>FzAt.right _ (hz (by simp[qt7,hd]) k ob h))
     simpa using this
    ·have:=a3 (M' ++N1) Nr (fun hd=>hz (by simp[qt7,hd]))
     rw[yo,hln]at this
     simpa using this
   ·have:=a4 (M' ++N1) Nr (fun hd=>hz (by simp[qt7,hd])) pin c (by rw[yo,hln];simpa[upsO]using hm)
    simpa using this
  ·cases h
 | .prow pin k::r,xs,used,d,vs,h,hl,hk=>by
  simp only[exO]at h
  split at h
  ·rename_i b hb
   split at h
   ·rename_i k' l pn hob
    split at h
    ·rename_i hc
     obtain⟨rfl,hkb⟩:=hc
     split at h
     ·rename_i d' hd
      cases h
      obtain⟨N,a0,a1,a2,a3,a4⟩:=qnm hH hd hl hk
      refine⟨N,a0,a1,a2,a3,fun M' Nr hz pin' c hm=> ?_⟩
      simp only[upsO,yr,ym]at hm
      rcases hm with⟨rfl,rfl⟩|hm
      ·obtain⟨_,o,ho,hpo⟩:=z3d hb
       rw[Nat.sub_zero,hob]at ho
       cases ho
       obtain⟨pl,hpl,hok⟩:=hH.obj b _ hob
       refine⟨pl,b,_,hH.pin b _ pl _ hob hpl hpo,?_,by simpa using hkb,hob,rfl,hpl⟩
       rcases hok with⟨n1,n2,n3⟩|⟨n1,cs',el,fz,g1,g2,g3,g4,g5⟩
       ·exact .inl ⟨n1,n2,n3⟩
       ·exact .inr ⟨n1,cs',el,fz,g1,g2,g3,g4,g5⟩
      ·exact a4 M' Nr hz pin' c hm
     ·cases h
    ·cases h
   ·cases h
  ·cases h
 | .psegs pin cs::r,xs,used,d,vs,h,hl,hk=>by
  simp only[exO]at h
  split at h
  ·rename_i b hb
   split at h
   ·rename_i ys pn hob
    split at h
    ·rename_i hkb
     obtain⟨_,o,ho,hpo⟩:=z3d hb
     rw[Nat.sub_zero,hob]at ho
     cases ho
     obtain⟨pl,hpl,hok⟩:=hH.obj b _ hob
     have hvs:∃us,RelC M ys us∧(∀M2 ys',RelC M2 ys' us→ql8 M2 ⟨.segs ys',true,none⟩ pl B w):=by
      rcases hok with⟨n1,n2,n3⟩|⟨n1,cs',el,fz,g1,g2,g3,g4,g5⟩
      ·exact⟨_,n3,fun M2 ys' hy=> .inl ⟨n1,n2,hy⟩⟩
      ·exact⟨_,g4,fun M2 ys' hy=> .inr ⟨n1,cs',el,fz,g1,g2,g3,hy,g5⟩⟩
     obtain⟨us,hus,hus2⟩:=hvs
     obtain⟨N1,used1,b0,b1,b2,b3,b4,b5,b6⟩:=qjh hH h hus
     obtain⟨N,a0,a1,a2,a3,a4⟩:=qnm hH b6 hl (fun b hb=>b3 b (hk b hb))
     have hln:N1.length=zdl cs:=by rw[b1.len,qnk]
     refine⟨N1++N,fun k ob h=>(h.append).elim (b0 k ob) (a0 k ob),News.append hH b1 a1 b2 a2 b4,FromB.append b1.len b2 a2 b3,fun M' Nr hz=> ?_,fun M' Nr hz pin' c hm=> ?_⟩
     ·have:=a3 (M' ++N1) Nr (fun hd=>hz (by simp[qt7,hd]))
      rw[yo,hln]at this
      simpa[avsO]using this
     ·simp only[upsO,yr,ym]at hm
      rcases hm with⟨rfl,rfl⟩|hm
      ·refine⟨pl,b,_,hH.pin b _ pl _ hob hpl hpo,?_,by simpa using hkb,hob,rfl,hpl⟩
       have:=hus2 _ _ (b5 M' (N++Nr) (fun hd k ob h=>FzAt.right _ (hz (by simp[qt7,hd]) k ob h)))
       simpa using this
      ·have:=a4 (M' ++N1) Nr (fun hd=>hz (by simp[qt7,hd])) pin' c (by rw[yo,hln];exact hm)
       simpa using this
    ·cases h
   ·cases h
  ·cases h
theorem zmn{M:List Place}{H:Heap}{B:Base}{w:World}(hH:RelH M H B w){os:List Out}{xs:List AV}{d:D (tysO os)}{vs:List Value}(h:exO H (z96 H os) os xs (z96 H os)=some d)(hl:RelL M xs vs):zv4 B w os d vs:=by
 obtain⟨N,a0,a1,a2,a3,a4⟩:=qnm hH h hl (fun b hb=>hb)
 obtain⟨F,hF,hF1,hF2⟩:∃F:List Place,F.length=(fzH os).length∧(qt7 os=true→FzSub M F)∧FzSub F M:=by
  unfold fzH
  split
  ·exact⟨[qze M],rfl,fun _=>z91 hH,qzf⟩
  ·rename_i hd
   exact⟨[],rfl,fun h=>absurd h hd,fun k ob h=>absurd h FzAt.nil⟩
 have own:∀(i:Nat) (pi:Place) (oi:AObj),N[i]? =some pi→(qd8 os d)[i]? =some (some oi)→oi.own=true→pi.nil=false→¬B.f pi.blk∧∀ob,¬FzAt F pi.blk ob:=by
  intro i pi oi hpi ho how hn
  obtain⟨b',o',p',e1,e2,e3,e4,e5,e6⟩:=a2 i pi oi hpi ho hn
  obtain⟨f1,f2⟩:=hH.fo b' o' p' e2 e3 (e6 how) e4
  rw[e5]
  exact⟨f1,fun ob h=>f2 ob (hF2 _ _ h)⟩
 refine⟨N,F,a1,hF,a0,fun k ob h=>hH.fz k ob (hF2 k ob h),own,fun M' =>by simpa using a3 M' F hF1,fun M' pin c hm=> ?_⟩
 obtain⟨pl,b,o,c1,c2,c3,c4,c5,c6⟩:=a4 M' F hF1 pin c hm
 refine⟨pl,c1,by simpa using c2,fun i pi hpi hn hn2=> ?_,fun hn ob h=>(hH.fo b o pl c4 c6 c5 hn).2 ob (hF2 _ _ h)⟩
 have hi:i<(qd8 os d).length:=by rw[←a1.len];exact(List.getElem?_eq_some_iff.1 hpi).1
 cases ho:(qd8 os d)[i]with
 |none=>exact absurd ho (zt0 i hi)
 |some oi=>
  have ho' :(qd8 os d)[i]? =some (some oi):=by rw[yj hi,ho]
  obtain⟨b',o',p',e1,e2,e3,e4,e5,e6⟩:=a2 i pi oi hpi ho' hn
  rw[e5]
  exact fun e=>hH.sep b b' o o' pl p' c4 e2 c6 e3 (fun e=>e1 (e▸c3)) c5 hn2 e4 e.symm
end Go.AE
namespace Go.AE
open Go Go.RowKit
def qg4(ρ:Type):Env ρ:=⟨fun _=>none,fun _=>none⟩
theorem z98(P:Program)(ρ:Type):EnvOk P (qg4 ρ):=⟨fun _ _ h=>(by cases h),fun _ _ h=>(by cases h)⟩
theorem relH_nil(w:World):RelH [] [] (Base.at w.heap.size) w:=⟨rfl,fun k hk=>⟨hk,trivial⟩,fun i o h=>(by simp at h),fun i j oi oj pi pj h=>(by simp at h),fun i o pl k h=>(by simp at h),fun i o pl h=>(by simp at h),fun k ob h=>absurd h FzAt.nil,fun i o pl h=>(by simp at h),fun k hk h=>absurd hk (Nat.not_le_of_lt h)⟩
abbrev M0:List Place:=[⟨true,0,0,0,0,noFz⟩]
abbrev H0:Heap:=[none]
theorem relH_0(w:World):RelH M0 H0 (Base.at w.heap.size) w:=(relH_nil w).addNone _ (fun k ob h=>by cases h)
theorem noOwn_0:∀(i:Nat) (o:AObj),H0[i]? =some (some o)→o.own=false:=fun i o h=>by cases i<;>simp[H0]at h
def zv5 (P : Program) : Bool := P.funcs.toList.all fun fn => !(fn.body.isSome && decide (fn.name = "runtime.NumGoroutine"))
theorem zpo{P:Program}(h:zv5 P=true):q21 P:=by
 intro g fn hg hb e
 have h1:=List.all_eq_true.1 h fn (by
  have:=Array.mem_of_getElem? hg
  simpa using this)
 simp[hb,e]at h1
theorem has_wf{k:IntKind}{x:Int}(h:(Lit.int k x).wf=true):k.has x:=by
 have:k.min≤x∧x≤k.max:=by simpa[Lit.wf]using h
 exact this
theorem relL_int{M:List Place}{k:IntKind}{x:Int}(h:(Lit.int k x).wf=true){l:List AV}{vs:List Value}(r:RelL M l vs):RelL M (.int k none x::l) (.int k x::vs):=
 RelL_cons.2 ⟨_,_,rfl,by
  simp only[RelX]
  exact⟨trivial,has_wf h,fun m h=>(by cases h)⟩,r⟩
end Go.AE
namespace Go.AE
open Go Go.RowKit
variable {ρ:Type}
def bldS(nt:Nat)(its:List Item)(d:D (tysI its [])):St:=(bldI its [] d (st0 nt)).1
def extS(nt:Nat)(its:List Item)(st:St):Option (D (tysI its [])):=if st.tmps.length=nt then extI st true its [] () [zpn]else none
theorem qp9{M:List Place}{st:St}{B:Base}{w0:World}{a:Go.Act}{w:World}(r:Rel M st B w0 a w){its:List Item}{nt:Nat}{d:D (tysI its [])}(h:extS nt its st=some d):∃M',Rel M' (bldS nt its d) B w0 a w:=by
 unfold extS at h
 split at h
 ·rename_i hn
  exact ext_rel r h hn
 ·cases h
def annS(nt:Nat)(ins outs:List Item)(L:D (tysI ins [])→Option (D (tysI outs []))):Ann ρ:=fun st K=>
 (extS nt ins st).bind fun d=>(L d).bind fun r=>K .normal (bldS nt outs r)
def annX(nt:Nat)(ins outX outs:List Item)(e2:Exit)(L:D (tysI ins [])→Option (D (tysI outX [])⊕D (tysI outs []))):Ann ρ:=fun st K=>
 (extS nt ins st).bind fun d=>(L d).bind fun r=>match r with
  | .inl r=>K e2 (bldS nt outX r)
  | .inr r=>K .normal (bldS nt outs r)
def kS(nt:Nat)(ins outs:List Item)(id:Nat)(L:D (tysI ins [])→Option (D (tysI outs []))):Exit→St→Option (D (tysI outs [])):=fun e st=>match e with
 | .normal=>(extS nt ins st).bind L
 | .exit j=>if j=id then extS nt outs st else none
 |_=>none
def kX(nt:Nat)(ins outX outs:List Item)(id:Nat)(e2:Exit)(L:D (tysI ins [])→Option (D (tysI outX [])⊕D (tysI outs []))):Exit→St→Option (D (tysI outX [])⊕D (tysI outs [])):=fun e st=>match e with
 | .normal=>(extS nt ins st).bind L
 | .exit j=>if j=id then(extS nt outs st).bind fun r=>some (.inr r)else(match e2 with
  | .exit i=>if j=i then(extS nt outX st).bind fun r=>some (.inl r)else none
  |_=>none)
 | .ret=>(match e2 with
  | .ret=>(extS nt outX st).bind fun r=>some (.inl r)
  |_=>none)
 |_=>none
abbrev Cals:=∀(σ:Type),Cal σ
abbrev QCals:=∀(σ:Type),QCal σ
theorem annX_ok{P:Program}(hP:q21 P){cal:Cals}(hcal:∀σ f,qs8 P f (cal σ f)){qcal:QCals}(hq:∀σ f,qlj P f (qcal σ f)){nt:Nat}{ins outX outs:List Item}{e2:Exit}{id:Nat}{body:Code}
  {L:Nat→D (tysI ins [])→Option (D (tysI outX [])⊕D (tysI outs []))} {ann:Nat→Option (Ann (D (tysI outX [])⊕D (tysI outs [])))} {B:Base} {w0:World}
  (hann:∀id an c',ann id=some an→(id,c')∈q9i body→z38 P false B w0 (.block id c') an) (h0:∀d,L 0 d=none)
  (hs:∀k d,q76 P (cal _) (qcal _) ann body (bldS nt ins d) (kX nt ins outX outs id e2 (L k))=L (k+1) d) (he:e2= .ret∨∃j,e2= .exit j∧j≠id) (F:Nat):
  z38 (ρ:=ρ) P false B w0 (.block id (.loop body)) (annX nt ins outX outs e2 (L F)):=by
 intro st K r h M a w Q hr hn
 unfold annX at h
 simp only[Option.bind_eq_some_iff]at h
 obtain⟨d,hd,x,hx,hk⟩:=h
 refine wp_block ?_
 obtain⟨M1,hr1⟩:=qp9 hr hd
 refine qzd (fun n a' w' =>∃d' M',L n d' =some x∧Rel M' (bldS nt ins d') B w0 a' w') (n:=F) ⟨d,M1,hx,hr1⟩ ?_
 rintro n a1 w1 ⟨d1,M1,h1,hr1⟩
 cases n with
 |zero=>rw[h0]at h1;cases h1
 |succ n=>
  rw[←hs]at h1
  refine qgq hP (hcal _) (hq _) body hann _ _ h1 M1 a1 w1 _ hr1 fun e M' st' a' w' hE hk' hr' => ?_
  have out1:∀{r'},extS nt outs st' =some r' →x= .inr r' →Q .normal a' w' :=by
   intro r' hr2 hx2
   subst hx2
   obtain⟨M2,hr3⟩:=qp9 hr' hr2
   exact hn .normal M2 _ a' w' (fun h=>by cases h) hk hr3
  have out2:∀{r'},extS nt outX st' =some r' →x= .inl r' →Q e2 a' w' :=by
   intro r' hr2 hx2
   subst hx2
   obtain⟨M2,hr3⟩:=qp9 hr' hr2
   exact hn e2 M2 _ a' w' (fun h=>by cases h) hk hr3
  cases e with
  |normal=>
   simp only[kX,Option.bind_eq_some_iff]at hk'
   obtain⟨d2,hd2,hL⟩:=hk'
   obtain⟨M2,hr2⟩:=qp9 hr' hd2
   exact⟨n,by omega,d2,M2,hL,hr2⟩
  |exit j=>
   simp only[kX]at hk'
   unfold Exit.inBlock
   show if j=id then Q .normal a' w' else Q (.exit j) a' w'
   split at hk'
   ·rename_i hj
    rw[iP hj]
    simp only[Option.bind_eq_some_iff,yf]at hk'
    obtain⟨r',h2,h3⟩:=hk'
    exact out1 h2 h3.symm
   ·rename_i hj
    rw[iN hj]
    split at hk'
    ·split at hk'
     ·rename_i i hi
      simp only[Option.bind_eq_some_iff,yf]at hk'
      obtain⟨r',h2,h3⟩:=hk'
      subst hi
      exact out2 h2 h3.symm
     ·cases hk'
    ·cases hk'
  |ret=>
   simp only[kX]at hk'
   split at hk'
   ·simp only[Option.bind_eq_some_iff,yf]at hk'
    obtain⟨r',h2,h3⟩:=hk'
    exact out2 h2 h3.symm
   ·cases hk'
  |goto l=>simp only[kX]at hk';cases hk'
  |panic ch=>simp only[kX]at hk';cases hk'
  |outgrown=>simp only[kX]at hk';cases hk'
theorem annS_ok{P:Program}(hP:q21 P){cal:Cals}(hcal:∀σ f,qs8 P f (cal σ f)){qcal:QCals}(hq:∀σ f,qlj P f (qcal σ f)){nt:Nat}{ins outs:List Item}{id:Nat}{body:Code}
  {L:Nat→D (tysI ins [])→Option (D (tysI outs []))} {ann:Nat→Option (Ann (D (tysI outs [])))} {B:Base} {w0:World}
  (hann:∀id an c',ann id=some an→(id,c')∈q9i body→z38 P false B w0 (.block id c') an) (h0:∀d,L 0 d=none)
  (hs:∀k d,q76 P (cal _) (qcal _) ann body (bldS nt ins d) (kS nt ins outs id (L k))=L (k+1) d) (F:Nat):
  z38 (ρ:=ρ) P false B w0 (.block id (.loop body)) (annS nt ins outs (L F)):=by
 intro st K r h M a w Q hr hn
 unfold annS at h
 simp only[Option.bind_eq_some_iff]at h
 obtain⟨d,hd,x,hx,hk⟩:=h
 refine wp_block ?_
 obtain⟨M1,hr1⟩:=qp9 hr hd
 refine qzd (fun n a' w' =>∃d' M',L n d' =some x∧Rel M' (bldS nt ins d') B w0 a' w') (n:=F) ⟨d,M1,hx,hr1⟩ ?_
 rintro n a1 w1 ⟨d1,M1,h1,hr1⟩
 cases n with
 |zero=>rw[h0]at h1;cases h1
 |succ n=>
  rw[←hs]at h1
  refine qgq hP (hcal _) (hq _) body hann _ _ h1 M1 a1 w1 _ hr1 fun e M' st' a' w' hE hk' hr' => ?_
  cases e with
  |normal=>
   simp only[kS,Option.bind_eq_some_iff]at hk'
   obtain⟨d2,hd2,hL⟩:=hk'
   obtain⟨M2,hr2⟩:=qp9 hr' hd2
   exact⟨n,by omega,d2,M2,hL,hr2⟩
  |exit j=>
   simp only[kS]at hk'
   show if j=id then Q .normal a' w' else Q (.exit j) a' w'
   split at hk'
   ·rename_i hj
    rw[iP hj]
    obtain⟨M2,hr3⟩:=qp9 hr' hk'
    exact hn .normal M2 _ a' w' (fun h=>by cases h) hk hr3
   ·cases hk'
  |ret=>simp only[kS]at hk';cases hk'
  |goto l=>simp only[kS]at hk';cases hk'
  |panic ch=>simp only[kS]at hk';cases hk'
  |outgrown=>simp only[kS]at hk';cases hk'
def z99:List Item→Bool
 |[]=>true
 | .row _ _ _ own _::r=> !own&&z99 r
 | .drow _ _ own _::r=> !own&&z99 r
 | .segs _ _ own _::r=> !own&&z99 r
 |_::r=>z99 r
def zmo(P:Program)(f:FuncId)(n:Nat)(ins:List Item)(os:List Out)(F:D (tysI ins [])→Option (D (tysO os))):Prop:=
 ∀(d:D (tysI ins [])) (r:D (tysO os)),F d=some r→∀(M:List Place) (B:Base) (w:World) (vs:Array Value),RelL M (bldS n ins d).tmps vs.toList→RelH M (bldS n ins d).heap B w→
  Calls P f vs w fun e w' =>∃rs:Array Value,e= .returned (retV rs)∧Beneath B w w' ∧zv4 B w' os r rs.toList
def endO(os:List Out):List AV→Heap→Option (D (tysO os)):=fun l H=>exO H (z96 H os) os l (z96 H os)
theorem zv6{P:Program}(hP:q21 P){cal:Cals}(hcal:∀σ f,qs8 P f (cal σ f)){qcal:QCals}(hq:∀σ f,qlj P f (qcal σ f)){f:FuncId}{n:Nat}{ins:List Item}{os:List Out}{F:D (tysI ins [])→Option (D (tysO os))}{ann:Nat→Option (Ann (D (tysO os)))}
  (hann:∀fn c,P.funcs[f]? =some fn→fn.body=some c→∀id an c',ann id=some an→(id,c')∈q9i c→∀B w,z38 P false B w (.block id c') an)
  (h:∀d,zgs P (cal _) (qcal _) ann f (bldS n ins d).tmps (bldS n ins d).heap (endO os)=F d):zmo P f n ins os F:=by
 intro d r hd M B w vs hl hH
 rw[←h]at hd
 refine(z4w hP (hcal _) (hq _) (x:=false) hd (fun fn c h1 h2 id an c' h3 h4=>hann fn c h1 h2 id an c' h3 h4 _ _) hl hH).mono ?_
 rintro e w' ⟨rs,l,H',M',rfl,hk,_,hl',hH',hb⟩
 exact⟨rs,rfl,hb,zmn hH' hk hl'⟩
theorem z4x{M:List Place}{ts:List AV}{a:Array Value}(h:RelT M ts a):RelL M ts a.toList:=by
 have key:∀(ts:List AV) (vs:List Value),ts.length=vs.length→(∀t,RelV M (ts.getD t .undef) (vs.getD t undef))→RelL M ts vs:=by
  intro ts
  induction ts with
  |nil=>intro vs h _;rw[RelL_nil];exact List.length_eq_zero_iff.1 h.symm
  |cons x ts ih=>
   intro vs h h2
   cases vs with
   |nil=>simp at h
   |cons v vs=>exact RelL_cons.2 ⟨v,vs,rfl,by simpa using h2 0,ih vs (by simpa using h) fun t=>by simpa using h2 (t+1)⟩
 refine key ts a.toList (by simpa using h.1) fun t=> ?_
 have:=h.2 t
 rw[show a.getD t undef=a.toList.getD t undef from by simp[ye,Array.getElem?_toList]]at this
 exact this
def extA(n:Nat)(ins:List Item)(args:List AV)(H:Heap):Option (D (tysI ins [])):=if args.length=n then extI ⟨args,H⟩ false ins [] () [zpn]else none
def Base.anyPin(B:Base):Base:=⟨B.w,B.vis,fun _ _=>True,B.f⟩
theorem RelH.anyPin{M:List Place}{H:Heap}{B:Base}{w:World}(r:RelH M H B w):RelH M H B.anyPin w:=⟨r.len,r.base,r.obj,r.sep,fun _ _ _ _ _ _ _=>trivial,r.vis,r.fz,r.fo,r.bf⟩
theorem zmp{M:List Place}{args:List AV}{H:Heap}{B:Base}{w:World}{vs:Array Value}{n:Nat}{ins:List Item}{d:D (tysI ins [])}(hl:RelL M args vs.toList)(hH:RelH M H B w)(h:extA n ins args H=some d):
  ∃M',Told M ⟨args,H⟩ B.anyPin w vs (zpn::qnj ⟨args,H⟩ false ins) M' (bldS n ins d):=by
 unfold extA at h
 split at h
 ·rename_i hlen
  have ht:RelT M args vs:=by
   have:=z94 hl 0
   simpa using this
  have hs:n=vs.size:=by rw[←hlen];exact ht.1
  obtain⟨⟨M2,t⟩,_⟩:=q66 (st:=⟨args,H⟩) (B:=B.anyPin) ht hH.anyPin (fun _ _ _=>trivial) (told0 (B:=B.anyPin) (st:=⟨args,H⟩) (a:=vs) hH.anyPin n hs) h
  exact⟨M2,by simpa[bldS]using t⟩
 ·cases h
def z0o:Heap→Bool
 |[]=>true
 |o::r=>(match o with
  |some ob=>match ob.pin with
   |some k=>(z5p r k 0).isNone
   |none=>true
  |none=>true)&&z0o r
theorem qwc:∀{H:Heap} {k i:Nat},z5p H k i=none→∀(j:Nat) (o:AObj),H[j]? =some (some o)→o.pin≠some k
 |[],_,_,_,j,o,h=>by simp at h
 |x::r,k,i,hn,j,o,h=>by
  unfold z5p at hn
  cases j with
  |zero=>
   simp at h
   subst h
   simp only at hn
   split at hn
   ·cases hn
   ·assumption
  |succ j=>
   have h' :r[j]? =some (some o):=by simpa using h
   cases x with
   |none=>exact qwc hn j o h'
   |some ob=>
    simp only at hn
    split at hn
    ·cases hn
    ·exact qwc hn j o h'
theorem z4y:∀{H:Heap},z0o H=true→∀(i j:Nat) (oi oj:AObj) (k:Nat),H[i]? =some (some oi)→H[j]? =some (some oj)→oi.pin=some k→oj.pin=some k→i=j
 |[],_,i,j,oi,oj,k,h,_,_,_=>by simp at h
 |x::r,hn,i,j,oi,oj,k,hi,hj,h1,h2=>by
  simp only[z0o,yl]at hn
  obtain⟨hx,hr⟩:=hn
  cases i with
  |zero=>
   cases j with
   |zero=>rfl
   |succ j=>
    simp at hi
    subst hi
    simp only[h1,Option.isNone_iff_eq_none]at hx
    exact absurd h2 (qwc hx j oj (by simpa using hj))
  |succ i=>
   cases j with
   |zero=>
    simp at hj
    subst hj
    simp only[h2,Option.isNone_iff_eq_none]at hx
    exact absurd h1 (qwc hx i oi (by simpa using hi))
   |succ j=>
    have:=z4y hr i j oi oj k (by simpa using hi) (by simpa using hj) h1 h2
    omega
def findU:List (Nat×Cont)→Nat→Option Cont
 |[],_=>none
 |(j,c)::r,k=>if j=k then some c else findU r k
theorem zmq:∀{l:List (Nat×Cont)} {k:Nat} {c:Cont},findU l k=some c→(k,c)∈l
 |[],_,_,h=>by cases h
 |(j,c')::r,k,c,h=>by
  unfold findU at h
  split at h
  ·rename_i hj
   cases h
   subst hj
   simp
  ·simp[zmq h]
def updB(ups:List (Nat×Cont))(shared:Bool)(whole:Bool)(o:AObj)(b:Nat)(H:Heap):Heap:=
 match o.own with
 |true=>match whole,o.pin with
  |true,some k=>match findU ups k,H[b]? with
   |some c,some (some o')=>H.set b (some ⟨c,true,o'.pin⟩)
   |_,_=>H.set b none
  |_,_=>H.set b none
 |false=>match shared,H[b]? with
  |true,some (some o')=>H.set b (some ⟨o'.c,false,o'.pin⟩)
  |_,_=>H
def z5q(ups:List (Nat×Cont))(shared:Bool):List Act→Heap→Heap→Heap
 |ac::r,some o::H1,H=>z5q ups shared r H1 (match ac.id with|some b=>updB ups shared ac.whole o b H|none=>H)
 |_::r,none::H1,H=>z5q ups shared r H1 H
 |_,_,H=>H
theorem updB_len(ups:List (Nat×Cont))(shared whole:Bool)(o:AObj)(b:Nat)(H:Heap):(updB ups shared whole o b H).length=H.length:=by
 unfold updB
 repeat' split
 all_goals simp
theorem z9a(ups:List (Nat×Cont))(shared:Bool):∀(acts:List Act) (H1 H:Heap),(z5q ups shared acts H1 H).length=H.length
 |[],_,_=>rfl
 |_::_,[],_=>rfl
 |ac::r,some o::H1,H=>by
  rw[z5q,z9a ups shared r H1]
  split
  ·exact updB_len _ _ _ _ _ _
  ·rfl
 |_::r,none::H1,H=>by rw[z5q,z9a ups shared r H1]
def Left(ups:List (Nat×Cont))(shared:Bool)(acts:List Act)(H1:Heap)(j:Nat)(o o2:AObj):Prop:=
 o2.pin=o.pin∧((o2.c=o.c∧(o2.own=true→o.own=true)∧∀(i:Nat) (ac:Act) (o1:AObj),acts[i]? =some ac→H1[i]? =some (some o1)→ac.id=some j→o1.own=false∧(shared=true→o2.own=false))∨
  (∃(i:Nat) (ac:Act) (o1:AObj) (k:Nat),acts[i]? =some ac∧H1[i]? =some (some o1)∧ac.id=some j∧ac.whole=true∧o1.own=true∧o1.pin=some k∧(k,o2.c)∈ups))
theorem z7z{H:Heap}{b j:Nat}{x:Option AObj}{o:AObj}(h:(H.set b x)[j]? =some (some o)):(b=j∧x=some o)∨(b≠j∧H[j]? =some (some o)):=by
 rw[List.getElem?_set]at h
 split at h
 ·rename_i e
  split at h
  ·exact .inl ⟨e,by simpa using h⟩
  ·cases h
 ·rename_i e
  exact .inr ⟨e,h⟩
theorem z3e{ups:List (Nat×Cont)}{shared:Bool}:∀{acts:List Act} {H1 H:Heap} {j:Nat} {o2:AObj},(z5q ups shared acts H1 H)[j]? =some (some o2)→∃o,H[j]? =some (some o)∧Left ups shared acts H1 j o o2
 |[],H1,H,j,o2,h=>⟨o2,by simpa[z5q]using h,rfl,.inl ⟨rfl,fun h=>h,fun i ac o1 hi=>by simp at hi⟩⟩
 |ac::r,[],H,j,o2,h=>⟨o2,by simpa[z5q]using h,rfl,.inl ⟨rfl,fun h=>h,fun i ac o1 _ hi=>by simp at hi⟩⟩
 |ac::r,none::H1,H,j,o2,h=>by
  rw[z5q]at h
  obtain⟨o,h1,h2,h3⟩:=z3e h
  refine⟨o,h1,h2,?_⟩
  rcases h3 with⟨a1,a2,a3⟩|⟨i,ac',o1,k,b1,b2,b3⟩
  ·refine .inl ⟨a1,a2,fun i ac' o1 hi hi1=> ?_⟩
   cases i with
   |zero=>simp at hi1
   |succ i=>exact a3 i ac' o1 (by simpa using hi) (by simpa using hi1)
  ·exact .inr ⟨i+1,ac',o1,k,by simpa using b1,by simpa using b2,b3⟩
 |ac::r,some o1::H1,H,j,o2,h=>by
  rw[z5q]at h
  obtain⟨o',h1,h2,h3⟩:=z3e h
  have step:∃o,H[j]? =some (some o)∧o'.pin=o.pin∧((o'.c=o.c∧(o'.own=true→o.own=true)∧(ac.id=some j→o1.own=false∧(shared=true→o'.own=false)))∨
    (o'.own=true∧∃k,ac.id=some j∧ac.whole=true∧o1.own=true∧o1.pin=some k∧(k,o'.c)∈ups)):=by
   cases hid:ac.id with
   |none=>
    rw[hid]at h1
    exact⟨o',h1,rfl,.inl ⟨rfl,fun h=>h,fun h=>by cases h⟩⟩
   |some b=>
    rw[hid]at h1
    simp only at h1
    have other:b≠j→H[j]? =some (some o')→∃o,H[j]? =some (some o)∧o'.pin=o.pin∧((o'.c=o.c∧(o'.own=true→o.own=true)∧(some b=some j→o1.own=false∧(shared=true→o'.own=false)))∨
      (o'.own=true∧∃k,some b=some j∧ac.whole=true∧o1.own=true∧o1.pin=some k∧(k,o'.c)∈ups)):=
     fun hne hH=>⟨o',hH,rfl,.inl ⟨rfl,fun h=>h,fun e=>absurd (Option.some.inj e) hne⟩⟩
    unfold updB at h1
    split at h1
    ·rename_i how
     split at h1
     ·rename_i k hw hp
      split at h1
      ·rename_i c ob hfu hHb
       rcases z7z h1 with⟨rfl,e⟩|⟨e,h1⟩
       ·cases e
        exact⟨ob,hHb,rfl,.inr ⟨rfl,k,rfl,hw,how,hp,zmq hfu⟩⟩
       ·exact other e h1
      ·rcases z7z h1 with⟨rfl,e⟩|⟨e,h1⟩
       ·cases e
       ·exact other e h1
     ·rcases z7z h1 with⟨rfl,e⟩|⟨e,h1⟩
      ·cases e
      ·exact other e h1
    ·rename_i how
     split at h1
     ·rename_i ob hHb
      rcases z7z h1 with⟨rfl,e⟩|⟨e,h1⟩
      ·cases e
       exact⟨ob,hHb,rfl,.inl ⟨rfl,fun h=>(by cases h),fun _=>⟨how,fun _=>rfl⟩⟩⟩
      ·exact other e h1
     ·rename_i hno
      refine⟨o',h1,rfl,.inl ⟨rfl,fun h=>h,fun e=>⟨how,fun hs=> ?_⟩⟩⟩
      cases e
      exact absurd h1 (hno o' hs)
  obtain⟨o,s1,s2,s3⟩:=step
  refine⟨o,s1,by rw[h2,s2],?_⟩
  rcases h3 with⟨a1,a2,a3⟩|⟨i,ac',o1',k,b1,b2,b3⟩
  ·rcases s3 with⟨c1,c2,c3⟩|⟨c1,k,c2,c3,c4,c5,c6⟩
   ·refine .inl ⟨by rw[a1,c1],fun h=>c2 (a2 h),fun i ac' o1' hi hi1 hid=> ?_⟩
    cases i with
    |zero=>
     simp at hi hi1
     subst hi;subst hi1
     obtain⟨d1,d2⟩:=c3 hid
     refine⟨d1,fun hs=> ?_⟩
     cases ho:o2.own with
     |false=>rfl
     |true=>rw[d2 hs]at a2;exact absurd (a2 ho) (by simp)
    |succ i=>exact a3 i ac' o1' (by simpa using hi) (by simpa using hi1) hid
   ·exact .inr ⟨0,ac,o1,k,by simp,by simp,c2,c3,c4,c5,by rw[a1];exact c6⟩
  ·exact .inr ⟨i+1,ac',o1',k,by simpa using b1,by simpa using b2,b3⟩
def qpa:List CO→Bool
 |[]=>false
 | .row _ _ own::r=> !own||qpa r
 |_::r=>qpa r
def q9o:List Out→Bool
 |[]=>false
 | .row _ _ own::r=> !own||q9o r
 | .agg cs::r=>qpa cs||q9o r
 | .psegs _ cs::r=>qpa cs||q9o r
 |_::r=>q9o r
theorem qjv:∀{cs:List CO} {acc:List Ty} {d:D (z3c cs acc)} {o:AObj},some o∈qi9 cs acc d→o.own=false→qpa cs=true
 |[],_,_,o,h,_=>by simp[qi9]at h
 | .hole _::r,acc,d,o,h,ho=>qjv (cs:=r) (d:=d.2) h ho
 | .const _::r,acc,d,o,h,ho=>qjv (cs:=r) (d:=d) h ho
 | .row _ _ own::r,acc,d,o,h,ho=>by
  simp only[qi9,yr]at h
  rcases h with h|h
  ·cases h
   simp only at ho
   simp[qpa,ho]
  ·simp[qpa,qjv (cs:=r) (d:=d.2) h ho]
theorem qji:∀{os:List Out} {d:D (tysO os)} {o:AObj},some o∈qd8 os d→o.own=false→q9o os=true
 |[],_,o,h,_=>by simp[qd8]at h
 | .ty _::r,d,o,h,ho=>qji (os:=r) (d:=d.2) h ho
 | .row _ _ own::r,d,o,h,ho=>by
  simp only[qd8,yr]at h
  rcases h with h|h
  ·cases h
   simp only at ho
   simp[q9o,ho]
  ·simp[q9o,qji (os:=r) (d:=d.2) h ho]
 | .agg cs::r,d,o,h,ho=>by
  simp only[qd8,yk]at h
  rcases h with h|h
  ·simp[q9o,qjv h ho]
  ·simp[q9o,qji h ho]
 | .prow _ _::r,d,o,h,ho=>qji (os:=r) (d:=d.2) h ho
 | .psegs _ cs::r,d,o,h,ho=>by
  simp only[qd8,yk]at h
  rcases h with h|h
  ·simp[q9o,qjv h ho]
  ·simp[q9o,qji h ho]
def smRun(n:Nat)(ins:List Item)(os:List Out)(F:D (tysI ins [])→Option (D (tysO os))):List AV→Heap→(AV→Heap→Option ρ)→Option ρ:=fun args H K=>
 (extA n ins args H).bind fun d=>if z0o (bldS n ins d).heap=true then
  (F d).bind fun r=>K (retA (avsO os r H.length)) (z5q (upsO os r H.length) (q9o os) (zpn::qnj ⟨args,H⟩ false ins) (bldS n ins d).heap H++(qd8 os r++fzH os))
 else none
theorem blk_lt{M:List Place}{o:AObj}{pl:Place}{B:Base}{w:World}(h:ql8 M o pl B w)(hn:pl.nil=false):pl.blk<w.heap.size:=by
 rcases h with⟨n1,_⟩|⟨_,cs,el,fz,g1,_⟩
 ·rw[hn]at n1;cases n1
 ·exact(Array.getElem?_eq_some_iff.1 g1).1
theorem smRun_ok{P:Program}{f:FuncId}{n:Nat}{ins:List Item}{os:List Out}{F:D (tysI ins [])→Option (D (tysO os))}(h:zmo P f n ins os F):qs8 (ρ:=ρ) P f (smRun n ins os F):=by
 intro args H K r hk M B w vs hl hH
 unfold smRun at hk
 simp only[Option.bind_eq_some_iff]at hk
 obtain⟨d,hd,hk⟩:=hk
 split at hk
 case isFalse=>cases hk
 rename_i hnd
 simp only[Option.bind_eq_some_iff]at hk
 obtain⟨x,hx,hk⟩:=hk
 obtain⟨M1,t⟩:=zmp hl hH hd
 generalize hst:bldS n ins d=st1 at*
 generalize hac:zpn::qnj ⟨args,H⟩ false ins=acts at*
 have src:∀(i:Nat) (o1:AObj) (pl:Place),st1.heap[i]? =some (some o1)→M1[i]? =some pl→pl.nil=false→
   (∃ac b o p,acts[i]? =some ac∧ac.id=some b∧H[b]? =some (some o)∧M[b]? =some p∧p.nil=false∧pl.blk=p.blk∧(o1.own=true→o.own=true)∧(ac.whole=true→pl=p))∨
   (o1.own=false∧∃ob,FzAt M pl.blk ob):=by
  intro i o1 pl h1 h2 hn
  have hi:i<acts.length:=by rw[t.len];exact(List.getElem?_eq_some_iff.1 h2).1
  obtain⟨p1,hp1,a1,a2,a3,_⟩:=t.act i acts[i] (yj hi)
  rw[h2]at hp1
  cases hp1
  cases hid:(acts[i]).id with
  |none=>
   obtain⟨q1,q2⟩:=(a2.1 hid).2 hn
   exact .inr ⟨by rw[a3 o1 h1,q1],q2⟩
  |some b=>
   obtain⟨o,p,b1,b2,b3,b4,b5,b6⟩:=a1 b hid
   exact .inl ⟨acts[i],b,o,p,yj hi,hid,b1,b2,by rw[←b3];exact hn,b4,fun ho=>b5 (by rw[←a3 o1 h1];exact ho),b6⟩
 let B1:Base:=⟨fun k=>w.heap.size≤k∨∃(i:Nat) (o1:AObj) (pl:Place),st1.heap[i]? =some (some o1)∧o1.own=true∧M1[i]? =some pl∧pl.nil=false∧pl.blk=k,
  fun k=>w.heap.size≤k∨(∃(i:Nat) (o1:AObj) (pl:Place),st1.heap[i]? =some (some o1)∧M1[i]? =some pl∧pl.nil=false∧pl.blk=k)∨∃ob,FzAt M k ob,
  fun k pl=>∃(i:Nat) (o1:AObj),st1.heap[i]? =some (some o1)∧M1[i]? =some pl∧o1.pin=some k,
  fun k=>B.f k∨∃ob,FzAt M k ob⟩
 have wB:∀k,B1.w k→B.w k:=by
  rintro k (hk|⟨i,o1,pl,h1,h2,h3,h4,rfl⟩)
  ·exact(hH.base k hk).1
  ·rcases src i o1 pl h1 h3 h4 with⟨ac,b,o,p,_,_,c3,c4,c5,c6,c7,_⟩|⟨q,_⟩
   ·obtain⟨p',hp',hok⟩:=hH.obj b o c3
    rw[c4]at hp'
    cases hp'
    rcases hok with⟨n1,_⟩|⟨_,_,_,_,_,_,_,_,g5⟩
    ·rw[c5]at n1;cases n1
    ·rw[c6];exact(g5 (c7 h2)).2.2
   ·rw[q]at h2;cases h2
 have visB:∀k,B1.vis k→B.vis k:=by
  rintro k (hk|⟨i,o1,pl,h1,h3,h4,rfl⟩|⟨ob,hk⟩)
  ·exact(hH.base k hk).2
  ·rcases src i o1 pl h1 h3 h4 with⟨ac,b,o,p,_,_,c3,c4,c5,c6,_⟩|⟨_,ob,q⟩
   ·rw[c6];exact hH.vis b o p c3 c4 c5
   ·exact(hH.fz _ _ q).2.1
  ·exact(hH.fz _ _ hk).2.1
 have notF:∀(i:Nat) (o1:AObj) (pl:Place),st1.heap[i]? =some (some o1)→M1[i]? =some pl→o1.own=true→pl.nil=false→¬B1.f pl.blk:=by
  intro i o1 pl h1 h3 h2 h4
  rcases src i o1 pl h1 h3 h4 with⟨ac,b,o,p,_,_,c3,c4,c5,c6,c7,_⟩|⟨q,_⟩
  ·obtain⟨f1,f2⟩:=hH.fo b o p c3 c4 (c7 h2) c5
   rw[c6]
   rintro(h|⟨ob,h⟩)
   ·exact f1 h
   ·exact f2 ob h
  ·rw[q]at h2;cases h2
 have hH1:RelH M1 st1.heap B1 w:=by
  refine⟨t.heap.len,fun k hk=>⟨.inl hk,.inl hk⟩,fun i o1 ho1=> ?_,t.heap.sep,fun i o1 pl k h1 h2 h3=>⟨i,o1,h1,h2,h3⟩,fun i o1 pl h1 h2 h3=> .inr (.inl ⟨i,o1,pl,h1,h2,h3,rfl⟩),
   fun k ob h=>⟨(t.heap.fz k ob h).1,.inr (.inr ⟨ob,t.zf k ob h⟩),.inr (.inr ⟨ob,t.zf k ob h⟩)⟩,fun i o1 pl h1 h2 h3 h4=>⟨notF i o1 pl h1 h2 h3 h4,(t.heap.fo i o1 pl h1 h2 h3 h4).2⟩,fun k hk h=>h.elim (hH.bf k hk) fun⟨ob,h⟩=>absurd (hH.fz_lt h) (by omega)⟩
  obtain⟨pl,hpl,hok⟩:=t.heap.obj i o1 ho1
  refine⟨pl,hpl,?_⟩
  rcases hok with hok|⟨n1,cs,el,fz,g1,g2,g3,g4,g5⟩
  ·exact .inl hok
  ·exact .inr ⟨n1,cs,el,fz,g1,g2,g3,g4,fun ho=>⟨(g5 ho).1,(g5 ho).2.1,.inr ⟨i,o1,pl,ho1,ho,hpl,n1,rfl⟩⟩⟩
 refine(h d x hx M1 B1 w vs (by rw[hst];exact z4x t.tmps) (by rw[hst];exact hH1)).mono ?_
 rintro e w' ⟨rs,rfl,hb,N,Fz,hN,hFl,hN0,hF1,hF2,hav,hups⟩
 have hlen:=hH.len
 have hEx:Ext M (M++(N++Fz)):=Ext.snoc M _
 have hE0:Ext [] (M++(N++Fz)):=fun b pl e=>(by simp at e)
 have hbB:Beneath B w w' :=⟨hb.os,hb.tape,hb.output,hb.size,fun k hk hw=>hb.block k hk fun h1=>hw (wB k h1)⟩
 refine⟨_,_,_,M++(N++Fz),rfl,hk,hEx,?_,hbB,zhw (by rw[hlen];exact hav M)⟩
 have hlpost:=z9a (upsO os x H.length) (q9o os) acts st1.heap H
 generalize hH2:z5q (upsO os x H.length) (q9o os) acts st1.heap H=H2 at*
 have part:∀(i:Nat) (o:AObj) (pl:Place),(H2++(qd8 os x++fzH os))[i]? =some (some o)→(M++(N++Fz))[i]? =some pl→
   (i<M.length∧M[i]? =some pl∧∃o0,H[i]? =some (some o0)∧Left (upsO os x H.length) (q9o os) acts st1.heap i o0 o)∨(∃j,i=M.length+j∧(qd8 os x)[j]? =some (some o)∧N[j]? =some pl):=by
  intro i o pl h1 h2
  by_cases hi:i<M.length
  ·rw[yg (by omega)]at h1
   rw[yg hi]at h2
   rw[←hH2]at h1
   exact .inl ⟨hi,h2,z3e h1⟩
  ·rw[w9 (by omega)]at h1 h2
   rw[hlpost,hlen]at h1
   by_cases hi2:i-M.length<N.length
   ·rw[yg (by rw[←hN.len];exact hi2)]at h1
    rw[yg hi2]at h2
    exact .inr ⟨i-M.length,by omega,h1,h2⟩
   ·rw[w9 (by rw[←hN.len];omega)]at h1
    exfalso
    have:=List.mem_of_getElem? h1
    unfold fzH at this
    split at this<;>simp at this
 have upd:∀(j:Nat) (o0 o:AObj) (pl:Place),H[j]? =some (some o0)→M[j]? =some pl→
   (∃(i:Nat) (ac:Act) (o1:AObj) (k:Nat),acts[i]? =some ac∧st1.heap[i]? =some (some o1)∧ac.id=some j∧ac.whole=true∧o1.own=true∧o1.pin=some k∧(k,o.c)∈upsO os x H.length)→
   o0.own=true∧ql8 (M++(N++Fz)) ⟨o.c,true,none⟩ pl B1 w' ∧(∀(i:Nat) (pi:Place),N[i]? =some pi→pi.nil=false→pl.nil=false→pi.blk≠pl.blk)∧(pl.nil=false→∀ob,¬FzAt Fz pl.blk ob):=by
  rintro j o0 o pl h1 h2 ⟨i,ac,o1,k,a1,a2,a3,a4,a5,a6,a7⟩
  obtain⟨p1,hp1,c1,_,c3,_⟩:=t.act i ac a1
  obtain⟨o',p,d1,d2,_,_,d5,d6⟩:=c1 j a3
  have d1' :H[j]? =some (some o'):=d1
  rw[h1]at d1'
  cases d1'
  rw[h2]at d2
  cases d2
  have hpp:=d6 a4
  subst hpp
  rw[hlen]at a7
  obtain⟨pl',⟨i',o1',e1,e2,e3⟩,f2,f3,f4⟩:=hups M k o.c a7
  have:=z4y hnd i i' o1 o1' k a2 e1 a6 e3
  subst this
  rw[hp1]at e2
  cases e2
  exact⟨d5 (by rw[←c3 o1 a2];exact a5),f2,f3,f4⟩
 have newB:∀(j:Nat) (o:AObj) (pl:Place),(qd8 os x)[j]? =some (some o)→N[j]? =some pl→pl.nil=false→B1.vis pl.blk∧(o.own=true→B1.w pl.blk):=by
  intro j o pl h1 h2 hn
  obtain⟨_,_,p,hp,hok,hv⟩:=hN.obj j o h1
  rw[h2]at hp
  cases hp
  refine⟨hv hn,fun ho=> ?_⟩
  rcases hok with⟨n1,_⟩|⟨_,_,_,_,_,_,_,_,g5⟩
  ·rw[hn]at n1;cases n1
  ·exact(g5 ho).2.2
 have cross:∀(i j:Nat) (oi oj o0:AObj) (pi pj:Place),M[i]? =some pi→H[i]? =some (some o0)→Left (upsO os x H.length) (q9o os) acts st1.heap i o0 oi→(qd8 os x)[j]? =some (some oj)→N[j]? =some pj→
   (oi.own=true∨oj.own=true)→pi.nil=false→pj.nil=false→pi.blk≠pj.blk:=by
  intro i j oi oj o0 pi pj h1 h2 h3 h4 h5 ho hni hnj
  obtain⟨v1,v2⟩:=newB j oj pj h4 h5 hnj
  obtain⟨p',hp',hok⟩:=hH.obj i o0 h2
  rw[h1]at hp'
  cases hp'
  have hlt:=blk_lt hok hni
  rcases h3 with⟨_,⟨c1,c2,c3⟩|hu⟩
  ·cases hoj:oj.own with
   |true=>
    rcases v2 hoj with hk|⟨i1,o1,pl,e1,e2,e3,e4,e5⟩
    ·omega
    ·obtain⟨ac,b,ob,p,a1,a2,a3,a4,a5,a6,a7,_⟩:=(src i1 o1 pl e1 e3 e4).resolve_right (fun q=>by rw[q.1]at e2;cases e2)
     have hbi:b≠i:=by
      rintro rfl
      have:=(c3 i1 ac o1 a1 e1 a2).1
      rw[e2]at this
      cases this
     rw[←e5,a6]
     exact fun e=>hH.sep b i ob o0 p pi a3 h2 a4 h1 hbi (a7 e2) a5 hni e.symm
   |false=>
    have hoi:oi.own=true:=by
     rcases ho with ho|ho
     ·exact ho
     ·rw[hoj]at ho;cases ho
    have hsh:q9o os=true:=qji (List.mem_of_getElem? h4) hoj
    have still:∀ob,FzAt M pj.blk ob→pi.blk≠pj.blk:=fun ob hz e=>(hH.fo i o0 pi h2 h1 (c2 hoi) hni).2 ob (by rw[e];exact hz)
    rcases v1 with hk|⟨i1,o1,pl,e1,e3,e4,e5⟩|⟨ob,hz⟩
    ·omega
    ·rcases src i1 o1 pl e1 e3 e4 with⟨ac,b,ob,p,a1,a2,a3,a4,a5,a6,_⟩|⟨_,ob,hz⟩
     ·have hbi:i≠b:=by
       rintro rfl
       have:=(c3 i1 ac o1 a1 e1 a2).2 hsh
       rw[hoi]at this
       cases this
      rw[←e5,a6]
      exact hH.sep i b o0 ob pi p h2 a3 h1 a4 hbi (c2 hoi) hni a5
     ·exact still ob (by rw[←e5];exact hz)
    ·exact still ob hz
  ·obtain⟨_,_,u3,_⟩:=upd i o0 oi pi h2 h1 hu
   exact fun e=>u3 j pj h5 hnj hni e.symm
 have frozen:∀k ob,FzAt (M++(N++Fz)) k ob→FzAt M k ob∨FzAt Fz k ob:=fun k ob h=>(h.append).imp id fun h=>(h.append).resolve_left (hN0 k ob)
 have b1f:∀k,B1.w k∨B1.f k→B.w k∨B.f k:=by
  rintro k (h|h|⟨ob,h⟩)
  ·exact .inl (wB k h)
  ·exact .inr h
  ·exact(hH.fz k ob h).2.2
 refine⟨by simp[hlpost,hN.len,hlen,hFl],fun k hk=>hH.base k (Nat.le_trans hb.size hk),fun i o ho=> ?_,fun i j oi oj pi pj hi hj hpi hpj hne how hni hnj=> ?_,fun i o pl k ho hp hk' => ?_,fun i o pl ho hp hn=> ?_,fun k ob hk=> ?_,fun i o pl ho hp how hn=> ?_,fun k hk=>hH.bf k (Nat.le_trans hb.size hk)⟩
 ·have hi:i<(M++(N++Fz)).length:=by
   have:=(List.getElem?_eq_some_iff.1 ho).1
   rw[yo,yo,hlpost,hlen,←hN.len,←hFl]at this
   rw[yo,yo]
   exact this
  refine⟨(M++(N++Fz))[i],yj hi,?_⟩
  generalize hpl:(M++(N++Fz))[i]=pl
  have hp:(M++(N++Fz))[i]? =some pl:=by rw[yj hi,hpl]
  rcases part i o pl ho hp with⟨_,h2,o0,h3,h4⟩|⟨j,rfl,h2,h3⟩
  ·obtain⟨p',hp',hok⟩:=hH.obj i o0 h3
   rw[h2]at hp'
   cases hp'
   rcases h4 with⟨_,⟨c1,c2,c3⟩|hu⟩
   ·rcases hok with⟨n1,n2,n3⟩|⟨n1,cs,el,fz,g1,g2,g3,g4,g5⟩
    ·exact .inl ⟨n1,n2,by rw[c1];exact n3.mono hEx⟩
    ·refine .inr ⟨n1,cs,el,fz,?_,g2,g3,by rw[c1];exact g4.mono hEx,fun h=>g5 (c2 h)⟩
     rw[hb.block _ ((Array.getElem?_eq_some_iff.1 g1).1)]
     ·exact g1
     ·rintro(hk|⟨i1,o1,pl1,e1,e2,e3,e4,e5⟩)
      ·have:=(Array.getElem?_eq_some_iff.1 g1).1
       omega
      ·obtain⟨ac,b,ob,p,a1,a2,a3,a4,a5,a6,a7,_⟩:=(src i1 o1 pl1 e1 e3 e4).resolve_right (fun q=>by rw[q.1]at e2;cases e2)
       have hbi:b≠i:=by
        rintro rfl
        have:=(c3 i1 ac o1 a1 e1 a2).1
        rw[e2]at this
        cases this
       exact hH.sep b i ob o0 p pl a3 h3 a4 h2 hbi (a7 e2) a5 n1 (by rw[←a6];exact e5)
   ·obtain⟨u1,u2,_⟩:=upd i o0 o pl h3 h2 hu
    rcases hok with⟨n1,n2,n3⟩|⟨n1,cs,el,fz,g1,g2,g3,g4,g5⟩
    ·rcases u2 with⟨m1,m2,m3⟩|⟨m1,_⟩
     ·exact .inl ⟨m1,m2,m3⟩
     ·rw[n1]at m1;cases m1
    ·rcases u2 with⟨m1,_⟩|⟨m1,cs',el',fz',f1,f2,f3,f4,f5⟩
     ·rw[n1]at m1;cases m1
     ·exact .inr ⟨m1,cs',el',fz',f1,f2,f3,f4,fun _=>⟨(f5 rfl).1,(f5 rfl).2.1,(g5 u1).2.2⟩⟩
  ·obtain⟨_,_,p,hp',hok,hv⟩:=hN.obj j o h2
   rw[h3]at hp'
   cases hp'
   rcases hok with⟨n1,n2,n3⟩|⟨n1,cs,el,fz,g1,g2,g3,g4,g5⟩
   ·exact .inl ⟨n1,n2,n3.mono hE0⟩
   ·exact .inr ⟨n1,cs,el,fz,g1,g2,g3,g4.mono hE0,fun h=>⟨(g5 h).1,(g5 h).2.1,wB _ (g5 h).2.2⟩⟩
 ·rcases part i oi pi hi hpi with⟨_,h2,o0,h3,h4⟩|⟨j1,rfl,h2,h3⟩<;>rcases part j oj pj hj hpj with⟨_,k2,o0',k3,k4⟩|⟨j2,rfl,k2,k3⟩
  ·have ho:o0.own=true:=by
    rcases h4 with⟨_,⟨c1,c2,c3⟩|hu⟩
    ·exact c2 how
    ·exact(upd i o0 oi pi h3 h2 hu).1
   exact hH.sep i j o0 o0' pi pj h3 k3 h2 k2 hne ho hni hnj
  ·exact cross i j2 oi oj o0 pi pj h2 h3 h4 k2 k3 (.inl how) hni hnj
  ·exact fun e=>cross j j1 oj oi o0' pj pi k2 k3 k4 h2 h3 (.inr how) hnj hni e.symm
  ·exact hN.sep j1 j2 oi oj pi pj h2 k2 h3 k3 (fun e=>hne (by rw[e])) how hni hnj
 ·rcases part i o pl ho hp with⟨_,h2,o0,h3,h4⟩|⟨j,rfl,h2,h3⟩
  ·exact hH.pin i o0 pl k h3 h2 (by rw[←h4.1];exact hk')
  ·rw[(hN.obj j o h2).1]at hk';cases hk'
 ·rcases part i o pl ho hp with⟨_,h2,o0,h3,h4⟩|⟨j,rfl,h2,h3⟩
  ·exact hH.vis i o0 pl h3 h2 hn
  ·exact visB _ (newB j o pl h2 h3 hn).1
 ·rcases frozen k ob hk with h|h
  ·obtain⟨z1,z2,z3⟩:=hH.fz k ob h
   refine⟨?_,z2,z3⟩
   rw[hb.block k (hH.fz_lt h)]
   ·exact z1
   ·rintro(hk|⟨i1,o1,pl1,e1,e2,e3,e4,e5⟩)
    ·have:=hH.fz_lt h
     omega
    ·exact notF i1 o1 pl1 e1 e3 e2 e4 (.inr ⟨ob,by rw[e5];exact h⟩)
  ·obtain⟨z1,z2,z3⟩:=hF1 k ob h
   exact⟨z1,visB k z2,b1f k z3⟩
 ·rcases part i o pl ho hp with⟨_,h2,o0,h3,h4⟩|⟨j,rfl,h2,h3⟩
  ·have how0:o0.own=true:=by
    rcases h4 with⟨_,⟨c1,c2,c3⟩|hu⟩
    ·exact c2 how
    ·exact(upd i o0 o pl h3 h2 hu).1
   obtain⟨f1,f2⟩:=hH.fo i o0 pl h3 h2 how0 hn
   refine⟨f1,fun ob h=> ?_⟩
   rcases frozen _ ob h with h|h
   ·exact f2 ob h
   ·rcases h4 with⟨_,⟨c1,c2,c3⟩|hu⟩
    ·obtain⟨p',hp',hok⟩:=hH.obj i o0 h3
     rw[h2]at hp'
     cases hp'
     have hlt:=blk_lt hok hn
     rcases(hF1 _ ob h).2.2 with(hk|⟨i1,o1,pl1,e1,e2,e3,e4,e5⟩)|(hk|⟨ob',hk⟩)
     ·omega
     ·obtain⟨ac,b,ob2,p,a1,a2,a3,a4,a5,a6,a7,_⟩:=(src i1 o1 pl1 e1 e3 e4).resolve_right (fun q=>by rw[q.1]at e2;cases e2)
      have hbi:b≠i:=by
       rintro rfl
       have:=(c3 i1 ac o1 a1 e1 a2).1
       rw[e2]at this
       cases this
      exact hH.sep b i ob2 o0 p pl a3 h3 a4 h2 hbi (a7 e2) a5 hn (by rw[←a6];exact e5)
     ·exact f1 hk
     ·exact f2 ob' hk
    ·exact(upd i o0 o pl h3 h2 hu).2.2.2 hn ob h
  ·obtain⟨g1,g2⟩:=hF2 j pl o h3 h2 how hn
   refine⟨fun h=>g1 (.inl h),fun ob h=> ?_⟩
   rcases frozen _ ob h with h|h
   ·exact g1 (.inr ⟨ob,h⟩)
   ·exact g2 ob h
def z9b:List Out→Bool
 |[]=>true
 | .ty (.row _)::_=>false
 | .ty t::r=> !t.deep&&z9b r
 |_=>false
def zmr:(cs:List CTy)→DC cs→List Value
 |[],_=>[]
 | .int k::r,d=> .int k d.1::zmr r d.2
 | .bool::r,d=> .bool d.1::zmr r d.2
 | .is k _::r,d=>List.map (Value.int k) d.1++zmr r d.2
 | .str::r,d=> .string (mkS d.1)::zmr r d.2
 | .fsl _ _::r,d=>zmr r d.2
 | .dsl _::r,d=>zmr r d.2
theorem z0p{M:List Place}:∀{cs:List CTy} {d:DC cs} {a:List Value},qt5 cs=false→RelC M (mkCs cs d) a→a=zmr cs d
 |[],d,a,_,h=>RelC_nil.1 h
 | .int k::r,d,a,hd,h=>by
  obtain⟨b,t,rfl,hx,hr⟩:=RelC_cons.1 h
  have h2:qt5 r=false:=hd
  rw[z0p (cs:=r) h2 hr,(RelX_int.1 hx).1]
  rfl
 | .bool::r,d,a,hd,h=>by
  obtain⟨b,t,rfl,hx,hr⟩:=RelC_cons.1 h
  have h2:qt5 r=false:=hd
  simp only[mk1,RelX]at hx
  rw[z0p (cs:=r) h2 hr,hx.1]
  rfl
 | .is k n::r,d,a,hd,h=>by
  obtain⟨b,t,rfl,hx,hr⟩:=RelC_cons.1 h
  have h2:qt5 r=false:=hd
  rw[z0p (cs:=r) h2 hr,(RelX_is.1 hx).2.1]
  rfl
 | .str::r,d,a,hd,h=>by
  obtain⟨b,t,rfl,hx,hr⟩:=RelC_cons.1 h
  have h2:qt5 r=false:=hd
  simp only[mk1,RelX]at hx
  rw[z0p (cs:=r) h2 hr,hx.1]
  rfl
 | .fsl _ _::r,d,a,hd,h=>by simp[qt5]at hd
 | .dsl _::r,d,a,hd,h=>by simp[qt5]at hd
def valT:(t:Ty)→t.den→Value
 | .int k,x=> .int k x
 | .bool,x=> .bool x
 | .is k _,l=> .agg (List.map (Value.int k) l).toArray
 | .row _,_=>undef
 | .agg cs,d=> .agg (zmr cs d).toArray
 | .str,l=> .string (mkS l)
 | .fsl _ _,_=>undef
 | .dsl _,_=>undef
 | .drow _,_=>undef
 | .mapc _,_=>undef
def valO:(os:List Out)→D (tysO os)→List Value
 |[],_=>[]
 | .ty t::r,d=>valT t d.1::valO r d.2
 | .row _ _ _::r,d=>valO r d.2
 | .agg cs::r,d=>valO r (qqr cs (tysO r) d)
 | .prow _ _::r,d=>valO r d.2
 | .psegs _ cs::r,d=>valO r (qqr cs (tysO r) d)
theorem valT_eq{M:List Place}{t:Ty}{x:t.den}{v:Value}(ht:∀k,t≠ .row k)(hd:t.deep=false)(h:RelV M (mkT t x) v):v=valT t x:=by
 cases t with
 |int k=>exact(q3h h).1
 |bool=>exact(q3k h).1
 |is k n=>
  obtain⟨vs,e,hc⟩:=RelX_agg.1 h
  have e:v= .agg vs:=by simpa using e
  subst e
  have:=(RelX_is.1 (RelC_single.1 hc)).2.1
  simp only[valT]
  congr 1
  apply Array.toList_inj.1
  simpa using this
 |row k=>exact absurd rfl (ht k)
 |agg cs=>
  obtain⟨vs,e,hc⟩:=RelX_agg.1 h
  have e:v= .agg vs:=by simpa using e
  subst e
  have:=z0p hd hc
  simp only[valT]
  congr 1
  apply Array.toList_inj.1
  simpa using this
 |str=>
  simp only[mkT,RelV,RelX]at h
  simpa[valT]using h.1
 |fsl k sz=>cases hd
 |dsl e=>cases hd
 |drow e=>cases hd
 |mapc i=>cases hd
theorem mkCs_any{M M' :List Place}{cs:List CTy}{d:DC cs}{a:List Value}(hd:qt5 cs=false)(h:RelC M (mkCs cs d) a):RelC M' (mkCs cs d) a:=by
 induction cs generalizing a with
 |nil=>exact RelC_nil.2 (RelC_nil.1 h)
 |cons t r ih=>
  obtain⟨b,t',rfl,hx,hr⟩:=RelC_cons.1 h
  have h2:qt5 r=false:=by cases t<;>first|exact hd|cases hd
  refine RelC_cons.2 ⟨b,t',rfl,?_,ih h2 hr⟩
  cases t with
  |fsl k sz=>cases hd
  |dsl e=>cases hd
  |_=>simpa only[mk1,RelX]using hx
theorem mkT_any{M M' :List Place}{t:Ty}{x:t.den}{v:Value}(hd:t.deep=false)(h:RelV M (mkT t x) v):RelV M' (mkT t x) v:=by
 cases t with
 |int k=>exact RelX_int.2 (RelX_int.1 h)
 |bool=>simpa only[mkT,RelV,RelX]using h
 |is k n=>
  obtain⟨vs,e,hc⟩:=RelX_agg.1 h
  exact RelX_agg.2 ⟨vs,e,RelC_single.2 (RelX_is.2 (RelX_is.1 (RelC_single.1 hc)))⟩
 |row k=>exact q49 _ _
 |agg cs=>
  obtain⟨vs,e,hc⟩:=RelX_agg.1 h
  exact RelX_agg.2 ⟨vs,e,mkCs_any hd hc⟩
 |str=>simpa only[mkT,RelV,RelX]using h
 |fsl k sz=>cases hd
 |dsl e=>cases hd
 |drow e=>exact q49 _ _
 |mapc i=>cases hd
theorem zv7:∀{os:List Out} {d:D (tysO os)} {M:List Place} {b:Nat} {vs:List Value},z9b os=true→RelL M (avsO os d b) vs→vs=valO os d∧RelL [] (avsO os d 0) vs
 |[],d,M,b,vs,_,h=>by
  simp only[avsO,RelL_nil]at h
  subst h
  exact⟨rfl,RelL_nil.2 rfl⟩
 | .ty t::r,d,M,b,vs,ha,h=>by
  obtain⟨v,vs',rfl,hv,hr⟩:=RelL_cons.1 h
  have ha' :z9b r=true∧(∀k,t≠ .row k)∧t.deep=false:=by
   cases t<;>simp only[z9b,yl,Bool.not_eq_true',reduceCtorEq]at ha<;>exact⟨ha.2,fun k h=>(by cases h),ha.1⟩
  obtain⟨e,hl⟩:=zv7 ha'.1 hr
  have hv2:=valT_eq ha'.2.1 ha'.2.2 hv
  refine⟨by rw[e,hv2];rfl,RelL_cons.2 ⟨v,vs',rfl,?_,hl⟩⟩
  exact mkT_any ha'.2.2 hv
 | .row k sz _::r,d,M,b,vs,ha,h=>by simp[z9b]at ha
 | .agg cs::r,d,M,b,vs,ha,h=>by simp[z9b]at ha
 | .prow _ _::r,d,M,b,vs,ha,h=>by simp[z9b]at ha
 | .psegs _ _::r,d,M,b,vs,ha,h=>by simp[z9b]at ha
def zv8(n:Nat)(ins:List Item)(os:List Out)(F:D (tysI ins [])→Option (D (tysO os))):List AV→Heap→(AV→Option ρ)→Option ρ:=fun args H K=>
 (extA n ins args H).bind fun d=>(F d).bind fun r=>K (retA (avsO os r 0))
theorem zt1:∀{its:List Item} {acc:List Ty} {d:D (tysI its acc)} {st:St},z99 its=true→(∀(i:Nat) o,st.heap[i]? =some (some o)→o.own=false)→∀(i:Nat) o,(bldI its acc d st).1.heap[i]? =some (some o)→o.own=false:=by
 intro its
 induction its with
 |nil=>intro acc d st _ h;exact h
 |cons it its ih=>
  intro acc d st hn h
  have snoc:∀(x:Option AObj),(∀o,x=some o→o.own=false)→∀(i:Nat) o,(st.heap++[x])[i]? =some (some o)→o.own=false:=by
   intro x hx i o hi
   rw[List.getElem?_append]at hi
   split at hi
   ·exact h i o hi
   ·rcases Nat.eq_zero_or_pos (i-st.heap.length)with h0|h0
    ·rw[h0]at hi
     simp at hi
     exact hx o hi
    ·rw[wa (by simp;omega)]at hi;cases hi
  cases it with
  |row k sz src own pin=>
   simp only[z99,yl,Bool.not_eq_true']at hn
   exact ih hn.2 (snoc _ (by rintro o ⟨⟩;exact hn.1))
  |segs cs src own pin=>
   simp only[z99,yl,Bool.not_eq_true']at hn
   exact ih hn.2 (snoc _ (by rintro o ⟨⟩;exact hn.1))
  |drow e src own pin=>
   simp only[z99,yl,Bool.not_eq_true']at hn
   exact ih hn.2 (snoc _ (by rintro o ⟨⟩;exact hn.1))
  |drop=>exact ih hn (snoc _ (by rintro o ⟨⟩))
  |slot t ty=>exact ih hn h
  |const t a=>exact ih hn h
  |sl t b sz c=>exact ih hn h
  |ptr t b w=>exact ih hn h
  |fn t f cs=>exact ih hn h
  |cells t cs=>exact ih hn h
def Base.fresh(n:Nat):Base:=⟨fun k=>n≤k,fun _=>True,fun _ _=>True,fun k=>k<n⟩
theorem Beneath.below' {w w' :World}(h:Beneath (Base.fresh w.heap.size) w w'):Below w.heap.size w w' :=⟨h.os,h.tape,h.output,h.size,fun k hk=>h.block k hk (fun h2=>Nat.lt_irrefl _ (Nat.lt_of_lt_of_le hk h2))⟩
theorem zv9{P:Program}{f:FuncId}{n:Nat}{ins:List Item}{os:List Out}{F:D (tysI ins [])→Option (D (tysO os))}(h:zmo P f n ins os F)(hn:z99 ins=true)(ha:z9b os=true):qlj (ρ:=ρ) P f (zv8 n ins os F):=by
 intro args H K r hk M B w vs hl hH
 unfold zv8 at hk
 simp only[Option.bind_eq_some_iff]at hk
 obtain⟨d,hd,x,hx,hk⟩:=hk
 have hrun:∀w',Below w.heap.size w w' →Calls P f vs w' fun e w'' =>∃rs:Array Value,e= .returned (retV rs)∧rs=(valO os x).toArray∧RelL [] (avsO os x 0) (valO os x)∧Below w'.heap.size w' w'' :=by
  intro w' hb
  obtain⟨M1,t⟩:=zmp hl (hH.below hb) hd
  have hno:=zt1 (acc:=[]) (d:=d) (st:=st0 n) hn (fun i o hi=>by cases i<;>simp[st0]at hi)
  have hH1:RelH M1 (bldS n ins d).heap (Base.fresh w'.heap.size) w' :=by
   refine⟨t.heap.len,fun k hk=>⟨hk,trivial⟩,fun i o ho=> ?_,t.heap.sep,fun _ _ _ _ _ _ _=>trivial,fun _ _ _ _ _ _=>trivial,fun k ob h=>⟨(t.heap.fz k ob h).1,trivial,.inr (t.heap.fz_lt h)⟩,fun i o pl ho hp how hn=>(by rw[hno i o ho]at how;cases how),fun k hk h=>absurd hk (Nat.not_le_of_lt h)⟩
   obtain⟨pl,hp,hok⟩:=t.heap.obj i o ho
   refine⟨pl,hp,?_⟩
   rcases hok with hok|⟨hn,cs,el,fz,h1,h2,h3,h4,h5⟩
   ·exact .inl hok
   ·exact .inr ⟨hn,cs,el,fz,h1,h2,h3,h4,fun ho2=>by rw[hno i o ho]at ho2;cases ho2⟩
  refine(h d x hx M1 (Base.fresh w'.heap.size) w' vs (z4x t.tmps) hH1).mono ?_
  rintro e w'' ⟨rs,rfl,hb',N,Fz,_,_,_,_,_,hav,_⟩
  obtain⟨e1,e2⟩:=zv7 (b:=0) ha (by simpa using hav [])
  refine⟨rs,rfl,?_,by rw[←e1];exact e2,hb'.below'⟩
  apply Array.toList_inj.1
  simpa using e1
 obtain⟨e,w',fr,⟨rs,_,_,hro,_⟩,_⟩:=hrun w (Below.refl _ _) []
 refine⟨retV (valO os x).toArray,_,hk,RelX.mono (fun b pl e=>(by simp at e)) _ _ (zhw (M:=[]) (by simpa using hro)),fun w' hb=>(hrun w' hb).mono ?_⟩
 rintro e w'' ⟨rs,rfl,rfl,_,hb'⟩
 exact⟨rfl,hb'⟩
end Go.AE
namespace Go.AE
open Go Go.RowKit
structure ToldF where
 f:FuncId
 n:Nat
 ins:List Item
 os:List Out
 F:D (tysI ins [])→Option (D (tysO os))
def ToldF.ok(P:Program)(t:ToldF):Prop:=zmo P t.f t.n t.ins t.os t.F
def zva:List ToldF→FuncId→Bool
 |[],_=>false
 |t::r,f=>if t.f=f then true else zva r f
def zvb{ρ:Type}:List ToldF→FuncId→List AV→Heap→(AV→Heap→Option ρ)→Option ρ
 |[],_,_,_,_=>none
 |t::r,f,args,H,K=>if t.f=f then
   match extA t.n t.ins args H with
   |some _=>smRun t.n t.ins t.os t.F args H K
   |none=>zvb r f args H K
  else zvb r f args H K
def zrn:List ToldF→FuncId→Bool
 |[],_=>false
 |t::r,f=>if t.f=f∧z9b t.os=true∧z99 t.ins=true then true else zrn r f
def zms{ρ:Type}:List ToldF→FuncId→List AV→Heap→(AV→Option ρ)→Option ρ
 |[],_,_,_,_=>none
 |t::r,f,args,H,K=>if t.f=f∧z9b t.os=true∧z99 t.ins=true then
   match extA t.n t.ins args H with
   |some _=>zv8 t.n t.ins t.os t.F args H K
   |none=>zms r f args H K
  else zms r f args H K
def zvc(l:List ToldF)(ρ:Type):Env ρ:=
 ⟨fun f=>if zva l f=true then some (zvb l f)else none,fun f=>if zrn l f=true then some (zms l f)else none⟩
def qjw(f:FuncId)(n:Nat):ToldF:=⟨f,n,[],[],fun _=>none⟩
theorem q9j(P:Program)(f:FuncId)(n:Nat):(qjw f n).ok P:=fun d r h=>by cases h
def q03(P:Program):List ToldF→Prop
 |[]=>True
 |t::r=>t.ok P∧q03 P r
theorem zhx{P:Program}{ρ:Type}:∀{l:List ToldF},q03 P l→∀f,qs8 (ρ:=ρ) P f (zvb l f)
 |[],_,f=>fun args H K r h=>by cases h
 |t::l,hl,f=>by
  intro args H K r h
  unfold zvb at h
  split at h
  ·rename_i hf
   subst hf
   split at h
   ·exact smRun_ok hl.1 args H K r h
   ·exact zhx hl.2 t.f args H K r h
  ·exact zhx hl.2 f args H K r h
theorem z9c{P:Program}{ρ:Type}:∀{l:List ToldF},q03 P l→∀f,qlj (ρ:=ρ) P f (zms l f)
 |[],_,f=>fun args H K r h=>by cases h
 |t::l,hl,f=>by
  intro args H K r h
  unfold zms at h
  split at h
  ·rename_i hf
   obtain⟨rfl,ha,hn⟩:=hf
   split at h
   ·exact zv9 hl.1 hn ha args H K r h
   ·exact z9c hl.2 t.f args H K r h
  ·exact z9c hl.2 f args H K r h
theorem zro{P:Program}{l:List ToldF}(h:q03 P l)(ρ:Type):EnvOk P (zvc l ρ):=by
 refine⟨fun f s hs=> ?_,fun f s hs=> ?_⟩
 ·simp only[zvc]at hs
  split at hs
  ·cases hs;exact zhx h f
  ·cases hs
 ·simp only[zvc]at hs
  split at hs
  ·cases hs;exact z9c h f
  ·cases hs
abbrev calT(P:Program)(l:List ToldF):Cals:=fun σ=>evFn P (zvc l σ) 40
abbrev qcalT(l:List ToldF):QCals:=fun σ=>qof (zvc l σ)
theorem zpp{P:Program}(hP:q21 P){l:List ToldF}(h:q03 P l)(σ:Type)(f:FuncId):qs8 P f (calT P l σ f):=z95 hP (zro h σ) 40 f
theorem zhy{P:Program}{l:List ToldF}(h:q03 P l)(σ:Type)(f:FuncId):qlj P f (qcalT l σ f):=zrm (zro h σ) f
def z5r{ρ:Type}:List (Nat×Ann ρ)→Nat→Option (Ann ρ)
 |[],_=>none
 |(i,a)::r,id=>if id=i then some a else z5r r id
def qll{ρ:Type}(P:Program)(c:Code)(l:List (Nat×Ann ρ)):Prop:=
 ∀(B:Base) (w:World) (id:Nat) (an:Ann ρ) (c' :Code),z5r l id=some an→(id,c')∈q9i c→z38 P false B w (.block id c') an
theorem zt2{ρ:Type}(P:Program)(c:Code):qll (ρ:=ρ) P c []:=fun _ _ _ _ _ h=>by cases h
def qwd(c:Code)(id:Nat):List Code:=((q9i c).filter fun p=>p.1==id).map (·.2)
theorem z9d{ρ:Type}{P:Program}{c body:Code}{id:Nat}{an:Ann ρ}{l:List (Nat×Ann ρ)}(hb:qwd c id=[.loop body])
  (h:∀B w,z38 P false B w (.block id (.loop body)) an) (hl:qll P c l):qll P c ((id,an)::l):=by
 intro B w id' an' c' ha hc
 unfold z5r at ha
 split at ha
 ·rename_i hid
  subst hid
  cases ha
  have:c' ∈qwd c id' :=by
   unfold qwd
   rw[List.mem_map]
   exact⟨(id',c'),by simp[hc],rfl⟩
  rw[hb,List.mem_singleton]at this
  subst this
  exact h B w
 ·exact hl B w id' an' c' ha hc
def z4z(c:Code)(id:Nat):Code:=match qwd c id with
 |[.loop b]=>b
 |_=> .skip
def qia(fn:Func):Code:=match fn.body with
 |some c=>c
 |none=> .skip
theorem toldF_ok{P:Program}(hP:q21 P){l:List ToldF}(hl:q03 P l){fn:Func}{t:ToldF}{anns:List (Nat×Ann (D (tysO t.os)))}(hf:P.funcs[t.f]? =some fn)(ha:qll P (qia fn) anns)
  (h:∀d,zgs P (calT P l _) (qcalT l _) (z5r anns) t.f (bldS t.n t.ins d).tmps (bldS t.n t.ins d).heap (endO t.os)=t.F d):t.ok P:=by
 refine zv6 hP (zpp hP hl) (zhy hl) (ann:=z5r anns) (fun fn' c h1 h2 id an c' h3 h4 B w=> ?_) h
 rw[hf]at h1
 cases h1
 unfold qia at ha
 rw[h2]at ha
 exact ha B w id an c' h3 h4
theorem toldS_ok{P:Program}(hP:q21 P){l:List ToldF}(hl:q03 P l){nt:Nat}{ins outs:List Item}{id:Nat}{body:Code}
  {L:Nat→D (tysI ins [])→Option (D (tysI outs []))} {anns:List (Nat×Ann (D (tysI outs [])))} (ha:qll P body anns) (h0:∀d,L 0 d=none)
  (hs:∀k d,q76 P (calT P l _) (qcalT l _) (z5r anns) body (bldS nt ins d) (kS nt ins outs id (L k))=L (k+1) d) (F:Nat) {ρ:Type} (B:Base) (w:World):
  z38 (ρ:=ρ) P false B w (.block id (.loop body)) (annS nt ins outs (L F)):=
 annS_ok hP (zpp hP hl) (zhy hl) (ann:=z5r anns) (fun id an c' h1 h2=>ha B w id an c' h1 h2) h0 hs F
theorem toldX_ok{P:Program}(hP:q21 P){l:List ToldF}(hl:q03 P l){nt:Nat}{ins outX outs:List Item}{e2:Exit}{id:Nat}{body:Code}
  {L:Nat→D (tysI ins [])→Option (D (tysI outX [])⊕D (tysI outs []))} {anns:List (Nat×Ann (D (tysI outX [])⊕D (tysI outs [])))} (ha:qll P body anns) (h0:∀d,L 0 d=none)
  (hs:∀k d,q76 P (calT P l _) (qcalT l _) (z5r anns) body (bldS nt ins d) (kX nt ins outX outs id e2 (L k))=L (k+1) d) (he:e2= .ret∨∃j,e2= .exit j∧j≠id) (F:Nat) {ρ:Type} (B:Base) (w:World):
  z38 (ρ:=ρ) P false B w (.block id (.loop body)) (annX nt ins outX outs e2 (L F)):=
 annX_ok hP (zpp hP hl) (zhy hl) (ann:=z5r anns) (fun id an c' h1 h2=>ha B w id an c' h1 h2) h0 hs he F
@[reducible] def u0 {R U:Type} (f:R) (_:U):R:=f
@[reducible] def u1 {R U A0:Type} (f:A0→R) (d:A0×U):R:=u0 (f d.1) d.2
@[reducible] def u2 {R U A0 A1:Type} (f:A0→A1→R) (d:A0×A1×U):R:=u1 (f d.1) d.2
@[reducible] def u3 {R U A0 A1 A2:Type} (f:A0→A1→A2→R) (d:A0×A1×A2×U):R:=u2 (f d.1) d.2
@[reducible] def u4 {R U A0 A1 A2 A3:Type} (f:A0→A1→A2→A3→R) (d:A0×A1×A2×A3×U):R:=u3 (f d.1) d.2
@[reducible] def u5 {R U A0 A1 A2 A3 A4:Type} (f:A0→A1→A2→A3→A4→R) (d:A0×A1×A2×A3×A4×U):R:=u4 (f d.1) d.2
@[reducible] def u6 {R U A0 A1 A2 A3 A4 A5:Type} (f:A0→A1→A2→A3→A4→A5→R) (d:A0×A1×A2×A3×A4×A5×U):R:=u5 (f d.1) d.2
@[reducible] def u7 {R U A0 A1 A2 A3 A4 A5 A6:Type} (f:A0→A1→A2→A3→A4→A5→A6→R) (d:A0×A1×A2×A3×A4×A5×A6×U):R:=u6 (f d.1) d.2
@[reducible] def u8 {R U A0 A1 A2 A3 A4 A5 A6 A7:Type} (f:A0→A1→A2→A3→A4→A5→A6→A7→R) (d:A0×A1×A2×A3×A4×A5×A6×A7×U):R:=u7 (f d.1) d.2
@[reducible] def u9 {R U A0 A1 A2 A3 A4 A5 A6 A7 A8:Type} (f:A0→A1→A2→A3→A4→A5→A6→A7→A8→R) (d:A0×A1×A2×A3×A4×A5×A6×A7×A8×U):R:=u8 (f d.1) d.2
@[reducible] def u10 {R U A0 A1 A2 A3 A4 A5 A6 A7 A8 A9:Type} (f:A0→A1→A2→A3→A4→A5→A6→A7→A8→A9→R) (d:A0×A1×A2×A3×A4×A5×A6×A7×A8×A9×U):R:=u9 (f d.1) d.2
@[reducible] def u11 {R U A0 A1 A2 A3 A4 A5 A6 A7 A8 A9 A10:Type} (f:A0→A1→A2→A3→A4→A5→A6→A7→A8→A9→A10→R) (d:A0×A1×A2×A3×A4×A5×A6×A7×A8×A9×A10×U):R:=u10 (f d.1) d.2
@[reducible] def u12 {R U A0 A1 A2 A3 A4 A5 A6 A7 A8 A9 A10 A11:Type} (f:A0→A1→A2→A3→A4→A5→A6→A7→A8→A9→A10→A11→R) (d:A0×A1×A2×A3×A4×A5×A6×A7×A8×A9×A10×A11×U):R:=u11 (f d.1) d.2
@[reducible] def u13 {R U A0 A1 A2 A3 A4 A5 A6 A7 A8 A9 A10 A11 A12:Type} (f:A0→A1→A2→A3→A4→A5→A6→A7→A8→A9→A10→A11→A12→R) (d:A0×A1×A2×A3×A4×A5×A6×A7×A8×A9×A10×A11×A12×U):R:=u12 (f d.1) d.2
@[reducible] def u14 {R U A0 A1 A2 A3 A4 A5 A6 A7 A8 A9 A10 A11 A12 A13:Type} (f:A0→A1→A2→A3→A4→A5→A6→A7→A8→A9→A10→A11→A12→A13→R) (d:A0×A1×A2×A3×A4×A5×A6×A7×A8×A9×A10×A11×A12×A13×U):R:=u13 (f d.1) d.2
@[reducible] def u15 {R U A0 A1 A2 A3 A4 A5 A6 A7 A8 A9 A10 A11 A12 A13 A14:Type} (f:A0→A1→A2→A3→A4→A5→A6→A7→A8→A9→A10→A11→A12→A13→A14→R) (d:A0×A1×A2×A3×A4×A5×A6×A7×A8×A9×A10×A11×A12×A13×A14×U):R:=u14 (f d.1) d.2
@[reducible] def u16 {R U A0 A1 A2 A3 A4 A5 A6 A7 A8 A9 A10 A11 A12 A13 A14 A15:Type} (f:A0→A1→A2→A3→A4→A5→A6→A7→A8→A9→A10→A11→A12→A13→A14→A15→R) (d:A0×A1×A2×A3×A4×A5×A6×A7×A8×A9×A10×A11×A12×A13×A14×A15×U):R:=u15 (f d.1) d.2
@[reducible] def u17 {R U A0 A1 A2 A3 A4 A5 A6 A7 A8 A9 A10 A11 A12 A13 A14 A15 A16:Type} (f:A0→A1→A2→A3→A4→A5→A6→A7→A8→A9→A10→A11→A12→A13→A14→A15→A16→R) (d:A0×A1×A2×A3×A4×A5×A6×A7×A8×A9×A10×A11×A12×A13×A14×A15×A16×U):R:=u16 (f d.1) d.2
@[reducible] def u18 {R U A0 A1 A2 A3 A4 A5 A6 A7 A8 A9 A10 A11 A12 A13 A14 A15 A16 A17:Type} (f:A0→A1→A2→A3→A4→A5→A6→A7→A8→A9→A10→A11→A12→A13→A14→A15→A16→A17→R) (d:A0×A1×A2×A3×A4×A5×A6×A7×A8×A9×A10×A11×A12×A13×A14×A15×A16×A17×U):R:=u17 (f d.1) d.2
@[reducible] def u19 {R U A0 A1 A2 A3 A4 A5 A6 A7 A8 A9 A10 A11 A12 A13 A14 A15 A16 A17 A18:Type} (f:A0→A1→A2→A3→A4→A5→A6→A7→A8→A9→A10→A11→A12→A13→A14→A15→A16→A17→A18→R) (d:A0×A1×A2×A3×A4×A5×A6×A7×A8×A9×A10×A11×A12×A13×A14×A15×A16×A17×A18×U):R:=u18 (f d.1) d.2
@[reducible] def u20 {R U A0 A1 A2 A3 A4 A5 A6 A7 A8 A9 A10 A11 A12 A13 A14 A15 A16 A17 A18 A19:Type} (f:A0→A1→A2→A3→A4→A5→A6→A7→A8→A9→A10→A11→A12→A13→A14→A15→A16→A17→A18→A19→R) (d:A0×A1×A2×A3×A4×A5×A6×A7×A8×A9×A10×A11×A12×A13×A14×A15×A16×A17×A18×A19×U):R:=u19 (f d.1) d.2
@[reducible] def u21 {R U A0 A1 A2 A3 A4 A5 A6 A7 A8 A9 A10 A11 A12 A13 A14 A15 A16 A17 A18 A19 A20:Type} (f:A0→A1→A2→A3→A4→A5→A6→A7→A8→A9→A10→A11→A12→A13→A14→A15→A16→A17→A18→A19→A20→R) (d:A0×A1×A2×A3×A4×A5×A6×A7×A8×A9×A10×A11×A12×A13×A14×A15×A16×A17×A18×A19×A20×U):R:=u20 (f d.1) d.2
@[reducible] def u22 {R U A0 A1 A2 A3 A4 A5 A6 A7 A8 A9 A10 A11 A12 A13 A14 A15 A16 A17 A18 A19 A20 A21:Type} (f:A0→A1→A2→A3→A4→A5→A6→A7→A8→A9→A10→A11→A12→A13→A14→A15→A16→A17→A18→A19→A20→A21→R) (d:A0×A1×A2×A3×A4×A5×A6×A7×A8×A9×A10×A11×A12×A13×A14×A15×A16×A17×A18×A19×A20×A21×U):R:=u21 (f d.1) d.2
@[reducible] def u23 {R U A0 A1 A2 A3 A4 A5 A6 A7 A8 A9 A10 A11 A12 A13 A14 A15 A16 A17 A18 A19 A20 A21 A22:Type} (f:A0→A1→A2→A3→A4→A5→A6→A7→A8→A9→A10→A11→A12→A13→A14→A15→A16→A17→A18→A19→A20→A21→A22→R) (d:A0×A1×A2×A3×A4×A5×A6×A7×A8×A9×A10×A11×A12×A13×A14×A15×A16×A17×A18×A19×A20×A21×A22×U):R:=u22 (f d.1) d.2
@[reducible] def u24 {R U A0 A1 A2 A3 A4 A5 A6 A7 A8 A9 A10 A11 A12 A13 A14 A15 A16 A17 A18 A19 A20 A21 A22 A23:Type} (f:A0→A1→A2→A3→A4→A5→A6→A7→A8→A9→A10→A11→A12→A13→A14→A15→A16→A17→A18→A19→A20→A21→A22→A23→R) (d:A0×A1×A2×A3×A4×A5×A6×A7×A8×A9×A10×A11×A12×A13×A14×A15×A16×A17×A18×A19×A20×A21×A22×A23×U):R:=u23 (f d.1) d.2
@[reducible] def u25 {R U A0 A1 A2 A3 A4 A5 A6 A7 A8 A9 A10 A11 A12 A13 A14 A15 A16 A17 A18 A19 A20 A21 A22 A23 A24:Type} (f:A0→A1→A2→A3→A4→A5→A6→A7→A8→A9→A10→A11→A12→A13→A14→A15→A16→A17→A18→A19→A20→A21→A22→A23→A24→R) (d:A0×A1×A2×A3×A4×A5×A6×A7×A8×A9×A10×A11×A12×A13×A14×A15×A16×A17×A18×A19×A20×A21×A22×A23×A24×U):R:=u24 (f d.1) d.2
@[reducible] def u26 {R U A0 A1 A2 A3 A4 A5 A6 A7 A8 A9 A10 A11 A12 A13 A14 A15 A16 A17 A18 A19 A20 A21 A22 A23 A24 A25:Type} (f:A0→A1→A2→A3→A4→A5→A6→A7→A8→A9→A10→A11→A12→A13→A14→A15→A16→A17→A18→A19→A20→A21→A22→A23→A24→A25→R) (d:A0×A1×A2×A3×A4×A5×A6×A7×A8×A9×A10×A11×A12×A13×A14×A15×A16×A17×A18×A19×A20×A21×A22×A23×A24×A25×U):R:=u25 (f d.1) d.2
@[reducible] def u27 {R U A0 A1 A2 A3 A4 A5 A6 A7 A8 A9 A10 A11 A12 A13 A14 A15 A16 A17 A18 A19 A20 A21 A22 A23 A24 A25 A26:Type} (f:A0→A1→A2→A3→A4→A5→A6→A7→A8→A9→A10→A11→A12→A13→A14→A15→A16→A17→A18→A19→A20→A21→A22→A23→A24→A25→A26→R) (d:A0×A1×A2×A3×A4×A5×A6×A7×A8×A9×A10×A11×A12×A13×A14×A15×A16×A17×A18×A19×A20×A21×A22×A23×A24×A25×A26×U):R:=u26 (f d.1) d.2
@[reducible] def u28 {R U A0 A1 A2 A3 A4 A5 A6 A7 A8 A9 A10 A11 A12 A13 A14 A15 A16 A17 A18 A19 A20 A21 A22 A23 A24 A25 A26 A27:Type} (f:A0→A1→A2→A3→A4→A5→A6→A7→A8→A9→A10→A11→A12→A13→A14→A15→A16→A17→A18→A19→A20→A21→A22→A23→A24→A25→A26→A27→R) (d:A0×A1×A2×A3×A4×A5×A6×A7×A8×A9×A10×A11×A12×A13×A14×A15×A16×A17×A18×A19×A20×A21×A22×A23×A24×A25×A26×A27×U):R:=u27 (f d.1) d.2
@[reducible] def u29 {R U A0 A1 A2 A3 A4 A5 A6 A7 A8 A9 A10 A11 A12 A13 A14 A15 A16 A17 A18 A19 A20 A21 A22 A23 A24 A25 A26 A27 A28:Type} (f:A0→A1→A2→A3→A4→A5→A6→A7→A8→A9→A10→A11→A12→A13→A14→A15→A16→A17→A18→A19→A20→A21→A22→A23→A24→A25→A26→A27→A28→R) (d:A0×A1×A2×A3×A4×A5×A6×A7×A8×A9×A10×A11×A12×A13×A14×A15×A16×A17×A18×A19×A20×A21×A22×A23×A24×A25×A26×A27×A28×U):R:=u28 (f d.1) d.2
@[reducible] def u30 {R U A0 A1 A2 A3 A4 A5 A6 A7 A8 A9 A10 A11 A12 A13 A14 A15 A16 A17 A18 A19 A20 A21 A22 A23 A24 A25 A26 A27 A28 A29:Type} (f:A0→A1→A2→A3→A4→A5→A6→A7→A8→A9→A10→A11→A12→A13→A14→A15→A16→A17→A18→A19→A20→A21→A22→A23→A24→A25→A26→A27→A28→A29→R) (d:A0×A1×A2×A3×A4×A5×A6×A7×A8×A9×A10×A11×A12×A13×A14×A15×A16×A17×A18×A19×A20×A21×A22×A23×A24×A25×A26×A27×A28×A29×U):R:=u29 (f d.1) d.2
@[reducible] def u31 {R U A0 A1 A2 A3 A4 A5 A6 A7 A8 A9 A10 A11 A12 A13 A14 A15 A16 A17 A18 A19 A20 A21 A22 A23 A24 A25 A26 A27 A28 A29 A30:Type} (f:A0→A1→A2→A3→A4→A5→A6→A7→A8→A9→A10→A11→A12→A13→A14→A15→A16→A17→A18→A19→A20→A21→A22→A23→A24→A25→A26→A27→A28→A29→A30→R) (d:A0×A1×A2×A3×A4×A5×A6×A7×A8×A9×A10×A11×A12×A13×A14×A15×A16×A17×A18×A19×A20×A21×A22×A23×A24×A25×A26×A27×A28×A29×A30×U):R:=u30 (f d.1) d.2
@[reducible] def u32 {R U A0 A1 A2 A3 A4 A5 A6 A7 A8 A9 A10 A11 A12 A13 A14 A15 A16 A17 A18 A19 A20 A21 A22 A23 A24 A25 A26 A27 A28 A29 A30 A31:Type} (f:A0→A1→A2→A3→A4→A5→A6→A7→A8→A9→A10→A11→A12→A13→A14→A15→A16→A17→A18→A19→A20→A21→A22→A23→A24→A25→A26→A27→A28→A29→A30→A31→R) (d:A0×A1×A2×A3×A4×A5×A6×A7×A8×A9×A10×A11×A12×A13×A14×A15×A16×A17×A18×A19×A20×A21×A22×A23×A24×A25×A26×A27×A28×A29×A30×A31×U):R:=u31 (f d.1) d.2
structure TL where
 nt:Nat
 ins:List Item
 outs:List Item
 id:Nat
 L:Nat→D (tysI ins [])→Option (D (tysI outs []))
 S:Nat→D (tysI ins [])→Option (D (tysI outs []))
def TL.ann(t:TL)(F:Nat){ρ:Type}:Ann ρ:=annS t.nt t.ins t.outs (t.L F)
def TL.ok(P:Program)(fn:Func)(t:TL)(F:Nat):Prop:=∀{ρ:Type} (B:Base) (w:World),z38 (ρ:=ρ) P false B w (.block t.id (.loop (z4z (qia fn) t.id))) (t.ann F)
structure TX where
 nt:Nat
 ins:List Item
 outX:List Item
 outs:List Item
 e2:Exit
 id:Nat
 L:Nat→D (tysI ins [])→Option (D (tysI outX [])⊕D (tysI outs []))
 S:Nat→D (tysI ins [])→Option (D (tysI outX [])⊕D (tysI outs []))
def TX.ann(t:TX)(F:Nat){ρ:Type}:Ann ρ:=annX t.nt t.ins t.outX t.outs t.e2 (t.L F)
def TX.ok(P:Program)(fn:Func)(t:TX)(F:Nat):Prop:=∀{ρ:Type} (B:Base) (w:World),z38 (ρ:=ρ) P false B w (.block t.id (.loop (z4z (qia fn) t.id))) (t.ann F)
theorem aN{ρ:Type}{P:Program}{c:Code}:qll (ρ:=ρ) P c []:=zt2 P c
theorem aL{ρ:Type}{P:Program}{fn:Func}{c:Code}{t:TL}{F:Nat}{l:List (Nat×Ann ρ)}(hb:qwd c t.id=[.loop (z4z (qia fn) t.id)])(h:t.ok P fn F)(hl:qll P c l):qll P c ((t.id,t.ann F)::l):=
 z9d hb (fun B w=>h B w) hl
theorem aX{ρ:Type}{P:Program}{fn:Func}{c:Code}{t:TX}{F:Nat}{l:List (Nat×Ann ρ)}(hb:qwd c t.id=[.loop (z4z (qia fn) t.id)])(h:t.ok P fn F)(hl:qll P c l):qll P c ((t.id,t.ann F)::l):=
 z9d hb (fun B w=>h B w) hl
theorem okF{P:Program}(hP:q21 P){l:List ToldF}(hl:q03 P l){fn:Func}{t:ToldF}(anns:List (Nat×Ann (D (tysO t.os))))(hf:P.funcs[t.f]? =some fn)(ha:qll P (qia fn) anns)
  (h:∀d,zgs P (calT P l _) (qcalT l _) (z5r anns) t.f (bldS t.n t.ins d).tmps (bldS t.n t.ins d).heap (endO t.os)=t.F d):t.ok P:=
 toldF_ok hP hl hf ha h
theorem okL{P:Program}(hP:q21 P){l:List ToldF}(hl:q03 P l){fn:Func}{t:TL}{F:Nat}(anns:List (Nat×Ann (D (tysI t.outs []))))(ha:qll P (z4z (qia fn) t.id) anns)
  (h0:∀d,t.L 0 d=none) (h1:∀k d,t.S k d=t.L (k+1) d)
  (hs:∀k d,q76 P (calT P l _) (qcalT l _) (z5r anns) (z4z (qia fn) t.id) (bldS t.nt t.ins d) (kS t.nt t.ins t.outs t.id (t.L k))=t.S k d):t.ok P fn F:=by
 intro ρ B w
 exact toldS_ok hP hl ha h0 (fun k d=>(hs k d).trans (h1 k d)) F B w
theorem okX{P:Program}(hP:q21 P){l:List ToldF}(hl:q03 P l){fn:Func}{t:TX}{F:Nat}(anns:List (Nat×Ann (D (tysI t.outX [])⊕D (tysI t.outs []))))(ha:qll P (z4z (qia fn) t.id) anns)
  (h0:∀d,t.L 0 d=none) (h1:∀k d,t.S k d=t.L (k+1) d) (he:t.e2= .ret∨∃j,t.e2= .exit j∧j≠t.id)
  (hs:∀k d,q76 P (calT P l _) (qcalT l _) (z5r anns) (z4z (qia fn) t.id) (bldS t.nt t.ins d) (kX t.nt t.ins t.outX t.outs t.id t.e2 (t.L k))=t.S k d):t.ok P fn F:=by
 intro ρ B w
 exact toldX_ok hP hl ha h0 (fun k d=>(hs k d).trans (h1 k d)) he F B w
theorem eR{e:Exit}{id:Nat}(h:e= .ret):e= .ret∨∃j,e= .exit j∧j≠id:= .inl h
end Go.AE
namespace Go.AE
open Go Go.RowKit
theorem law_told{P:Program}{t:ToldF}(h:t.ok P)(ho:t.os=[.ty .bool]){d:D (tysI t.ins [])}(hd:t.F d=some (ho▸(true,()))){M:List Place}{w:World}{vs:Array Value}
  (hl:RelL M (bldS t.n t.ins d).tmps vs.toList) (hH:RelH M (bldS t.n t.ins d).heap (Base.at w.heap.size) w):Calls P t.f vs w fun e w' =>e= .returned (.bool true)∧Below w.heap.size w w' :=by
 obtain⟨f,n,ins,os,F⟩:=t
 dsimp only at ho hd hl hH
 subst ho
 refine(h d _ hd M _ w vs hl hH).mono ?_
 rintro e w' ⟨rs,rfl,hb,N,Fz,_,_,_,_,_,hav,_⟩
 have hr:=hav []
 obtain⟨v,vs',hv,hx,hn⟩:=RelL_cons.1 hr
 have hn:vs' =[]:=by simpa[avsO,RelL_nil]using hn
 subst hn
 refine⟨?_,hb.below⟩
 have e1:=(q3k (x:=true) (l:=none) hx).1
 have h1:rs= #[.bool true]:=by
  apply Array.toList_inj.1
  rw[hv,e1]
 subst h1
 rfl
end Go.AE
namespace Go.AE
open Go Go.RowKit
theorem zhz{P:Program}{ρ:Operand→Value}{o:Oper}{t t' :TypeId}{e:TypeId}{x:Operand}(ho:o.op= .binOp .eql t x (.const (.slice none 0 0)) t'){A:Option Addr}{len cap:Nat}(hx:ρ x= .slice A len cap)(hy:ρ (.const (.slice none 0 0))= .slice none 0 0)(hu:P.underlying t=some (.slice e))(w:World):
  (execOp ρ o).run P w= .ok (.value (.bool A.isNone)) w:=by
 have h:(Op.equalIn Op.maxDepth t (.slice A len cap) (.slice none 0 0)).run P w= .ok A.isNone w:=by
  rw[show Op.maxDepth=(Op.maxDepth-1)+1 from rfl]
  simp only[Op.equalIn,Sem.run_bind,run_underlying hu,Result.andThen_ok]
  cases A<;>rfl
 simp[execOp,ho,hx,hy,eqGuard,binOp,Op.equal,h]
theorem wp_to{P:Program}(hP:q21 P){cal:Cal St}(hcal:∀f,qs8 P f (cal f)){qcal:QCal St}(hq:∀f,qlj P f (qcal f)){c:Code}{st st' :St}(h:q76 P cal qcal (fun _=>none) c st (fun e s=>match e with| .normal=>some s|_=>none)=some st')
  {M:List Place} {B:Base} {w0:World} {a:Go.Act} {w:World} (hr:Rel M st B w0 a w) {Q:Exit→Go.Act→World→Prop} (hn:∀M' a' w',Rel M' st' B w0 a' w' →Q .normal a' w'):c.wp P Q a w:=by
 refine qgq hP hcal hq c (fun _ _ _ h=>by cases h) st _ h M a w Q hr fun e M' s a' w' (_:ExtO true M M') hk hr' => ?_
 cases e<;>simp only[reduceCtorEq]at hk
 cases hk
 exact hn M' a' w' hr'
def z9e(sz:Nat)(l:LI):Option (LI×Unit):=
 cond (decide (0+div1 l.length sz≤1099511627776)&&(if false=true then decide (0<div1 l.length sz)else true)) (some (l,())) none
abbrev k0:Exit→St→Option St:=fun e s=>match e with| .normal=>some s|_=>none
theorem zt3{P:Program}(hP:q21 P){f:FuncId}{fn:Func}(hf:P.funcs[f]? =some fn){k:IntKind}{sz:Nat}{R0 X REST:Code}{i1:Nat}{o3 o4:Oper}{t t' e:TypeId}
  (hb:fn.body=some (.seq R0 (.seq (.seq (.region i1 #[o3,o4] false) (.cond (.tmp 4) X .skip)) REST)))
  (ho4:o4.op= .binOp .eql t (.tmp 3) (.const (.slice none 0 0)) t') (hd4:o4.dst=some 4) (hg4:o4.guard=none) (hg3:o3.guard=none) (hu:P.underlying t=some (.slice e))
  (st1 st2:LI→St)
  (h0:∀l,q76 P (evFn P (qg4 St) 1) (qof (qg4 St)) (fun _=>none) R0 ⟨[.sl 1 0 (div1 (ya (α:=Int) l) sz) sz .whole]++yz (fn.ntmps-1) .undef,[none,some ⟨.row k l,false,none⟩]⟩ k0=some (st1 l))
  (h3:∀l,z8o P (evFn P (qg4 St) 1) o3 (st1 l) some=some (st2 l))
  (hs3:∀l,(st2 l).tmps.getD 3 .undef= .sl 1 0 (div1 (ya (α:=Int) l) sz) sz .whole∧(st2 l).heap=[none,some ⟨.row k l,false,none⟩])
  (hlen:∀l,4<(st2 l).tmps.length)
  (hX:∀l,q76 P (evFn P (qg4 (D (tysO [.row k sz]))) 1) (qof (qg4 _)) (fun _=>none) X ((st2 l).put (some 4) (.bool (some true) true)) (fun e st=>match e with
   | .ret=>(match z5o P st fn.results.toList with|some l=>endO [.row k sz] l st.heap|none=>none)|_=>none)=some ([],()))
  (hR:∀l,q76 P (evFn P (qg4 (D (tysO [.row k sz]))) 1) (qof (qg4 _)) (fun _=>none) REST ((st2 l).put (some 4) (.bool (some false) false)) (fun e st=>match e with
   | .ret=>(match z5o P st fn.results.toList with|some l=>endO [.row k sz] l st.heap|none=>none)|_=>none)=z9e sz l):
  zmo P f 1 [.row k sz (.slot 0) false] [.row k sz] (fun d=>z9e sz d.1):=by
 rintro⟨l,⟨⟩⟩ r hF M B w vs hl hH
 have hF:z9e sz l=some r:=hF
 have hl:RelL M [.sl 1 0 (div1 l.length sz) sz .whole] vs.toList:=hl
 have hH:RelH M [none,some ⟨.row k l,false,none⟩] B w:=hH
 have hs:=z0m hl
 simp at hs
 refine calls_of_wp hf hb ?_
 have e0:=z98 P St
 have e1:=z98 P (D (tysO [Out.row k sz]))
 have hr0:Rel M ⟨[.sl 1 0 (div1 l.length sz) sz .whole]++yz (fn.ntmps-1) .undef,[none,some ⟨.row k l,false,none⟩]⟩ B w {tmps:=vs++Array.replicate (fn.ntmps-vs.size) undef,defers:=[]} w:=
  ⟨by rw[←hs];exact z94 hl _,rfl,hH,Beneath.refl _ _⟩
 refine wp_seq (wp_to hP (z95 hP e0 1) (zrm e0) (h0 l) hr0 fun M1 a1 w1 hr1=> ?_)
 refine wp_seq (wp_seq (wp_region_list ?_))
 show wpList P #[o3,o4] _ [o3,o4] a1 w1
 unfold wpList
 rw[iP (by simp[Region.wanted,hg3])]
 refine .inl (z4p hP (z95 hP e0 1) (h3 l) hr1 fun M2 st a2 w2 hE hk hr2=> ?_)
 cases hk
 unfold wpList
 rw[iP (by simp[Region.wanted,hg4])]
 refine .inl ?_
 obtain⟨hs1,hs2⟩:=hs3 l
 have hv3:=hr2.tmps.2 3
 rw[hs1]at hv3
 have hv3' :=hv3
 simp only[RelV,RelX]at hv3
 obtain⟨pl,A,cap,hpl,hv,hn,hcap,hnil,hnn,_⟩:=hv3
 have hv:a2.tmps.getD 3 undef= .slice A (div1 l.length sz) cap:=by simpa using hv
 have hrun:=zhz (ρ:=a2.eval) ho4 (by simpa[Go.Act.eval]using hv) (by simp[Go.Act.eval]) hu w2
 unfold Oper.wp
 rw[hrun,Oper.upon_value,hd4]
 unfold wpList
 have hrb:∀b,A.isNone=b→Rel M2 ((st2 l).put (some 4) (.bool (some b) b)) B w (a2.put (some 4) (.bool A.isNone)) w2:=by
  intro b hb
  rw[hb]
  exact hr2.put (by simp[RelV,RelX]) (some 4)
 have fin:∀{c:Code} {b:Bool} {Q:Exit→Go.Act→World→Prop},A.isNone=b→q76 P (evFn P (qg4 (D (tysO [.row k sz]))) 1) (qof (qg4 _)) (fun _=>none) c ((st2 l).put (some 4) (.bool (some b) b)) (fun e st=>match e with
   | .ret=>(match z5o P st fn.results.toList with|some l=>endO [.row k sz] l st.heap|none=>none)|_=>none)=some r→
   (∀a' w',(a'.defers=[]∧∃v,(results fn a'.tmps).run P w' = .ok v w' ∧∃rs:Array Value,Ending.returned v= .returned (retV rs)∧Beneath B w w' ∧zv4 B w' [.row k sz] r rs.toList)→Q .ret a' w')→
   c.wp P Q (a2.put (some 4) (.bool A.isNone)) w2:=by
  intro c b Q hb hev hQ
  refine qgq hP (z95 hP e1 1) (zrm e1) c (fun _ _ _ h=>by cases h) _ _ hev M2 _ w2 _ (hrb b hb) fun e M3 st3 a3 w3 (_:ExtO true M2 M3) hk hr3=> ?_
  cases e<;>simp only[reduceCtorEq]at hk
  split at hk
  ·rename_i l3 hres
   obtain⟨rs,g1,g2⟩:=z93 hr3.tmps hr3.heap hres
   exact hQ _ _ ⟨hr3.defers,_,g2,rs,rfl,hr3.below,zmn hr3.heap hk g1⟩
  ·cases hk
 have ev4:(a2.put (some 4) (.bool A.isNone)).eval (.tmp 4)= .bool A.isNone:=by
  have h4:4<a2.tmps.size:=by rw[←hr2.tmps.1];exact hlen l
  simp[Go.Act.eval,Go.Act.put,h4]
 cases hA:A.isNone with
 |true=>
  rw[hA]at ev4 fin
  refine wp_cond_true ev4 (fin rfl ?_ fun a' w' h=>h)
  have hpn:pl.nil=true:=by
   cases hp:pl.nil with
   |true=>rfl
   |false=>exact absurd (Option.isNone_iff_eq_none.1 hA) (hnn hp).1
  have hl0:l=[]:=by
   obtain⟨p0,hp0,hok⟩:=hr2.heap.obj 1 ⟨.row k l,false,none⟩ (by rw[hs2];rfl)
   rw[hpl]at hp0
   cases hp0
   rcases hok with⟨_,hn0,hro⟩|⟨h,_⟩
   ·simp only[RelO]at hro
    have:=congrArg ya hro.1
    exact List.length_eq_zero_iff.1 (by simpa using this.symm)
   ·rw[hpn]at h;cases h
  subst hl0
  have:r=([],()):=by simpa[z9e,zpk]using hF.symm
  subst this
  exact hX []
 |false=>
  rw[hA]at ev4 fin
  refine wp_cond_false ev4 (wp_skip ?_)
  show Code.wp P REST _ _ _
  refine fin rfl ?_ fun a' w' h=>h
  rw[hR]
  exact hF
def cloneR0(c:Code):Code:=match c with| .seq a _=>a|_=> .skip
def cloneX(c:Code):Code:=match c with| .seq _ (.seq (.seq _ (.cond _ x _)) _)=>x|_=> .skip
def zvd(c:Code):Code:=match c with| .seq _ (.seq _ y)=>y|_=> .skip
def zrp(c:Code):List Oper:=match c with| .seq _ (.seq (.seq (.region _ ops _) _) _)=>ops.toList|_=>[]
def zve : Oper := ⟨none, .assign (.tmp 0), 0, "", #[], none⟩
def cloneO3(c:Code):Oper:=match zrp c with|[a,_]=>a|_=>zve
def cloneO4(c:Code):Oper:=match zrp c with|[_,b]=>b|_=>zve
theorem zvf{l:LI}(h:l.length≤1099511627776):z9e 1 l=some (l,()):=by
 simp[z9e,zpk,h]
def cloneS1(sz:Nat)(k:IntKind)(l:LI):St:=⟨[.sl 1 0 (div1 l.length sz) sz .whole,.undef,.nils,.undef,.undef,.undef,.undef,.undef],[none,some ⟨.row k l,false,none⟩]⟩
def zvg(sz:Nat)(k:IntKind)(l:LI):St:=⟨[.sl 1 0 (div1 l.length sz) sz .whole,.undef,.nils,.sl 1 0 (div1 l.length sz) sz .whole,.undef,.undef,.undef,.undef],[none,some ⟨.row k l,false,none⟩]⟩
end Go.AE
namespace Go.AE
open Go Go.RowKit
def zmt(P:Program)(k:IntKind)(u:TypeId):Bool:=match P.underlying u with
 |some (.int k')=>k' ==k
 |_=>false
def zpq(P:Program)(u:TypeId):Bool:=match P.underlying u with
 |some .bool=>true
 |_=>false
def z0q(P:Program):List CTy→List TypeId→Bool
 |[],[]=>true
 | .int k::r,u::us=>zmt P k u&&z0q P r us
 | .bool::r,u::us=>zpq P u&&z0q P r us
 | .is k n::r,us=>decide (n≤us.length)&&((us.take n).all (zmt P k)&&z0q P r (us.drop n))
 |_,_=>false
def wfC:(cs:List CTy)→DC cs→Prop
 |[],_=>True
 | .int k::r,d=>k.has d.1∧wfC r d.2
 | .bool::r,d=>wfC r d.2
 | .is k n::r,d=>(ya (α:=Int) d.1=n∧∀x∈(d.1:LI),k.has x)∧wfC r d.2
 |_::_,_=>False
theorem z9f{P:Program}{w:World}{r:Reach}{base:Nat}{k:IntKind}{u:TypeId}{v:Value}(ht:zmt P k u=true)(h:Cell.okWide P w r base u v):∃x,v= .int k x∧k.has x:=by
 unfold zmt at ht
 split at ht
 ·rename_i k' hu
  have hk:k' =k:=by simpa using ht
  subst hk
  unfold Cell.okWide at h
  rw[hu]at h
  unfold Cell.ok at h
  rw[hu]at h
  cases v<;>simp at h
  obtain⟨rfl,h⟩:=h
  exact⟨_,rfl,h⟩
 ·cases ht
theorem zmu{P:Program}{w:World}{r:Reach}{base:Nat}{u:TypeId}{v:Value}(ht:zpq P u=true)(h:Cell.okWide P w r base u v):∃x,v= .bool x:=by
 unfold zpq at ht
 split at ht
 ·rename_i hu
  unfold Cell.okWide at h
  rw[hu]at h
  unfold Cell.ok at h
  rw[hu]at h
  cases v<;>simp at h
  exact⟨_,rfl⟩
 ·cases ht
theorem zvh{P:Program}{w:World}{r:Reach}{base:Nat}{k:IntKind}:∀{us:List TypeId} {vs:List Value},us.all (zmt P k)=true→vs.length=us.length→(∀(i:Nat) v,vs[i]? =some v→∃u,us[i]? =some u∧Cell.okWide P w r base u v)→
  ∃l:LI,vs=l.map (.int k)∧l.length=us.length∧∀x∈l,k.has x
 |[],vs,_,hl,_=>⟨[],by simpa using hl,rfl,by simp⟩
 |u::us,[],_,hl,_=>by simp at hl
 |u::us,v::vs,ha,hl,h=>by
  simp only[List.all_cons,yl]at ha
  obtain⟨l,e,h1,h2⟩:=zvh (us:=us) (vs:=vs) ha.2 (by simpa using hl) fun i v hv=>by simpa using h (i+1) v (by simpa using hv)
  obtain⟨u',hu',hc⟩:=h 0 v rfl
  simp at hu'
  subst hu'
  obtain⟨x,rfl,hx⟩:=z9f ha.1 hc
  refine⟨x::l,by rw[e];rfl,by simp[h1],fun y hy=> ?_⟩
  rcases yr.1 hy with rfl|hy
  ·exact hx
  ·exact h2 y hy
theorem z80{P:Program}{w:World}{r:Reach}{base:Nat}:∀{cs:List CTy} {us:List TypeId} {vs:List Value},z0q P cs us=true→vs.length=us.length→(∀(i:Nat) v,vs[i]? =some v→∃u,us[i]? =some u∧Cell.okWide P w r base u v)→
  ∃d:DC cs,wfC cs d∧∀M,RelC M (mkCs cs d) vs
 |[],[],vs,_,hl,_=>⟨(),trivial,fun M=>RelC_nil.2 (by simpa using hl)⟩
 |[],_::_,vs,hc,_,_=>by simp[z0q]at hc
 | .int k::cs,[],vs,hc,_,_=>by simp[z0q]at hc
 | .bool::cs,[],vs,hc,_,_=>by simp[z0q]at hc
 | .int k::cs,u::us,[],_,hl,_=>by simp at hl
 | .bool::cs,u::us,[],_,hl,_=>by simp at hl
 | .int k::cs,u::us,v::vs,hc,hl,h=>by
  simp only[z0q,yl]at hc
  obtain⟨d,h1,h2⟩:=z80 (us:=us) (vs:=vs) hc.2 (by simpa using hl) fun i v hv=>by simpa using h (i+1) v (by simpa using hv)
  obtain⟨u',hu',hw⟩:=h 0 v rfl
  simp at hu'
  subst hu'
  obtain⟨x,rfl,hx⟩:=z9f hc.1 hw
  exact⟨(x,d),⟨hx,h1⟩,fun M=>RelC_cons.2 ⟨[.int k x],vs,rfl,RelX_int.2 ⟨rfl,hx,fun m hm=>by cases hm⟩,h2 M⟩⟩
 | .bool::cs,u::us,v::vs,hc,hl,h=>by
  simp only[z0q,yl]at hc
  obtain⟨d,h1,h2⟩:=z80 (us:=us) (vs:=vs) hc.2 (by simpa using hl) fun i v hv=>by simpa using h (i+1) v (by simpa using hv)
  obtain⟨u',hu',hw⟩:=h 0 v rfl
  simp at hu'
  subst hu'
  obtain⟨x,rfl⟩:=zmu hc.1 hw
  exact⟨(x,d),h1,fun M=>RelC_cons.2 ⟨[.bool x],vs,rfl,by simp[mk1,RelX],h2 M⟩⟩
 | .str::cs,us,vs,hc,_,_=>by simp[z0q]at hc
 | .fsl _ _::cs,us,vs,hc,_,_=>by simp[z0q]at hc
 | .dsl _::cs,us,vs,hc,_,_=>by simp[z0q]at hc
 | .is k n::cs,us,vs,hc,hl,h=>by
  simp only[z0q,yl,decide_eq_true_eq]at hc
  obtain⟨hn,ha,hc⟩:=hc
  obtain⟨d,h1,h2⟩:=z80 (us:=us.drop n) (vs:=vs.drop n) hc (by simp[hl]) fun i v hv=>by
   rw[List.getElem?_drop]at hv⊢
   exact h (n+i) v hv
  obtain⟨l,e,g1,g2⟩:=zvh (us:=us.take n) (vs:=vs.take n) (w:=w) (r:=r) (base:=base) ha (by simp[hl]) fun i v hv=>by
   rw[List.getElem?_take]at hv⊢
   split at hv
   ·rename_i hi
    rw[iP hi]
    exact h i v hv
   ·cases hv
  have hln:l.length=n:=by simp at g1;omega
  exact⟨(l,d),⟨⟨hln,g2⟩,h1⟩,fun M=>RelC_cons.2 ⟨vs.take n,vs.drop n,by simp,RelX_is.2 ⟨hln,e,g2⟩,h2 M⟩⟩
theorem agg_of{P:Program}{w:World}{r:Reach}{base:Nat}{t:TypeId}{v:Value}{cs:List CTy}{us:List TypeId}(hu:(match P.underlying t with|some (.struct _)|some (.array _ _)=>true|_=>false)=true)
  (ht:P.cellTypes P.depth t=some us) (hn:P.cellsOf t=us.length) (hc:z0q P cs us=true) (h:Value.okWide P w r base t v):∃d:DC cs,wfC cs d∧∀M,RelV M (.agg (mkCs cs d)) v:=by
 have h' :∃xs:Array Value,v= .agg xs∧xs.size=P.cellsOf t∧Row.okWide P w r base t xs:=by
  unfold Value.okWide at h
  split at hu
  ·rename_i hq;rw[hq]at h;exact h
  ·rename_i hq;rw[hq]at h;exact h
  ·cases hu
 obtain⟨xs,rfl,hsz,ts,hts,_,hrow⟩:=h'
 rw[ht]at hts
 cases hts
 obtain⟨d,h1,h2⟩:=z80 (vs:=xs.toList) (w:=w) (r:=r) (base:=base) hc (by simp;omega) fun i v hv=>by
  have hi:i<us.length:=by
   have:=(List.getElem?_eq_some_iff.1 hv).1
   simp at this
   omega
  obtain⟨u,hu',hw⟩:=hrow i v (by simpa using hv)
  rw[Nat.mod_eq_of_lt hi]at hu'
  exact⟨u,hu',hw⟩
 exact⟨d,h1,fun M=>RelX_agg.2 ⟨xs,rfl,h2 M⟩⟩
end Go.AE
namespace Go.AE
open Go Go.RowKit
open Go.MapKept (Stamped stamped_push stamped_empty stamped_iff)
open Go.ChangeMaps (setBlock)
def MapAt(w:World)(b:Nat)(T:List (Value×Value)):Prop:=
 ∃es clock,w.heap[b]? =some (.map es clock)∧Stamped es clock∧(es.toList.map fun e=>(e.key,e.val)).Perm T
theorem MapAt.made(w:World):MapAt (w.alloc (.map #[] 0)) w.heap.size []:=
 ⟨#[],0,(MapKept.heap_alloc w _).1,stamped_empty 0,.nil⟩
theorem zi0{w:World}{b:Nat}{o o' :Obj}(h:w.heap[b]? =some o):(setBlock w b o').heap[b]? =some o' :=by
 have:=(Array.getElem?_eq_some_iff.1 h).1
 simp[setBlock,this]
theorem zdm{w:World}{b i:Nat}{o' :Obj}(h:i≠b):(setBlock w b o').heap[i]? =w.heap[i]? :=by
 simp[setBlock,Array.getElem?_setIfInBounds_ne (Ne.symm h)]
theorem MapAt.ins{P:Program}{k t e:TypeId}(K:Maps.Keyed P k)(ht:P.underlying t=some (.map k e)){w:World}{b:Nat}{T:List (Value×Value)}(h:MapAt w b T)(hT:∀p∈T,∃l,keyOf P k p.1=some l){key val:Value}
  (hkey:∃l,keyOf P k key=some l) (hne:∀p∈T,p.1≠key):∃w',(Instr.mapUpdate t (.map (some b)) key val).run P w= .ok () w' ∧MapAt w' b ((key,val)::T)∧w.grownBy w' (some b):=by
 obtain⟨es,clock,hb,hst,hp⟩:=h
 obtain⟨kl,hkey⟩:=hkey
 have mem:∀x∈es.toList,(x.key,x.val)∈T:=fun x hx=>hp.mem_iff.1 (List.mem_map.2 ⟨x,hx,rfl⟩)
 have hn:∀x∈es.toList,x.key≠key:=fun x hx=>hne _ (mem x hx)
 rcases K.find w hkey es.toList (fun x hx=>hT _ (mem x hx))with⟨h1,_⟩|⟨j,e0,_,h2,h3⟩
 ·refine⟨setBlock w b (.map (es.push ⟨key,val,clock⟩) (clock+1)),?_,⟨_,_,zi0 hb,stamped_push hst hn,?_⟩,⟨rfl,rfl,rfl,by simp[setBlock],fun i _ hi=>zdm fun e=>hi (by rw[e])⟩⟩
  ·simp[Instr.mapUpdate,run_underlying ht,MapKept.run_getObj_map hb,K.check w false hkey,h1,MapKept.run_setObj_map _ hb,Result.andThen,setBlock]
  ·rw[Array.toList_push,List.map_append,List.map_singleton]
   exact(List.perm_append_singleton _ _).trans (hp.cons _)
 ·exact absurd h3 (hn e0 (List.mem_of_getElem? h2))
theorem MapAt.kept{w w' :World}{n b:Nat}{T:List (Value×Value)}(h:MapAt w b T)(hb:Below n w w')(hn:b<n):MapAt w' b T:=by
 obtain⟨es,clock,h1,h2,h3⟩:=h
 exact⟨es,clock,(hb.block b hn).trans h1,h2,h3⟩
theorem Below.alloc(w:World)(o:Obj){n:Nat}(hn:n≤w.heap.size):Below n w (w.alloc o):=
 ⟨rfl,rfl,rfl,by simp,fun k hk=>(MapKept.heap_alloc w o).2 k (Nat.lt_of_lt_of_le hk hn)⟩
def rest:Nat→Code→Code
 |0,c=>c
 |n+1,.seq _ y=>rest n y
 |_+1,c=>c
theorem Below.weak{n m:Nat}{w w' :World}(h:Below n w w')(hm:m≤n):Below m w w' :=⟨h.os,h.tape,h.output,h.size,fun k hk=>h.block k (Nat.lt_of_lt_of_le hk hm)⟩
end Go.AE
namespace Go.AE
open Go Go.RowKit
open Go.ChangeMaps (setBlock)
structure FLoop (n dr b r:Nat) (x y:Int) (w0:World) (k:Nat) (a:Go.Act) (w:World):Prop where
 size:a.tmps.size=n
 defers:a.defers=[]
 s0:RelV M0 (.int .i64 none x) (a.tmps.getD 0 undef)
 s1:RelV M0 (.int .i64 none y) (a.tmps.getD 1 undef)
 sr:a.tmps.getD dr undef= .pointer (some ⟨r,0,none⟩)
 mem:∃es clock seen,w.heap[b]? =some (.map es clock)∧MapKept.Stamped es clock∧(es.toList.map fun e=>(e.key,e.val)).Perm (mapT 0)∧w.heap[r]? =some (.mapIter (some b) clock seen clock)∧(leftOf es seen).size=k∧
  ∀e∈es.toList,seen.contains e.born=true→∀q∈codesT,(e.key,e.val)=(.agg #[.int .i64 q.1,.int .i64 q.2.1],.int .i64 q.2.2)→¬(q.2.1=y∧q.2.2=x)
 below:Below w0.heap.size w0 w
 hb:w0.heap.size≤b
 hr:w0.heap.size≤r
 ne:r≠b
def seqB:Code→Code
 | .seq _ y=>y
 |_=> .skip
end Go.AE
namespace Go.AE.Gn
open Go Go.AE
def z9g(F:Nat)(a0:LI)(a1:Int)(a2:Int):Option (Bool×Unit):=
 let v2:Int:=(y0 .i64 (8*(((ya a0):Nat):Int)))
 cond (decide (a1≤v2))
  (let v4:Int:=(y0 .i64 (v2-a1))
  some ((decide (a2≤v4)),()))
  (some (false,()))
def qnn(F:Nat)(a0:LI)(a1:Int)(a2:Int):Option (Int×Unit):=
 cond (decide (a1<0))
  (some (1,()))
  (cond (decide (a2<0))
   (some (1,()))
   (cond (decide (64<a2))
    (some (1,()))
    ((z9g F a0 a1 a2).bind fun r10=>
    cond (!r10.1)
     (some (2,()))
     (some (0,())))))
def z0r:LI:=[0,0,0,0,0,0,0,0]
def qt8(F:Nat)(rec:Int→LI→LI→Int→Option (LI×LI×Unit))(x0:Int)(x1:LI)(x2:LI)(x3:Int):Option (LI×LI×Unit):=
 cond (decide (x3<8))
  (cond (decide (0≤x3))
   (cond ((decide (0≤x3))&&(decide (x3<8)))
    (rec x0 x1 (yy x2 (y6 x3) (iand .u8 (ishr .u8 x0 x3) 1)) (y0 .i64 (x3+1)))
     none)
    none)
  (some (x1,x2,()))
def qg5(F:Nat):Nat→Int→LI→LI→Int→Option (LI×LI×Unit)
 |0,_,_,_,_=>none
 |k+1,x0,x1,x2,x3=>qt8 F (qg5 F k) x0 x1 x2 x3
def qpb(F:Nat)(a0:Int):Option (LI×Unit):=
 (qg5 F F a0 z0r z0r 0).bind fun r31=>
 let l32:LI:=(if((0=0)∧(8=8))then r31.2.1 else(y8 8 (y9 0 r31.2.1)))
 let l33:LI:=(if((0=0)∧(8=8))then l32 else(((y8 0 r31.1)++l32)++(y9 8 r31.1)))
 some ((if((0=0)∧(8=8))then l33 else(y8 8 (y9 0 l33))),())
def z0s(F:Nat)(a0:LI)(a1:Int):Option (Int×Unit):=
 let v73:Int:=(y0 .i64 (yx a1 8))
 cond ((decide (0≤v73))&&(decide (v73<(((ya a0):Nat):Int))))
  ((qpb F (y7 a0 (y6 v73) 0)).bind fun r77=>
  let v79:Int:=(y0 .i64 (7-(yw a1 8)))
  cond ((decide (0≤v79))&&(decide (v79<8)))
   (some ((y7 r77.1 (y6 v79) 0),()))
    none)
   none
def qil(F:Nat)(rec:LI→Int→Int→Int→Int→Int→Option ((Int×Unit)⊕(Int×Int×Unit)))(x0:LI)(x1:Int)(x2:Int)(x3:Int)(x4:Int)(x5:Int):Option ((Int×Unit)⊕(Int×Int×Unit)):=
 cond (decide (x5<x4))
  (cond (x2 !=0)
   (some (.inl (x2,())))
   ((z0s F x0 (y0 .i64 (x1+x5))).bind fun r103=>
   rec x0 x1 x2 (ior .u64 (ishl .u64 x3 1) r103.1) x4 (y0 .i64 (x5+1))))
  (some (.inr (x2,x3,())))
def q9p(F:Nat):Nat→LI→Int→Int→Int→Int→Int→Option ((Int×Unit)⊕(Int×Int×Unit))
 |0,_,_,_,_,_,_=>none
 |k+1,x0,x1,x2,x3,x4,x5=>qil F (q9p F k) x0 x1 x2 x3 x4 x5
def qdg(F:Nat)(a0:LI)(a1:Int)(a2:Int):Option (Int×Int×Unit):=
 (qnn F a0 a1 a2).bind fun r83=>
 (q9p F F a0 a1 r83.1 0 a2 0).bind fun r106=>match r106 with
  | .inl r106=>(some (0,r106.1,()))
  | .inr r106=>(some (r106.2.1,r106.1,()))
def z0t(F:Nat)(a0:LI)(a1:Int)(a2:Int)(a3:Int):Option (Int×Unit):=
 (qnn F a0 a1 a2).bind fun r108=>
 cond (r108.1 !=0)
  (some (r108.1,()))
  (cond (decide (a2<64))
   (cond (decide (0≤a2))
    (cond ((ishr .u64 a3 a2) !=0)
     (some (10,()))
     (some (0,())))
     none)
   (some (0,())))
def q9a(F:Nat)(a0:LI):Option (LI×Unit):=z9e 1 a0
def z81(F:Nat)(a0:Int)(a1:Int)(a2:Int):Option (Int×Unit):=
 let b114:Bool:=(decide (0≤a1))
 cond b114
  (cond b114
   (some ((ior .u8 (z0b .u8 a0 (ishl .u8 1 a1)) (ishl .u8 (y0 .u8 (iand .u64 a2 1)) a1)),()))
    none)
   none
def qhl(F:Nat)(rec:Int→Int→Int→LI→Int→Int→Option (LI×Unit))(x0:Int)(x1:Int)(x2:Int)(x3:LI)(x4:Int)(x5:Int):Option (LI×Unit):=
 cond (decide (x5<x4))
  (let v160:Int:=(y0 .i64 ((y0 .i64 ((y0 .i64 (x0+x1))-1))-x5))
  let v161:Int:=(y0 .i64 (yx v160 8))
  let b162:Bool:=((decide (0≤v161))&&(decide (v161<(((ya x3):Nat):Int))))
  cond b162
   (cond (decide (0≤x5))
    ((z81 F (y7 x3 (y6 v161) 0) (y0 .i64 (7-(yw v160 8))) (ishr .u64 x2 x5)).bind fun r169=>
    cond b162
     (rec x0 x1 x2 (yy x3 (y6 v161) r169.1) x4 (y0 .i64 (x5+1)))
      none)
     none)
    none)
  (some (x3,()))
def q77(F:Nat):Nat→Int→Int→Int→LI→Int→Int→Option (LI×Unit)
 |0,_,_,_,_,_,_=>none
 |k+1,x0,x1,x2,x3,x4,x5=>qhl F (q77 F k) x0 x1 x2 x3 x4 x5
def q2r(F:Nat)(a0:LI)(a1:Int)(a2:Int)(a3:Int):Option (LI×Int×Unit):=
 (z0t F a0 a1 a2 a3).bind fun r122=>
 cond (r122.1 !=0)
  (some ([],r122.1,()))
  ((q9a F a0).bind fun r124=>
  (q77 F F a1 a2 a3 r124.1 a2 0).bind fun r172=>
  some (r172.1,0,()))
def qwe(F:Nat)(a0:LI)(a1:Int)(a2:Int):Option (Bool×Unit):=
 let v296:Int:=(y0 .i64 (8*(((ya a0):Nat):Int)))
 cond (decide (a1≤v296))
  (let v298:Int:=(y0 .i64 (v296-a1))
  some ((decide (a2≤v298)),()))
  (some (false,()))
def qpc(F:Nat)(rec:Int→Int→Int→Option (Int×Unit))(x0:Int)(x1:Int)(x2:Int):Option (Int×Unit):=
 cond (decide (x2<x0))
  (rec x0 (y0 .i64 (yx x1 2)) (y0 .i64 (x2+1)))
  (some (x1,()))
def q9q(F:Nat):Nat→Int→Int→Int→Option (Int×Unit)
 |0,_,_,_=>none
 |k+1,x0,x1,x2=>qpc F (q9q F k) x0 x1 x2
def qdh(F:Nat)(a0:LI)(a1:Int)(a2:Bool):Option (Int×Unit):=
 let v301:Int:=(yw a1 8)
 cond a2
  (let v303:Int:=(y0 .i64 (yx a1 8))
  cond ((decide (0≤v303))&&(decide (v303<(((ya a0):Nat):Int))))
   ((q9q F F (y0 .i64 (7-v301)) (y7 a0 (y6 v303) 0) 0).bind fun r315=>
   some ((yw r315.1 2),()))
    none)
  (let v317:Int:=(y0 .i64 (yx a1 8))
  cond ((decide (0≤v317))&&(decide (v317<(((ya a0):Nat):Int))))
   ((q9q F F v301 (y7 a0 (y6 v317) 0) 0).bind fun r324=>
   some ((yw r324.1 2),()))
    none)
def qpd(F:Nat)(rec:LI→Int→Int→Bool→Int→Int→Option (Int×Unit))(x0:LI)(x1:Int)(x2:Int)(x3:Bool)(x4:Int)(x5:Int):Option (Int×Unit):=
 cond (decide (x5<x2))
  (cond x3
   ((qdh F x0 (y0 .i64 (x1+x5)) x3).bind fun r367=>
   rec x0 x1 x2 x3 (y0 .u64 ((y0 .u64 (2*x4))+(y0 .u64 r367.1))) (y0 .i64 (x5+1)))
   ((qdh F x0 (y0 .i64 ((y0 .i64 ((y0 .i64 (x1+x2))-1))-x5)) x3).bind fun r372=>
   rec x0 x1 x2 x3 (y0 .u64 ((y0 .u64 (2*x4))+(y0 .u64 r372.1))) (y0 .i64 (x5+1))))
  (some (x4,()))
def q9r(F:Nat):Nat→LI→Int→Int→Bool→Int→Int→Option (Int×Unit)
 |0,_,_,_,_,_,_=>none
 |k+1,x0,x1,x2,x3,x4,x5=>qpd F (q9r F k) x0 x1 x2 x3 x4 x5
def qno(F:Nat)(a0:LI)(a1:Int)(a2:Int)(a3:Bool):Option (Int×Int×Unit):=
 cond (decide (a1<0))
  (some (0,1,()))
  (cond (decide (a2<0))
   (some (0,1,()))
   (cond (decide (64<a2))
    (some (0,1,()))
    ((qwe F a0 a1 a2).bind fun r330=>
    cond (!r330.1)
     (some (0,2,()))
     ((q9r F F a0 a1 a2 a3 0 0).bind fun r376=>
     some (r376.1,0,())))))
def qjx(F:Nat)(rec:Int→Int→Int→Option (Int×Unit))(x0:Int)(x1:Int)(x2:Int):Option (Int×Unit):=
 cond (decide (x2<x0))
  (rec x0 (y0 .u64 (2*x1)) (y0 .i64 (x2+1)))
  (some (x1,()))
def q8n(F:Nat):Nat→Int→Int→Int→Option (Int×Unit)
 |0,_,_,_=>none
 |k+1,x0,x1,x2=>qjx F (q8n F k) x0 x1 x2
def q9s(F:Nat)(a0:Int):Option (Int×Unit):=
 (q8n F F a0 1 0).bind fun r384=>
 some (r384.1,())
def qpe(F:Nat)(rec:Int→Int→Bool→Int→LI→Int→Option (LI×Unit))(x0:Int)(x1:Int)(x2:Bool)(x3:Int)(x4:LI)(x5:Int):Option (LI×Unit):=
 cond (decide (x5<x1))
  (let v540:Int:=(y0 .i64 (x0+x5))
  cond x2
   (let v543:Int:=(y0 .i64 ((y0 .i64 ((y0 .i64 (x0+x1))-1))-x5))
   let v544:Int:=(yw v543 8)
   cond x2
    ((qdh F x4 v543 x2).bind fun r549=>
    let v550:Int:=(y0 .i64 (yx v543 8))
    let b551:Bool:=((decide (0≤v550))&&(decide (v550<(((ya x4):Nat):Int))))
    cond b551
     ((q9s F (y0 .i64 (7-v544))).bind fun r555=>
     cond b551
      (rec x0 x1 x2 (y0 .u64 (yx x3 2)) (yy x4 (y6 v550) (y0 .u8 (y0 .i64 ((y7 x4 (y6 v550) 0)+(y0 .i64 ((y0 .i64 ((y0 .i64 (yw x3 2))-r549.1))*(y0 .i64 r555.1))))))) (y0 .i64 (x5+1)))
       none)
      none)
    ((qdh F x4 v543 x2).bind fun r565=>
    let v566:Int:=(y0 .i64 (yx v543 8))
    let b567:Bool:=((decide (0≤v566))&&(decide (v566<(((ya x4):Nat):Int))))
    cond b567
     ((q9s F v544).bind fun r571=>
     cond b567
      (rec x0 x1 x2 (y0 .u64 (yx x3 2)) (yy x4 (y6 v566) (y0 .u8 (y0 .i64 ((y7 x4 (y6 v566) 0)+(y0 .i64 ((y0 .i64 ((y0 .i64 (yw x3 2))-r565.1))*(y0 .i64 r571.1))))))) (y0 .i64 (x5+1)))
       none)
      none))
   (let v578:Int:=(yw v540 8)
   cond x2
    ((qdh F x4 v540 x2).bind fun r583=>
    let v584:Int:=(y0 .i64 (yx v540 8))
    let b585:Bool:=((decide (0≤v584))&&(decide (v584<(((ya x4):Nat):Int))))
    cond b585
     ((q9s F (y0 .i64 (7-v578))).bind fun r589=>
     cond b585
      (rec x0 x1 x2 (y0 .u64 (yx x3 2)) (yy x4 (y6 v584) (y0 .u8 (y0 .i64 ((y7 x4 (y6 v584) 0)+(y0 .i64 ((y0 .i64 ((y0 .i64 (yw x3 2))-r583.1))*(y0 .i64 r589.1))))))) (y0 .i64 (x5+1)))
       none)
      none)
    ((qdh F x4 v540 x2).bind fun r599=>
    let v600:Int:=(y0 .i64 (yx v540 8))
    let b601:Bool:=((decide (0≤v600))&&(decide (v600<(((ya x4):Nat):Int))))
    cond b601
     ((q9s F v578).bind fun r605=>
     cond b601
      (rec x0 x1 x2 (y0 .u64 (yx x3 2)) (yy x4 (y6 v600) (y0 .u8 (y0 .i64 ((y7 x4 (y6 v600) 0)+(y0 .i64 ((y0 .i64 ((y0 .i64 (yw x3 2))-r599.1))*(y0 .i64 r605.1))))))) (y0 .i64 (x5+1)))
       none)
      none)))
  (some (x4,()))
def q9t(F:Nat):Nat→Int→Int→Bool→Int→LI→Int→Option (LI×Unit)
 |0,_,_,_,_,_,_=>none
 |k+1,x0,x1,x2,x3,x4,x5=>qpe F (q9t F k) x0 x1 x2 x3 x4 x5
def qbg(F:Nat)(a0:LI)(a1:Int)(a2:Int)(a3:Bool)(a4:Int):Option (LI×Int×Unit):=
 (qno F a0 a1 a2 a3).bind fun r386=>
 cond (r386.2.1 !=0)
  (some ([],r386.2.1,()))
  (let b388:Bool:=(decide (a2<64))
  cond b388
   ((q9s F a2).bind fun r389=>
   let b390:Bool:=(decide (r389.1≤a4))
   cond b390
    (some ([],10,()))
    (cond ((decide ((0+(ya a0))≤1099511627776))&&(if(false=true)then(decide (0<(ya a0)))else true))
     ((q9t F F a1 a2 a3 a4 ([]++a0) 0).bind fun r612=>
     some (r612.1,0,()))
      none))
   (cond ((decide ((0+(ya a0))≤1099511627776))&&(if(false=true)then(decide (0<(ya a0)))else true))
    ((q9t F F a1 a2 a3 a4 ([]++a0) 0).bind fun r691=>
    some (r691.1,0,()))
     none))
def qmi(F:Nat)(rec:LI→LI→Int→Option (Unit⊕Unit))(x0:LI)(x1:LI)(x2:Int):Option (Unit⊕Unit):=
 let v720:Int:=(((ya x0):Nat):Int)
 cond (decide (x2<v720))
  (cond ((decide (0≤x2))&&(decide (x2<(((ya x0):Nat):Int))))
   (cond ((decide (0≤x2))&&(decide (x2<(((ya x1):Nat):Int))))
    (cond ((y7 x0 (y6 x2) 0) !=(y7 x1 (y6 x2) 0))
     (some (.inl ()))
     (rec x0 x1 (y0 .i64 (x2+1))))
     none)
    none)
  (some (.inr ()))
def qah(F:Nat):Nat→LI→LI→Int→Option (Unit⊕Unit)
 |0,_,_,_=>none
 |k+1,x0,x1,x2=>qmi F (qah F k) x0 x1 x2
def qwf(F:Nat)(a0:LI)(a1:LI):Option (Bool×Unit):=
 cond ((((ya a0):Nat):Int) !=(((ya a1):Nat):Int))
  (some (false,()))
  ((qah F F a0 a1 0).bind fun r729=>match r729 with
   | .inl r729=>(some (false,()))
   | .inr r729=>(some (true,())))
def q67:LI:=[0,0,0,0,0,0,0,0]
def q22:LI:=[0,0,0,0,0,0,0,0,0,0,0,0,0,0,0,0]
def zmv(F:Nat)(a0:Int)(a1:Int)(a2:Int)(a3:Int)(a4:Int):Option (Int×Unit):=
 cond (decide (a3<1))
  (some (0,()))
  (let v396:Int:=(y0 .i64 ((y0 .i64 ((y0 .i64 (a0*(y0 .i64 (a3-a2))))+(y0 .i64 (a1*a2))))+a4))
  let b397:Bool:=(!(a3==0))
  cond b397
   (let v398:Int:=(y0 .i64 (yx v396 a3))
   cond b397
    (cond (decide ((yw v396 a3)<0))
     (some ((y0 .i64 (v398-1)),()))
     (some (v398,())))
     none)
    none)
def qt9(F:Nat)(a0:Int):Option (Bool×Unit):=
 cond (decide (a0<1))
  (some (true,()))
  (some ((decide (8<a0)),()))
def qxg(F:Nat)(rec:Int→Int→Int→Int→Option (Int×Int×Unit))(x0:Int)(x1:Int)(x2:Int)(x3:Int):Option (Int×Int×Unit):=
 cond (decide (x3<8))
  (cond (decide (0≤x1))
   (rec x0 x1 (ior .i64 (ishl .i64 x2 x1) x0) (y0 .i64 (x3+x1)))
    none)
  (some (x2,x3,()))
def qim(F:Nat):Nat→Int→Int→Int→Int→Option (Int×Int×Unit)
 |0,_,_,_,_=>none
 |k+1,x0,x1,x2,x3=>qxg F (qim F k) x0 x1 x2 x3
def q10(F:Nat)(a0:Int)(a1:Int):Option (Int×Unit):=
 (qt9 F a1).bind fun r514=>
 cond r514.1
  (some (0,()))
  (cond (decide (0≤a1))
   ((qim F F (iand .i64 a0 (y0 .i64 ((ishl .i64 1 a1)-1))) a1 0 0).bind fun r533=>
   let v534:Int:=(y0 .i64 (r533.2.1-8))
   cond (decide (0≤v534))
    (some ((ishr .i64 r533.1 v534),()))
     none)
    none)
def qpf(F:Nat)(a0:LI)(a1:Int)(a2:Int):Option (Int×Unit):=
 (qno F a0 a1 a2 false).bind fun r687=>
 some ((y0 .i64 r687.1),())
def q78(F:Nat)(rec:LI→LI→LI→Int→Option (LI×LI×LI×Unit))(x0:LI)(x1:LI)(x2:LI)(x3:Int):Option (LI×LI×LI×Unit):=
 cond (decide (x3<16))
  ((qpf F x0 (y0 .i64 (16+(y0 .i64 (3*x3)))) 3).bind fun r704=>
  cond ((decide (0≤x3))&&(decide (x3<16)))
   (rec x0 x1 (yy x2 (y6 x3) r704.1) (y0 .i64 (x3+1)))
    none)
  (some (x0,x1,x2,()))
def q50(F:Nat):Nat→LI→LI→LI→Int→Option (LI×LI×LI×Unit)
 |0,_,_,_,_=>none
 |k+1,x0,x1,x2,x3=>q78 F (q50 F k) x0 x1 x2 x3
def qpg(F:Nat)(a0:LI):Option (Int×Int×LI×Int×Unit):=
 cond ((((ya a0):Nat):Int) !=8)
  (some (0,0,q22,1,()))
  ((q50 F F a0 q22 q22 0).bind fun r709=>
  let n710:Nat:=(ya r709.1)
  cond (decide (0<((n710:Nat):Int)))
   (cond (decide (1<((n710:Nat):Int)))
    (let l715:LI:=(if((0=0)∧(16=16))then r709.2.2.1 else(y8 16 (y9 0 r709.2.2.1)))
    let l716:LI:=(if((0=0)∧(16=16))then l715 else(((y8 0 r709.2.1)++l715)++(y9 16 r709.2.1)))
    some ((y7 r709.1 0 0),(y7 r709.1 1 0),(if((0=0)∧(16=16))then l716 else(y8 16 (y9 0 l716))),0,()))
     none)
    none)
def qjy(F:Nat)(a0:Int)(a1:Int):Option (Int×Unit):=
 cond (!(a1==0))
  (cond (decide ((yw a0 a1)<0))
   (some ((y0 .i64 ((yw a0 a1)+a1)),()))
   (some ((yw a0 a1),())))
   none
def qnp(F:Nat)(a0:Int)(a1:Int)(a2:Int)(a3:Int)(a4:Int):Option (Int×Unit):=
 cond (decide (a3<1))
  (some (0,()))
  (let v735:Int:=(y0 .i64 ((y0 .i64 ((y0 .i64 (a0*(y0 .i64 (a3-a2))))+(y0 .i64 (a1*a2))))+a4))
  (qjy F v735 a3).bind fun r740=>
  cond (!(a3==0))
   (some ((y0 .i64 (yx (y0 .i64 (v735-r740.1)) a3)),()))
    none)
def qmj(F:Nat)(rec:Int→Int→LI→LI→Int→Option (LI×LI×Unit))(x0:Int)(x1:Int)(x2:LI)(x3:LI)(x4:Int):Option (LI×LI×Unit):=
 cond (decide (x4≤6))
  (let v753:Int:=(y0 .i64 (x4+1))
  (qnp F x0 x1 x4 7 0).bind fun r754=>
  cond ((decide (0≤v753))&&(decide (v753<8)))
   (rec x0 x1 x2 (yy x3 (y6 v753) r754.1) v753)
    none)
  (some (x2,x3,()))
def qai(F:Nat):Nat→Int→Int→LI→LI→Int→Option (LI×LI×Unit)
 |0,_,_,_,_,_=>none
 |k+1,x0,x1,x2,x3,x4=>qmj F (qai F k) x0 x1 x2 x3 x4
def qmk(F:Nat)(rec:Int→Int→LI→LI→Int→Option (LI×LI×Unit))(x0:Int)(x1:Int)(x2:LI)(x3:LI)(x4:Int):Option (LI×LI×Unit):=
 cond (decide (x4≤4))
  (let v771:Int:=(y0 .i64 (x4+1))
  (qnp F x0 x1 x4 5 0).bind fun r772=>
  cond ((decide (0≤v771))&&(decide (v771<8)))
   (rec x0 x1 x2 (yy x3 (y6 v771) r772.1) v771)
    none)
  (some (x2,x3,()))
def qaj(F:Nat):Nat→Int→Int→LI→LI→Int→Option (LI×LI×Unit)
 |0,_,_,_,_,_=>none
 |k+1,x0,x1,x2,x3,x4=>qmk F (qaj F k) x0 x1 x2 x3 x4
def qwg(F:Nat)(a0:Int)(a1:Int):Option (LI×Unit):=
 cond (decide (a1<a0))
  ((qai F F a0 a1 q67 [a0,a1,0,0,0,0,0,0] 1).bind fun r758=>
  let l759:LI:=(if((0=0)∧(8=8))then r758.2.1 else(y8 8 (y9 0 r758.2.1)))
  let l760:LI:=(if((0=0)∧(8=8))then l759 else(((y8 0 r758.1)++l759)++(y9 8 r758.1)))
  some ((if((0=0)∧(8=8))then l760 else(y8 8 (y9 0 l760))),()))
  ((qaj F F a0 a1 q67 [a0,a1,0,0,0,0,0,0] 1).bind fun r776=>
  let l777:LI:=(yy r776.2.1 7 255)
  let l778:LI:=(if((0=0)∧(8=8))then l777 else(y8 8 (y9 0 l777)))
  let l779:LI:=(if((0=0)∧(8=8))then l778 else(((y8 0 r776.1)++l778)++(y9 8 r776.1)))
  some ((if((0=0)∧(8=8))then l779 else(y8 8 (y9 0 l779))),()))
def q68(F:Nat)(rec:LI→LI→LI→Int→Option (LI×LI×Unit))(x0:LI)(x1:LI)(x2:LI)(x3:Int):Option (LI×LI×Unit):=
 cond (decide (x3<16))
  (let b798:Bool:=((decide (0≤x3))&&(decide (x3<16)))
  cond b798
   (let v800:Int:=(y7 x1 (y6 x3) 0)
   cond ((decide (0≤v800))&&(decide (v800<8)))
    (cond b798
     (rec x0 (yy x1 (y6 x3) (y7 x2 (y6 v800) 0)) x2 (y0 .i64 (x3+1)))
      none)
     none)
    none)
  (some (x0,x1,()))
def q3y(F:Nat):Nat→LI→LI→LI→Int→Option (LI×LI×Unit)
 |0,_,_,_,_=>none
 |k+1,x0,x1,x2,x3=>q68 F (q3y F k) x0 x1 x2 x3
def qgr(F:Nat)(a0:LI):Option (LI×Int×Unit):=
 (qpg F a0).bind fun r723=>
 let l724:LI:=(if((0=0)∧(16=16))then r723.2.2.1 else(((y8 0 q22)++r723.2.2.1)++(y9 16 q22)))
 cond (r723.2.2.2.1 !=0)
  (let l726:LI:=(if((0=0)∧(16=16))then l724 else(y8 16 (y9 0 l724)))
  let l727:LI:=(if((0=0)∧(16=16))then l726 else(((y8 0 q22)++l726)++(y9 16 q22)))
  some ((if((0=0)∧(16=16))then l727 else(y8 16 (y9 0 l727))),r723.2.2.2.1,()))
  ((qwg F r723.1 r723.2.1).bind fun r781=>
  (q3y F F q22 l724 (if((0=0)∧(8=8))then r781.1 else(((y8 0 q67)++r781.1)++(y9 8 q67))) 0).bind fun r806=>
  let l807:LI:=(if((0=0)∧(16=16))then r806.2.1 else(y8 16 (y9 0 r806.2.1)))
  let l808:LI:=(if((0=0)∧(16=16))then l807 else(((y8 0 r806.1)++l807)++(y9 16 r806.1)))
  some ((if((0=0)∧(16=16))then l808 else(y8 16 (y9 0 l808))),0,()))
def qta(F:Nat)(rec:Int→Int→Int→Option (Int×Unit))(x0:Int)(x1:Int)(x2:Int):Option (Int×Unit):=
 cond (decide (x2<x0))
  (rec x0 (y0 .i64 (2*x1)) (y0 .i64 (x2+1)))
  (some (x1,()))
def qg6(F:Nat):Nat→Int→Int→Int→Option (Int×Unit)
 |0,_,_,_=>none
 |k+1,x0,x1,x2=>qta F (qg6 F k) x0 x1 x2
def qfk(F:Nat)(a0:Int):Option (Int×Unit):=
 (qg6 F F a0 1 0).bind fun r828=>
 some (r828.1,())
def qxh(F:Nat)(rec:Int→Int→Int→Int→Option (Int×Unit))(x0:Int)(x1:Int)(x2:Int)(x3:Int):Option (Int×Unit):=
 cond (decide (x3<8))
  (cond (!(x1==0))
   ((qfk F (y0 .i64 ((y0 .i64 (x1-1))-(yw x3 x1)))).bind fun r858=>
   cond (!(r858.1==0))
    (rec x0 x1 (y0 .i64 ((y0 .i64 (2*x2))+(yw (y0 .i64 (yx x0 r858.1)) 2))) (y0 .i64 (x3+1)))
     none)
    none)
  (some (x2,()))
def qin(F:Nat):Nat→Int→Int→Int→Int→Option (Int×Unit)
 |0,_,_,_,_=>none
 |k+1,x0,x1,x2,x3=>qxh F (qin F k) x0 x1 x2 x3
def q0k(F:Nat)(a0:Int)(a1:Int):Option (Int×Unit):=
 cond (decide (a1<1))
  (some (0,()))
  (cond (decide (8<a1))
   (some (0,()))
   ((qfk F a1).bind fun r829=>
   (qjy F a0 r829.1).bind fun r830=>
   (qin F F r830.1 a1 0 0).bind fun r864=>
   some (r864.1,())))
def q51(F:Nat)(a0:Int):Option (Int×Unit):=
 some ((y0 .i64 (a0*a0)),())
def qak(F:Nat)(a0:Int)(a1:Int)(a2:Int):Option (Int×Unit):=
 (q10 F a0 a1).bind fun r2075=>
 (q51 F (y0 .i64 (r2075.1-a2))).bind fun r2077=>
 some (r2077.1,())
def q31(F:Nat)(rec:Int→Int→Int→Int→Int→Int→Option (Int×Unit))(x0:Int)(x1:Int)(x2:Int)(x3:Int)(x4:Int)(x5:Int):Option (Int×Unit):=
 cond (decide (x5<x4))
  ((qak F x5 x0 x1).bind fun r2118=>
  cond (x5==0)
   (rec x0 x1 x5 r2118.1 x4 (y0 .i64 (x5+1)))
   (cond (decide (r2118.1<x3))
    (rec x0 x1 x5 r2118.1 x4 (y0 .i64 (x5+1)))
    (rec x0 x1 x2 x3 x4 (y0 .i64 (x5+1)))))
  (some (x2,()))
def q0i(F:Nat):Nat→Int→Int→Int→Int→Int→Int→Option (Int×Unit)
 |0,_,_,_,_,_,_=>none
 |k+1,x0,x1,x2,x3,x4,x5=>q31 F (q0i F k) x0 x1 x2 x3 x4 x5
def qce(F:Nat)(a0:Int)(a1:Int)(a2:Int):Option (Int×Unit):=
 (q0i F F a1 a2 0 0 a0 0).bind fun r2124=>
 some (r2124.1,())
def qal(F:Nat)(a0:Int)(a1:Int):Option (Int×Unit):=
 (qt9 F a1).bind fun r2067=>
 cond r2067.1
  (some (0,()))
  (cond (decide (0≤a1))
   ((qce F (ishl .i64 1 a1) a1 a0).bind fun r2125=>
   some (r2125.1,()))
    none)
def q32(F:Nat)(a0:Int)(a1:Int):Option (Int×Unit):=
 some ((max 0 (min a0 a1)),())
def qjz(F:Nat)(a0:Int):Option (Int×Unit):=
 some ((y0 .i64 (a0*a0)),())
def q6f:LI:=[0,0,0,0,0,0,0,0,0,0,0,0,0,0,0,0]
def qam:LI:=[0,0,0,0,0,0,0,0]
def q07(F:Nat)(a0:Int)(a1:Int)(a2:Int)(a3:LI)(a4:Bool):Option (LI×Bool×Unit):=
 (q2r F a3 a0 a1 (y0 .u64 a2)).bind fun r157=>
 cond a4
  (let b159:Bool:=(r157.2.1==0)
  cond b159
   (some (r157.1,b159,()))
   (some (a3,b159,())))
  (some (a3,false,()))
def qco(F:Nat)(a0:Bool):Option (Int×Unit):=
 cond a0
  (some (1,()))
  (some (0,()))
def q1m(F:Nat)(a0:Int):Option (Int×Unit):=
 some ((y0 .i64 ((y0 .i64 (4*(yw a0 4)))+(y0 .i64 (yx a0 4)))),())
def qdi(F:Nat)(rec:Bool→Bool→LI→LI→LI→LI→LI→Bool→Int→Option (Bool×Bool×LI×LI×LI×LI×LI×Bool×Unit))(x0:Bool)(x1:Bool)(x2:LI)(x3:LI)(x4:LI)(x5:LI)(x6:LI)(x7:Bool)(x8:Int):Option (Bool×Bool×LI×LI×LI×LI×LI×Bool×Unit):=
 cond (decide (x8<3))
  (let v470:Int:=(y0 .i64 (8*x8))
  cond (!x0)
   (let b472:Bool:=((decide (0≤x8))&&(decide (x8<3)))
   cond b472
    ((q07 F v470 4 (y7 x2 (y6 x8) 0) x6 x7).bind fun r475=>
    cond b472
     ((q07 F (y0 .i64 (v470+4)) 4 (y7 x3 (y6 x8) 0) r475.1 r475.2.1).bind fun r479=>
     rec x0 x1 x2 x3 x4 x5 r479.1 r479.2.1 (y0 .i64 (x8+1)))
      none)
     none)
   (let b482:Bool:=((decide (0≤x8))&&(decide (x8<3)))
   cond b482
    ((q07 F v470 5 (y7 x2 (y6 x8) 0) x6 x7).bind fun r485=>
    let v487:Int:=(y0 .i64 (v470+5))
    cond b482
     (cond b482
      (let v488:Int:=(y7 x3 (y6 x8) 0)
      cond (decide (v488<0))
       (cond b482
        ((qco F (decide ((-4)≤v488))).bind fun r491=>
        (q07 F v487 3 (y0 .i64 (v488-(y0 .i64 ((-8)*r491.1)))) r485.1 r485.2.1).bind fun r494=>
        cond r494.2.1
         (cond b482
          (rec x0 x1 x2 x3 x4 x5 r494.1 (decide (v488<4)) (y0 .i64 (x8+1)))
           none)
         (rec x0 x1 x2 x3 x4 x5 r494.1 false (y0 .i64 (x8+1))))
         none)
       ((qco F false).bind fun r499=>
       (q07 F v487 3 (y0 .i64 (v488-(y0 .i64 ((-8)*r499.1)))) r485.1 r485.2.1).bind fun r502=>
       cond r502.2.1
        (cond b482
         (rec x0 x1 x2 x3 x4 x5 r502.1 (decide (v488<4)) (y0 .i64 (x8+1)))
          none)
        (rec x0 x1 x2 x3 x4 x5 r502.1 false (y0 .i64 (x8+1)))))
       none)
      none)
     none))
  (some (x0,x1,x2,x3,x4,x5,x6,x7,()))
def q30(F:Nat):Nat→Bool→Bool→LI→LI→LI→LI→LI→Bool→Int→Option (Bool×Bool×LI×LI×LI×LI×LI×Bool×Unit)
 |0,_,_,_,_,_,_,_,_,_=>none
 |k+1,x0,x1,x2,x3,x4,x5,x6,x7,x8=>qdi F (q30 F k) x0 x1 x2 x3 x4 x5 x6 x7 x8
def qdj(F:Nat)(rec:LI→Bool→LI→Int→Option (LI×Bool×Unit))(x0:LI)(x1:Bool)(x2:LI)(x3:Int):Option (LI×Bool×Unit):=
 cond (decide (x3<16))
  (cond ((decide (0≤x3))&&(decide (x3<16)))
   (let v603:Int:=(y7 x2 (y6 x3) 0)
   cond x1
    (cond (decide (0≤v603))
     ((q1m F x3).bind fun r606=>
     (q07 F (y0 .i64 (47-r606.1)) 1 (iand .i64 (ishr .i64 v603 1) 1) x0 (decide (v603<4))).bind fun r610=>
     (q1m F x3).bind fun r612=>
     (q07 F (y0 .i64 (63-r612.1)) 1 (iand .i64 v603 1) r610.1 r610.2.1).bind fun r615=>
     rec r615.1 r615.2.1 x2 (y0 .i64 (x3+1)))
     ((q1m F x3).bind fun r618=>
     (q07 F (y0 .i64 (47-r618.1)) 1 (iand .i64 (ishr .i64 v603 1) 1) x0 false).bind fun r622=>
     (q1m F x3).bind fun r624=>
     (q07 F (y0 .i64 (63-r624.1)) 1 (iand .i64 v603 1) r622.1 r622.2.1).bind fun r627=>
     rec r627.1 r627.2.1 x2 (y0 .i64 (x3+1))))
    ((q1m F x3).bind fun r630=>
    (q07 F (y0 .i64 (47-r630.1)) 1 (iand .i64 (ishr .i64 v603 1) 1) x0 false).bind fun r634=>
    (q1m F x3).bind fun r636=>
    (q07 F (y0 .i64 (63-r636.1)) 1 (iand .i64 v603 1) r634.1 r634.2.1).bind fun r639=>
    rec r639.1 r639.2.1 x2 (y0 .i64 (x3+1))))
    none)
  (some (x0,x1,()))
def q3p(F:Nat):Nat→LI→Bool→LI→Int→Option (LI×Bool×Unit)
 |0,_,_,_,_=>none
 |k+1,x0,x1,x2,x3=>qdj F (q3p F k) x0 x1 x2 x3
def qcf(F:Nat)(a0:(Bool×Bool×LI×LI×LI×LI×Unit)):Option (LI×Int×Unit):=
 (q30 F F a0.1 a0.2.1 a0.2.2.1 a0.2.2.2.1 a0.2.2.2.2.1 a0.2.2.2.2.2.1 qam true 0).bind fun r507=>
 (q07 F 24 3 (y7 r507.2.2.2.2.1 0 0) r507.2.2.2.2.2.2.1 r507.2.2.2.2.2.2.2.1).bind fun r510=>
 (q07 F 27 3 (y7 r507.2.2.2.2.1 1 0) r510.1 r510.2.1).bind fun r513=>
 (qco F r507.1).bind fun r515=>
 (q07 F 30 1 r515.1 r513.1 r513.2.1).bind fun r516=>
 (qco F r507.2.1).bind fun r518=>
 (q07 F 31 1 r518.1 r516.1 r516.2.1).bind fun r519=>
 (q3p F F r519.1 r519.2.1 r507.2.2.2.2.2.1 0).bind fun r642=>
 cond (!r642.2.1)
  (some ([],1,()))
  (some (r642.1,0,()))
def q59:LI:=[0,0,0,0,0,0,0,0,0,0,0,0,0,0,0,0,0,0,0,0,0,0,0,0,0,0,0,0,0,0,0,0,0,0,0,0,0,0,0,0,0,0,0,0,0,0,0,0,0,0,0,0,0,0,0,0,0,0,0,0,0,0,0,0]
def q0w(F:Nat)(a0:Int)(a1:Int)(a2:LI):Option (Int×Unit):=
 (qdg F a2 a0 a1).bind fun r711=>
 some ((y0 .i64 r711.1),())
def qbu(F:Nat)(rec:LI→LI→LI→LI→Bool→Bool→LI→LI→LI→LI→LI→Int→Option (LI×LI×LI×LI×Bool×Bool×LI×LI×LI×LI×LI×Unit))(x0:LI)(x1:LI)(x2:LI)(x3:LI)(x4:Bool)(x5:Bool)(x6:LI)(x7:LI)(x8:LI)(x9:LI)(x10:LI)(x11:Int):Option (LI×LI×LI×LI×Bool×Bool×LI×LI×LI×LI×LI×Unit):=
 cond (decide (x11<3))
  (let v758:Int:=(y0 .i64 (8*x11))
  cond (!x4)
   ((q0w F v758 4 x10).bind fun r761=>
   let b762:Bool:=((decide (0≤x11))&&(decide (x11<3)))
   cond b762
    ((q0w F (y0 .i64 (v758+4)) 4 x10).bind fun r764=>
    cond b762
     (rec x0 x1 x2 x3 x4 x5 (yy x6 (y6 x11) r761.1) (yy x7 (y6 x11) r764.1) x8 x9 x10 (y0 .i64 (x11+1)))
      none)
     none)
   ((q0w F v758 5 x10).bind fun r769=>
   let b770:Bool:=((decide (0≤x11))&&(decide (x11<3)))
   cond b770
    ((q0w F (y0 .i64 (v758+5)) 3 x10).bind fun r772=>
    let l773:LI:=(yy x6 (y6 x11) r769.1)
    cond b770
     (let l774:LI:=(yy x7 (y6 x11) r772.1)
     cond b770
      (let v775:Int:=(y7 l774 (y6 x11) 0)
      cond (decide (4≤v775))
       (cond b770
        (cond b770
         (rec x0 x1 x2 x3 x4 x5 l773 (yy l774 (y6 x11) (y0 .i64 (v775+(-8)))) x8 x9 x10 (y0 .i64 (x11+1)))
          none)
         none)
       (rec x0 x1 x2 x3 x4 x5 l773 l774 x8 x9 x10 (y0 .i64 (x11+1))))
       none)
      none)
     none))
  (some (x0,x1,x2,x3,x4,x5,x6,x7,x8,x9,x10,()))
def q33(F:Nat):Nat→LI→LI→LI→LI→Bool→Bool→LI→LI→LI→LI→LI→Int→Option (LI×LI×LI×LI×Bool×Bool×LI×LI×LI×LI×LI×Unit)
 |0,_,_,_,_,_,_,_,_,_,_,_,_=>none
 |k+1,x0,x1,x2,x3,x4,x5,x6,x7,x8,x9,x10,x11=>qbu F (q33 F k) x0 x1 x2 x3 x4 x5 x6 x7 x8 x9 x10 x11
def q69(F:Nat)(rec:LI→LI→LI→LI→Bool→Bool→LI→LI→LI→LI→LI→Int→Option (LI×LI×LI×LI×Bool×Bool×LI×LI×LI×LI×Unit))(x0:LI)(x1:LI)(x2:LI)(x3:LI)(x4:Bool)(x5:Bool)(x6:LI)(x7:LI)(x8:LI)(x9:LI)(x10:LI)(x11:Int):Option (LI×LI×LI×LI×Bool×Bool×LI×LI×LI×LI×Unit):=
 cond (decide (x11<16))
  ((q1m F x11).bind fun r811=>
  (q0w F (y0 .i64 (47-r811.1)) 1 x10).bind fun r813=>
  (q1m F x11).bind fun r815=>
  (q0w F (y0 .i64 (63-r815.1)) 1 x10).bind fun r817=>
  cond ((decide (0≤x11))&&(decide (x11<16)))
   (rec x0 x1 x2 x3 x4 x5 x6 x7 x8 (yy x9 (y6 x11) (y0 .i64 ((y0 .i64 (2*r813.1))+r817.1))) x10 (y0 .i64 (x11+1)))
    none)
  (some (x0,x1,x2,x3,x4,x5,x6,x7,x8,x9,()))
def q3z(F:Nat):Nat→LI→LI→LI→LI→Bool→Bool→LI→LI→LI→LI→LI→Int→Option (LI×LI×LI×LI×Bool×Bool×LI×LI×LI×LI×Unit)
 |0,_,_,_,_,_,_,_,_,_,_,_,_=>none
 |k+1,x0,x1,x2,x3,x4,x5,x6,x7,x8,x9,x10,x11=>q69 F (q3z F k) x0 x1 x2 x3 x4 x5 x6 x7 x8 x9 x10 x11
def q40(F:Nat)(a0:LI):Option ((Bool×Bool×LI×LI×LI×LI×Unit)×Int×Unit):=
 cond ((((ya a0):Nat):Int) !=8)
  (some ((false,false,[0,0,0],[0,0,0],[0,0],q6f,()),1,()))
  ((q0w F 30 1 a0).bind fun r713=>
  (q0w F 31 1 a0).bind fun r715=>
  (q33 F F [0,0,0] [0,0,0] [0,0] q6f (r713.1==1) (r715.1==1) [0,0,0] [0,0,0] [0,0] q6f a0 0).bind fun r781=>
  (q0w F 24 3 r781.2.2.2.2.2.2.2.2.2.2.1).bind fun r783=>
  (q0w F 27 3 r781.2.2.2.2.2.2.2.2.2.2.1).bind fun r784=>
  (q3z F F r781.1 r781.2.1 r781.2.2.1 r781.2.2.2.1 r781.2.2.2.2.1 r781.2.2.2.2.2.1 r781.2.2.2.2.2.2.1 r781.2.2.2.2.2.2.2.1 [r783.1,r784.1] r781.2.2.2.2.2.2.2.2.2.1 r781.2.2.2.2.2.2.2.2.2.2.1 0).bind fun r823=>
  some ((r823.2.2.2.2.1,r823.2.2.2.2.2.1,r823.2.2.2.2.2.2.1,r823.2.2.2.2.2.2.2.1,r823.2.2.2.2.2.2.2.2.1,r823.2.2.2.2.2.2.2.2.2.1,()),0,()))
def qqs:LI:=[0,0,0,255,0,0,0,255]
def qbv(F:Nat)(rec:Bool→Bool→LI→LI→LI→LI→LI→LI→Int→Int→Option (LI×LI×Int×Unit))(x0:Bool)(x1:Bool)(x2:LI)(x3:LI)(x4:LI)(x5:LI)(x6:LI)(x7:LI)(x8:Int)(x9:Int):Option (LI×LI×Int×Unit):=
 cond (decide (x9<3))
  (let b918:Bool:=((decide (0≤x9))&&(decide (x9<3)))
  cond b918
   (let v920:Int:=(y7 x3 (y6 x9) 0)
   cond x0
    (cond b918
     (let v921:Int:=(y7 x2 (y6 x9) 0)
     cond b918
      (let v922:Int:=(y0 .i64 (v921+v920))
      cond (x8==3)
       (cond (decide (v922<0))
        (cond b918
         ((q10 F v921 5).bind fun r925=>
         let b926:Bool:=((decide (0≤x9))&&(decide (x9<4)))
         cond b926
          ((q10 F v922 5).bind fun r927=>
          cond b926
           (rec x0 x1 x2 x3 x4 x5 x6 (yy (yy x7 (y6 x9) r925.1) (4+(y6 x9)) r927.1) x9 (y0 .i64 (x9+1)))
            none)
           none)
          none)
        (cond ((ishr .i64 v922 5) !=0)
         (cond b918
          ((q10 F v921 5).bind fun r933=>
          let b934:Bool:=((decide (0≤x9))&&(decide (x9<4)))
          cond b934
           ((q10 F v922 5).bind fun r935=>
           cond b934
            (rec x0 x1 x2 x3 x4 x5 x6 (yy (yy x7 (y6 x9) r933.1) (4+(y6 x9)) r935.1) x9 (y0 .i64 (x9+1)))
             none)
            none)
           none)
         (cond b918
          ((q10 F v921 5).bind fun r939=>
          let b940:Bool:=((decide (0≤x9))&&(decide (x9<4)))
          cond b940
           ((q10 F v922 5).bind fun r941=>
           cond b940
            (rec x0 x1 x2 x3 x4 x5 x6 (yy (yy x7 (y6 x9) r939.1) (4+(y6 x9)) r941.1) x8 (y0 .i64 (x9+1)))
             none)
            none)
           none)))
       (cond b918
        ((q10 F v921 5).bind fun r945=>
        let b946:Bool:=((decide (0≤x9))&&(decide (x9<4)))
        cond b946
         ((q10 F v922 5).bind fun r947=>
         cond b946
          (rec x0 x1 x2 x3 x4 x5 x6 (yy (yy x7 (y6 x9) r945.1) (4+(y6 x9)) r947.1) x8 (y0 .i64 (x9+1)))
           none)
          none)
         none))
       none)
      none)
    (cond b918
     ((q10 F (y7 x2 (y6 x9) 0) 4).bind fun r952=>
     let b953:Bool:=((decide (0≤x9))&&(decide (x9<4)))
     cond b953
      ((q10 F v920 4).bind fun r954=>
      cond b953
       (rec x0 x1 x2 x3 x4 x5 x6 (yy (yy x7 (y6 x9) r952.1) (4+(y6 x9)) r954.1) x8 (y0 .i64 (x9+1)))
        none)
       none)
      none))
    none)
  (some (x6,x7,x8,()))
def q0x(F:Nat):Nat→Bool→Bool→LI→LI→LI→LI→LI→LI→Int→Int→Option (LI×LI×Int×Unit)
 |0,_,_,_,_,_,_,_,_,_,_=>none
 |k+1,x0,x1,x2,x3,x4,x5,x6,x7,x8,x9=>qbv F (q0x F k) x0 x1 x2 x3 x4 x5 x6 x7 x8 x9
def q9u(F:Nat)(a0:(Bool×Bool×LI×LI×LI×LI×Unit)):Option (LI×Int×Unit):=
 (q0x F F a0.1 a0.2.1 a0.2.2.1 a0.2.2.2.1 a0.2.2.2.2.1 a0.2.2.2.2.2.1 qam qqs 3 0).bind fun r958=>
 some (r958.2.1,r958.2.2.1,())
def q9v(F:Nat)(a0:Bool)(a1:Int):Option (Int×Unit):=
 let v961:Int:=(iand .i64 a1 15)
 cond a0
  (some ((y0 .i64 (yx v961 8)),()))
  (some ((y0 .i64 (yx (yw v961 4) 2)),()))
def z5s:LI:=[2,8,5,17,9,29,13,42,18,60,24,80,33,106,47,183]
def qcp(F:Nat)(a0:Int):Option (LI×Unit):=
 let v975:Int:=(iand .i64 a0 7)
 cond ((decide (0≤v975))&&(decide (v975<8)))
  (let l978:LI:=(y8 2 (y9 ((y6 v975)*2) z5s))
  let v979:Int:=(y7 l978 0 0)
  let v980:Int:=(y7 l978 1 0)
  some ([v979,v980,(y0 .i64 (0-v979)),(y0 .i64 (0-v980))],()))
   none
def qbw(F:Nat)(rec:Bool→Bool→LI→LI→LI→LI→LI→LI→LI→Int→Int→Int→LI→Int→Int→Option (Bool×Bool×LI×LI×LI×LI×LI×LI×LI×LI×Int×Unit))(x0:Bool)(x1:Bool)(x2:LI)(x3:LI)(x4:LI)(x5:LI)(x6:LI)(x7:LI)(x8:LI)(x9:Int)(x10:Int)(x11:Int)(x12:LI)(x13:Int)(x14:Int):Option (Bool×Bool×LI×LI×LI×LI×LI×LI×LI×LI×Int×Unit):=
 cond (decide (x14<3))
  (let b1095:Bool:=((decide (0≤x9))&&(decide (x9<16)))
  cond b1095
   (let b1097:Bool:=((decide (0≤x14))&&(decide (x14<4)))
   cond b1097
    (let n1098:Nat:=(((y6 x9)*4)+(y6 x14))
    cond ((decide (0≤x11))&&(decide (x11<2)))
     ((qcp F (y7 x4 (y6 x11) 0)).bind fun r1103=>
     let v1104:Int:=(iand .i64 x10 3)
     cond ((decide (0≤v1104))&&(decide (v1104<4)))
      ((q32 F (y0 .i64 ((y7 x8 n1098 0)+(y7 r1103.1 (y6 v1104) 0))) 255).bind fun r1108=>
      cond b1095
       (cond b1097
        (rec x0 x1 x2 x3 x4 x5 x6 x7 (yy x8 n1098 r1108.1) x9 x10 x11 x12 x13 (y0 .i64 (x14+1)))
         none)
        none)
       none)
      none)
     none)
    none)
  (some (x0,x1,x2,x3,x4,x5,x6,x7,x8,x12,x13,()))
def q2l(F:Nat):Nat→Bool→Bool→LI→LI→LI→LI→LI→LI→LI→Int→Int→Int→LI→Int→Int→Option (Bool×Bool×LI×LI×LI×LI×LI×LI×LI×LI×Int×Unit)
 |0,_,_,_,_,_,_,_,_,_,_,_,_,_,_,_=>none
 |k+1,x0,x1,x2,x3,x4,x5,x6,x7,x8,x9,x10,x11,x12,x13,x14=>qbw F (q2l F k) x0 x1 x2 x3 x4 x5 x6 x7 x8 x9 x10 x11 x12 x13 x14
def q6a(F:Nat)(rec:Bool→Bool→LI→LI→LI→LI→LI→LI→LI→LI→Int→Option (LI×LI×Unit))(x0:Bool)(x1:Bool)(x2:LI)(x3:LI)(x4:LI)(x5:LI)(x6:LI)(x7:LI)(x8:LI)(x9:LI)(x10:Int):Option (LI×LI×Unit):=
 cond (decide (x10<16))
  (let b1069:Bool:=((decide (0≤x10))&&(decide (x10<16)))
  cond b1069
   ((q9v F x1 x10).bind fun r1071=>
   cond ((decide (0≤r1071.1))&&(decide (r1071.1<2)))
    (cond b1069
     (let n1075:Nat:=((y6 x10)*4)
     (q2l F F x0 x1 x2 x3 x4 x5 x6 x7 (((y8 n1075 x8)++(y8 4 (y9 ((y6 r1071.1)*4) x7)))++(y9 (n1075+4) x8)) x10 (y7 x9 (y6 x10) 0) r1071.1 x9 x10 0).bind fun r1111=>
     rec r1111.1 r1111.2.1 r1111.2.2.1 r1111.2.2.2.1 r1111.2.2.2.2.1 r1111.2.2.2.2.2.1 r1111.2.2.2.2.2.2.1 r1111.2.2.2.2.2.2.2.1 r1111.2.2.2.2.2.2.2.2.1 r1111.2.2.2.2.2.2.2.2.2.1 (y0 .i64 (r1111.2.2.2.2.2.2.2.2.2.2.1+1)))
      none)
     none)
    none)
  (some (x6,x8,()))
def q41(F:Nat):Nat→Bool→Bool→LI→LI→LI→LI→LI→LI→LI→LI→Int→Option (LI×LI×Unit)
 |0,_,_,_,_,_,_,_,_,_,_,_=>none
 |k+1,x0,x1,x2,x3,x4,x5,x6,x7,x8,x9,x10=>q6a F (q41 F k) x0 x1 x2 x3 x4 x5 x6 x7 x8 x9 x10
def qgs(F:Nat)(a0:(Bool×Bool×LI×LI×LI×LI×Unit)):Option (LI×Unit):=
 (q9u F (a0.1,a0.2.1,a0.2.2.1,a0.2.2.2.1,a0.2.2.2.2.1,a0.2.2.2.2.2.1,())).bind fun r959=>
 (q41 F F a0.1 a0.2.1 a0.2.2.1 a0.2.2.2.1 a0.2.2.2.2.1 a0.2.2.2.2.2.1 q59 r959.1 q59 a0.2.2.2.2.2.1 0).bind fun r1113=>
 some (r1113.2.1,())
def qio(F:Nat)(a0:LI):Option (LI×Int×Unit):=
 (q40 F a0).bind fun r824=>
 cond (r824.2.1 !=0)
  (some (q59,r824.2.1,()))
  ((qgs F (r824.1.1,r824.1.2.1,r824.1.2.2.1,r824.1.2.2.2.1,r824.1.2.2.2.2.1,r824.1.2.2.2.2.2.1,())).bind fun r1114=>
  some (r1114.1,0,()))
def q26(F:Nat)(a0:LI)(a1:Int)(a2:Int):Option (Int×Unit):=
 (qno F a0 a1 a2 true).bind fun r1225=>
 some ((y0 .i64 r1225.1),())
def q79(F:Nat)(rec:LI→LI→LI→Int→Option (LI×LI×Unit))(x0:LI)(x1:LI)(x2:LI)(x3:Int):Option (LI×LI×Unit):=
 cond (decide (x3<16))
  (let v1326:Int:=(y0 .i64 ((y0 .i64 (4*(yw x3 4)))+(y0 .i64 (yx x3 4))))
  (q26 F x0 (y0 .i64 (47-v1326)) 1).bind fun r1328=>
  (q26 F x0 (y0 .i64 (63-v1326)) 1).bind fun r1331=>
  cond ((decide (0≤x3))&&(decide (x3<16)))
   (rec x0 x1 (yy x2 (y6 x3) (y0 .i64 ((y0 .i64 (2*r1328.1))+r1331.1))) (y0 .i64 (x3+1)))
    none)
  (some (x1,x2,()))
def q52(F:Nat):Nat→LI→LI→LI→Int→Option (LI×LI×Unit)
 |0,_,_,_,_=>none
 |k+1,x0,x1,x2,x3=>q79 F (q52 F k) x0 x1 x2 x3
def qph(F:Nat)(a0:LI):Option (LI×Unit):=
 (q52 F F a0 q6f q6f 0).bind fun r1337=>
 some (r1337.2.1,())
def qdk(F:Nat)(rec:LI→LI→LI→LI→LI→Bool→Bool→LI→LI→LI→LI→Int→Option (LI×LI×LI×LI×LI×Bool×Bool×LI×LI×LI×LI×Unit))(x0:LI)(x1:LI)(x2:LI)(x3:LI)(x4:LI)(x5:Bool)(x6:Bool)(x7:LI)(x8:LI)(x9:LI)(x10:LI)(x11:Int):Option (LI×LI×LI×LI×LI×Bool×Bool×LI×LI×LI×LI×Unit):=
 cond (decide (x11<3))
  (cond x5
   (let v1271:Int:=(y0 .i64 (8*x11))
   (q26 F x0 v1271 5).bind fun r1272=>
   let b1273:Bool:=((decide (0≤x11))&&(decide (x11<3)))
   cond b1273
    (let l1275:LI:=(yy x7 (y6 x11) r1272.1)
    (q26 F x0 (y0 .i64 (v1271+5)) 3).bind fun r1277=>
    cond b1273
     (let l1278:LI:=(yy x8 (y6 x11) r1277.1)
     cond b1273
      (let v1279:Int:=(y7 l1278 (y6 x11) 0)
      cond (decide (3<v1279))
       (cond b1273
        (cond b1273
         (rec x0 x1 x2 x3 x4 x5 x6 l1275 (yy l1278 (y6 x11) (y0 .i64 (v1279-8))) x9 x10 (y0 .i64 (x11+1)))
          none)
         none)
       (rec x0 x1 x2 x3 x4 x5 x6 l1275 l1278 x9 x10 (y0 .i64 (x11+1))))
       none)
      none)
     none)
   (let v1285:Int:=(y0 .i64 (8*x11))
   (q26 F x0 v1285 4).bind fun r1286=>
   let b1287:Bool:=((decide (0≤x11))&&(decide (x11<3)))
   cond b1287
    ((q26 F x0 (y0 .i64 (v1285+4)) 4).bind fun r1291=>
    cond b1287
     (rec x0 x1 x2 x3 x4 x5 x6 (yy x7 (y6 x11) r1286.1) (yy x8 (y6 x11) r1291.1) x9 x10 (y0 .i64 (x11+1)))
      none)
     none))
  (some (x0,x1,x2,x3,x4,x5,x6,x7,x8,x9,x10,()))
def q3q(F:Nat):Nat→LI→LI→LI→LI→LI→Bool→Bool→LI→LI→LI→LI→Int→Option (LI×LI×LI×LI×LI×Bool×Bool×LI×LI×LI×LI×Unit)
 |0,_,_,_,_,_,_,_,_,_,_,_,_=>none
 |k+1,x0,x1,x2,x3,x4,x5,x6,x7,x8,x9,x10,x11=>qdk F (q3q F k) x0 x1 x2 x3 x4 x5 x6 x7 x8 x9 x10 x11
def q6q(F:Nat)(a0:LI):Option ((Bool×Bool×LI×LI×LI×LI×Unit)×Int×Unit):=
 cond ((((ya a0):Nat):Int) !=8)
  (some ((false,false,[0,0,0],[0,0,0],[0,0],q6f,()),1,()))
  ((q26 F a0 30 1).bind fun r1227=>
  (q26 F a0 31 1).bind fun r1229=>
  (q3q F F a0 [0,0,0] [0,0,0] [0,0] q6f (r1227.1==1) (r1229.1==1) [0,0,0] [0,0,0] [0,0] q6f 0).bind fun r1294=>
  (q26 F r1294.1 24 3).bind fun r1296=>
  (q26 F r1294.1 27 3).bind fun r1297=>
  (qph F r1294.1).bind fun r1338=>
  some ((r1294.2.2.2.2.2.1,r1294.2.2.2.2.2.2.1,r1294.2.2.2.2.2.2.2.1,r1294.2.2.2.2.2.2.2.2.1,[r1296.1,r1297.1],r1338.1,()),0,()))
def q73(F:Nat)(a0:Int)(a1:Int)(a2:Int):Option (Bool×Unit):=
 cond (decide (a1≤a0))
  (some ((decide (a0≤a2)),()))
  (some (false,()))
def qgt(F:Nat)(a0:Int)(a1:Int):Option (Int×Unit):=
 cond (!(a1==0))
  (cond (decide ((yw a0 a1)<0))
   (some ((y0 .i64 ((yw a0 a1)+a1)),()))
   (some ((yw a0 a1),())))
   none
def qdl(F:Nat)(rec:Bool→Bool→LI→LI→LI→LI→LI→LI→Int→Int→Option (LI×LI×Int×Unit))(x0:Bool)(x1:Bool)(x2:LI)(x3:LI)(x4:LI)(x5:LI)(x6:LI)(x7:LI)(x8:Int)(x9:Int):Option (LI×LI×Int×Unit):=
 cond (decide (0≤x9))
  (cond x0
   (let b1454:Bool:=((decide (0≤x9))&&(decide (x9<3)))
   cond b1454
    (let v1456:Int:=(y7 x2 (y6 x9) 0)
    cond b1454
     (let v1458:Int:=(y0 .i64 (v1456+(y7 x3 (y6 x9) 0)))
     (q73 F v1458 0 31).bind fun r1459=>
     cond (!r1459.1)
      (cond b1454
       ((q0k F v1456 5).bind fun r1461=>
       let b1462:Bool:=((decide (0≤x9))&&(decide (x9<4)))
       cond b1462
        ((qgt F v1458 32).bind fun r1464=>
        (q0k F r1464.1 5).bind fun r1465=>
        cond b1462
         (rec x0 x1 x2 x3 x4 x5 x6 (yy (yy x7 (y6 x9) r1461.1) (4+(y6 x9)) r1465.1) x9 (y0 .i64 (x9-1)))
          none)
         none)
        none)
      (cond b1454
       ((q0k F v1456 5).bind fun r1468=>
       let b1469:Bool:=((decide (0≤x9))&&(decide (x9<4)))
       cond b1469
        ((qgt F v1458 32).bind fun r1471=>
        (q0k F r1471.1 5).bind fun r1472=>
        cond b1469
         (rec x0 x1 x2 x3 x4 x5 x6 (yy (yy x7 (y6 x9) r1468.1) (4+(y6 x9)) r1472.1) x8 (y0 .i64 (x9-1)))
          none)
         none)
        none))
      none)
     none)
   (let b1475:Bool:=((decide (0≤x9))&&(decide (x9<3)))
   cond b1475
    ((q0k F (y7 x2 (y6 x9) 0) 4).bind fun r1478=>
    let b1479:Bool:=((decide (0≤x9))&&(decide (x9<4)))
    cond b1479
     (cond b1475
      ((q0k F (y7 x3 (y6 x9) 0) 4).bind fun r1482=>
      cond b1479
       (rec x0 x1 x2 x3 x4 x5 x6 (yy (yy x7 (y6 x9) r1478.1) (4+(y6 x9)) r1482.1) x8 (y0 .i64 (x9-1)))
        none)
       none)
      none)
     none))
  (some (x6,x7,x8,()))
def q13(F:Nat):Nat→Bool→Bool→LI→LI→LI→LI→LI→LI→Int→Int→Option (LI×LI×Int×Unit)
 |0,_,_,_,_,_,_,_,_,_,_=>none
 |k+1,x0,x1,x2,x3,x4,x5,x6,x7,x8,x9=>qdl F (q13 F k) x0 x1 x2 x3 x4 x5 x6 x7 x8 x9
def q9w(F:Nat)(a0:(Bool×Bool×LI×LI×LI×LI×Unit)):Option (LI×Int×Unit):=
 (q13 F F a0.1 a0.2.1 a0.2.2.1 a0.2.2.2.1 a0.2.2.2.2.1 a0.2.2.2.2.2.1 qam qqs 3 2).bind fun r1485=>
 some (r1485.2.1,r1485.2.2.1,())
def qnq(F:Nat)(a0:Bool)(a1:Int):Option (Int×Unit):=
 (qgt F a1 16).bind fun r1487=>
 cond a0
  (some ((y0 .i64 (yx r1487.1 8)),()))
  (some ((y0 .i64 (yx (yw r1487.1 4) 2)),()))
def qpi(F:Nat)(a0:Int):Option (LI×Unit):=
 (qgt F a0 8).bind fun r1497=>
 cond (r1497.1==0)
  (some ([2,8,(-2),(-8)],()))
  (cond (r1497.1==1)
   (some ([5,17,(-5),(-17)],()))
   (cond (r1497.1==2)
    (some ([9,29,(-9),(-29)],()))
    (cond (r1497.1==3)
     (some ([13,42,(-13),(-42)],()))
     (cond (r1497.1==4)
      (some ([18,60,(-18),(-60)],()))
      (cond (r1497.1==5)
       (some ([24,80,(-24),(-80)],()))
       (cond (r1497.1==6)
        (some ([33,106,(-33),(-106)],()))
        (cond (r1497.1==7)
         (some ([47,183,(-47),(-183)],()))
          none)))))))
def q5f(F:Nat)(a0:Int)(a1:Int):Option (Int×Unit):=
 cond (decide (a1<a0))
  (cond (decide (a1<0))
   (some (0,()))
   (some (a1,())))
  (cond (decide (a0<0))
   (some (0,()))
   (some (a0,())))
def qip(F:Nat)(rec:Int→LI→LI→Int→Option (LI×LI×Unit))(x0:Int)(x1:LI)(x2:LI)(x3:Int):Option (LI×LI×Unit):=
 cond (decide (x3<3))
  (let b1526:Bool:=((decide (0≤x3))&&(decide (x3<4)))
  cond b1526
   ((q5f F (y0 .i64 ((y7 x1 (y6 x3) 0)+x0)) 255).bind fun r1530=>
   cond b1526
    (rec x0 (yy x1 (y6 x3) r1530.1) x2 (y0 .i64 (x3+1)))
     none)
    none)
  (some (x1,x2,()))
def q6g(F:Nat):Nat→Int→LI→LI→Int→Option (LI×LI×Unit)
 |0,_,_,_,_=>none
 |k+1,x0,x1,x2,x3=>qip F (q6g F k) x0 x1 x2 x3
def q1t(F:Nat)(a0:LI)(a1:Int):Option (LI×Unit):=
 (q6g F F a1 a0 [0,0,0,0] 0).bind fun r1533=>
 some (r1533.1,())
def q7a(F:Nat)(rec:Bool→Bool→LI→LI→LI→LI→LI→LI→LI→Int→Option (LI×LI×Unit))(x0:Bool)(x1:Bool)(x2:LI)(x3:LI)(x4:LI)(x5:LI)(x6:LI)(x7:LI)(x8:LI)(x9:Int):Option (LI×LI×Unit):=
 cond (decide (x9<16))
  ((qnq F x1 x9).bind fun r1554=>
  let b1555:Bool:=((decide (0≤r1554.1))&&(decide (r1554.1<2)))
  cond b1555
   (cond b1555
    ((qpi F (y7 x4 (y6 r1554.1) 0)).bind fun r1560=>
    let b1561:Bool:=((decide (0≤x9))&&(decide (x9<16)))
    cond b1561
     (let v1563:Int:=(y7 x5 (y6 x9) 0)
     cond ((decide (0≤v1563))&&(decide (v1563<4)))
      ((q1t F (y8 4 (y9 ((y6 r1554.1)*4) x7)) (y7 r1560.1 (y6 v1563) 0)).bind fun r1566=>
      cond b1561
       (let n1567:Nat:=((y6 x9)*4)
       rec x0 x1 x2 x3 x4 x5 x6 x7 (((y8 n1567 x8)++r1566.1)++(y9 (n1567+4) x8)) (y0 .i64 (x9+1)))
        none)
       none)
      none)
     none)
    none)
  (some (x6,x8,()))
def q53(F:Nat):Nat→Bool→Bool→LI→LI→LI→LI→LI→LI→LI→Int→Option (LI×LI×Unit)
 |0,_,_,_,_,_,_,_,_,_,_=>none
 |k+1,x0,x1,x2,x3,x4,x5,x6,x7,x8,x9=>q7a F (q53 F k) x0 x1 x2 x3 x4 x5 x6 x7 x8 x9
def q9x(F:Nat)(a0:(Bool×Bool×LI×LI×LI×LI×Unit)):Option (LI×Unit):=
 (q9w F (a0.1,a0.2.1,a0.2.2.1,a0.2.2.2.1,a0.2.2.2.2.1,a0.2.2.2.2.2.1,())).bind fun r1486=>
 (q53 F F a0.1 a0.2.1 a0.2.2.1 a0.2.2.2.1 a0.2.2.2.2.1 a0.2.2.2.2.2.1 q59 r1486.1 q59 0).bind fun r1570=>
 some (r1570.2.1,())
def qgu(F:Nat)(a0:LI):Option (LI×Int×Unit):=
 (q6q F a0).bind fun r1342=>
 cond (r1342.2.1 !=0)
  (some (q59,r1342.2.1,()))
  ((q9x F (r1342.1.1,r1342.1.2.1,r1342.1.2.2.1,r1342.1.2.2.2.1,r1342.1.2.2.2.2.1,r1342.1.2.2.2.2.2.1,())).bind fun r1571=>
  some (r1571.1,0,()))
def qiq(F:Nat)(rec:Bool→Bool→LI→LI→LI→LI→Int→Option (Unit⊕(Bool×Bool×LI×LI×LI×LI×Unit)))(x0:Bool)(x1:Bool)(x2:LI)(x3:LI)(x4:LI)(x5:LI)(x6:Int):Option (Unit⊕(Bool×Bool×LI×LI×LI×LI×Unit)):=
 cond (decide (x6<3))
  (cond x0
   (let b1634:Bool:=((decide (0≤x6))&&(decide (x6<3)))
   cond b1634
    (let v1636:Int:=(y7 x2 (y6 x6) 0)
    (q73 F v1636 0 31).bind fun r1637=>
    cond (!r1637.1)
     (some (.inl ()))
     (cond b1634
      (let v1639:Int:=(y7 x3 (y6 x6) 0)
      (q73 F v1639 (-4) 3).bind fun r1640=>
      cond (!r1640.1)
       (some (.inl ()))
       (cond (!x0)
        (cond b1634
         ((q73 F v1636 0 15).bind fun r1643=>
         cond (!r1643.1)
          (some (.inl ()))
          (cond b1634
           ((q73 F v1639 0 15).bind fun r1645=>
           cond (!r1645.1)
            (some (.inl ()))
            (rec x0 x1 x2 x3 x4 x5 (y0 .i64 (x6+1))))
            none))
          none)
        (rec x0 x1 x2 x3 x4 x5 (y0 .i64 (x6+1)))))
       none))
     none)
   (cond (!x0)
    (let b1650:Bool:=((decide (0≤x6))&&(decide (x6<3)))
    cond b1650
     ((q73 F (y7 x2 (y6 x6) 0) 0 15).bind fun r1653=>
     cond (!r1653.1)
      (some (.inl ()))
      (cond b1650
       ((q73 F (y7 x3 (y6 x6) 0) 0 15).bind fun r1656=>
       cond (!r1656.1)
        (some (.inl ()))
        (rec x0 x1 x2 x3 x4 x5 (y0 .i64 (x6+1))))
        none))
      none)
    (rec x0 x1 x2 x3 x4 x5 (y0 .i64 (x6+1)))))
  (some (.inr (x0,x1,x2,x3,x4,x5,())))
def q42(F:Nat):Nat→Bool→Bool→LI→LI→LI→LI→Int→Option (Unit⊕(Bool×Bool×LI×LI×LI×LI×Unit))
 |0,_,_,_,_,_,_,_=>none
 |k+1,x0,x1,x2,x3,x4,x5,x6=>qiq F (q42 F k) x0 x1 x2 x3 x4 x5 x6
def qir(F:Nat)(rec:Bool→Bool→LI→LI→LI→LI→Int→Option (Unit⊕(Bool×Bool×LI×LI×LI×LI×Unit)))(x0:Bool)(x1:Bool)(x2:LI)(x3:LI)(x4:LI)(x5:LI)(x6:Int):Option (Unit⊕(Bool×Bool×LI×LI×LI×LI×Unit)):=
 cond (decide (x6<16))
  (cond ((decide (0≤x6))&&(decide (x6<16)))
   ((q73 F (y7 x5 (y6 x6) 0) 0 3).bind fun r1675=>
   cond (!r1675.1)
    (some (.inl ()))
    (rec x0 x1 x2 x3 x4 x5 (y0 .i64 (x6+1))))
    none)
  (some (.inr (x0,x1,x2,x3,x4,x5,())))
def q7s(F:Nat):Nat→Bool→Bool→LI→LI→LI→LI→Int→Option (Unit⊕(Bool×Bool×LI×LI×LI×LI×Unit))
 |0,_,_,_,_,_,_,_=>none
 |k+1,x0,x1,x2,x3,x4,x5,x6=>qir F (q7s F k) x0 x1 x2 x3 x4 x5 x6
def qtb(F:Nat)(a0:(Bool×Bool×LI×LI×LI×LI×Unit)):Option (Bool×Unit):=
 (q42 F F a0.1 a0.2.1 a0.2.2.1 a0.2.2.2.1 a0.2.2.2.2.1 a0.2.2.2.2.2.1 0).bind fun r1660=>match r1660 with
  | .inl r1660=>(some (false,()))
  | .inr r1660=>((q7s F F r1660.1 r1660.2.1 r1660.2.2.1 r1660.2.2.2.1 r1660.2.2.2.2.1 r1660.2.2.2.2.2.1 0).bind fun r1678=>match r1678 with
    | .inl r1678=>(some (false,()))
    | .inr r1678=>((q73 F (y7 r1678.2.2.2.2.1 0 0) 0 7).bind fun r1680=>
     cond r1680.1
      ((q73 F (y7 r1678.2.2.2.2.1 1 0) 0 7).bind fun r1682=>
      some (r1682.1,()))
      (some (false,()))))
def q6h(F:Nat)(a0:LI)(a1:Int)(a2:Int)(a3:Int):Option (LI×Unit):=
 (qbg F a0 a1 a2 true (y0 .u64 a3)).bind fun r2317=>
 some (r2317.1,())
def z0u(F:Nat)(a0:Bool):Option (Int×Unit):=
 cond a0
  (some (1,()))
  (some (0,()))
def qis(F:Nat)(rec:LI→LI→Int→Option (LI×Unit))(x0:LI)(x1:LI)(x2:Int):Option (LI×Unit):=
 cond (decide (x2<16))
  (let v2474:Int:=(y0 .i64 ((y0 .i64 (4*(yw x2 4)))+(y0 .i64 (yx x2 4))))
  let b2476:Bool:=((decide (0≤x2))&&(decide (x2<16)))
  cond b2476
   (let v2478:Int:=(y7 x1 (y6 x2) 0)
   (q6h F x0 (y0 .i64 (47-v2474)) 1 (y0 .i64 (yx v2478 2))).bind fun r2480=>
   cond b2476
    ((q6h F r2480.1 (y0 .i64 (63-v2474)) 1 (yw v2478 2)).bind fun r2484=>
    rec r2484.1 x1 (y0 .i64 (x2+1)))
     none)
    none)
  (some (x0,()))
def q9y(F:Nat):Nat→LI→LI→Int→Option (LI×Unit)
 |0,_,_,_=>none
 |k+1,x0,x1,x2=>qis F (q9y F k) x0 x1 x2
def z0v(F:Nat)(a0:LI)(a1:LI):Option (LI×Unit):=
 (q9y F F a0 a1 0).bind fun r2487=>
 some (r2487.1,())
def qg7(F:Nat)(rec:Bool→Bool→LI→LI→LI→LI→LI→Int→Option (Bool×Bool×LI×LI×LI×LI×LI×Unit))(x0:Bool)(x1:Bool)(x2:LI)(x3:LI)(x4:LI)(x5:LI)(x6:LI)(x7:Int):Option (Bool×Bool×LI×LI×LI×LI×LI×Unit):=
 cond (decide (x7<3))
  (cond x0
   (let v2534:Int:=(y0 .i64 (8*x7))
   let b2535:Bool:=((decide (0≤x7))&&(decide (x7<3)))
   cond b2535
    ((q6h F x6 v2534 5 (y7 x2 (y6 x7) 0)).bind fun r2538=>
    cond b2535
     ((qgt F (y7 x3 (y6 x7) 0) 8).bind fun r2542=>
     (q6h F r2538.1 (y0 .i64 (v2534+5)) 3 r2542.1).bind fun r2543=>
     rec x0 x1 x2 x3 x4 x5 r2543.1 (y0 .i64 (x7+1)))
      none)
     none)
   (let v2546:Int:=(y0 .i64 (8*x7))
   let b2547:Bool:=((decide (0≤x7))&&(decide (x7<3)))
   cond b2547
    ((q6h F x6 v2546 4 (y7 x2 (y6 x7) 0)).bind fun r2550=>
    cond b2547
     ((q6h F r2550.1 (y0 .i64 (v2546+4)) 4 (y7 x3 (y6 x7) 0)).bind fun r2554=>
     rec x0 x1 x2 x3 x4 x5 r2554.1 (y0 .i64 (x7+1)))
      none)
     none))
  (some (x0,x1,x2,x3,x4,x5,x6,()))
def q3r(F:Nat):Nat→Bool→Bool→LI→LI→LI→LI→LI→Int→Option (Bool×Bool×LI×LI×LI×LI×LI×Unit)
 |0,_,_,_,_,_,_,_,_=>none
 |k+1,x0,x1,x2,x3,x4,x5,x6,x7=>qg7 F (q3r F k) x0 x1 x2 x3 x4 x5 x6 x7
def qnr(F:Nat)(a0:(Bool×Bool×LI×LI×LI×LI×Unit)):Option (LI×Int×Unit):=
 (qtb F (a0.1,a0.2.1,a0.2.2.1,a0.2.2.2.1,a0.2.2.2.2.1,a0.2.2.2.2.2.1,())).bind fun r2491=>
 cond (!r2491.1)
  (some ([],1,()))
  ((q3r F F a0.1 a0.2.1 a0.2.2.1 a0.2.2.2.1 a0.2.2.2.2.1 a0.2.2.2.2.2.1 qam 0).bind fun r2557=>
  (q6h F r2557.2.2.2.2.2.2.1 24 3 (y7 r2557.2.2.2.2.1 0 0)).bind fun r2560=>
  (q6h F r2560.1 27 3 (y7 r2557.2.2.2.2.1 1 0)).bind fun r2563=>
  (z0u F r2557.1).bind fun r2565=>
  (q6h F r2563.1 30 1 r2565.1).bind fun r2566=>
  (z0u F r2557.2.1).bind fun r2568=>
  (q6h F r2566.1 31 1 r2568.1).bind fun r2569=>
  (z0v F r2569.1 r2557.2.2.2.2.2.1).bind fun r2571=>
  some (r2571.1,0,()))
end Go.AE.Gn
